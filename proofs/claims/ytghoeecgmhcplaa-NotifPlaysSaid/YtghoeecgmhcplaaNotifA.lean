/- Walks through the small functions of notif: waits, Send$1, gone, of, Get, Valid, Epoch, Len. -/
import Derived.Test.YtghoeecgmhcplaaProg
import Derived.Test.YtghoeecgmhcplaaMaps
import Derived.Test.YtghoeecgmhcplaaTab
import Derived.BigQuiet
import Derived.Deep.QuietTactic
set_option linter.unusedVariables false
set_option linter.unusedSimpArgs false
namespace Go.Proofs.Ytghoeecgmhcplaa
open Go Go.RowKit Go.FL

theorem zeroPtr (w : World) : (zeroValue 64).run Try.prog w = .ok (.pointer none) w := by kernel_rfl
abbrev TabAt' := TabAt 62 36

theorem waits_true (b : Nat) (x : Ent) (w : World) (hx : w.heap[b]? = some (.cells (entCells x) 36 (0, 0))) (r : Bool) (hr : x.waits = r) :
    Calls Try.prog 25 #[.pointer (some ⟨b, 0, none⟩)] w fun e w' => e = .returned (.bool r) ∧ w = w' := by
  have h2 : w.cell? ⟨b, 2, none⟩ = some (.int .i64 x.state) := by rw [cell_of hx]; rfl
  have HR := Lib.hid hr
  clear hr
  go_enter Try.func25, Try.ntmps25
  go_wp2
  · go_ret
    have h : x.state = 1 := by assumption
    rw [← HR.out]
    simp [Ent.waits, h]
  · go_ret
    rw [← HR.out]
    exact ⟨rfl, rfl⟩

theorem init_true (b : Nat) (x : Ent) (w : World) (hx : w.heap[b]? = some (.cells (entCells x) 36 (0, 0))) (r : Bool) (hr : (x.state == 1) = r) :
    Calls Try.prog 38 #[.pointer (some ⟨b, 0, none⟩)] w fun e w' => e = .returned (.bool r) ∧ w = w' := by
  have h2 : w.cell? ⟨b, 2, none⟩ = some (.int .i64 x.state) := by rw [cell_of hx]; rfl
  have HR := Lib.hid hr
  clear hr
  go_enter Try.func38, Try.ntmps38
  go_wp2
  go_ret
  rw [← HR.out]
  exact ⟨rfl, rfl⟩

theorem gone_any (b : Nat) (x : Ent) (k : Int) (w : World) (hx : w.heap[b]? = some (.cells (entCells x) 36 (0, 0))) :
    Calls Try.prog 27 #[.pointer (some ⟨b, 0, none⟩), .int .i64 k] w fun e w' => e = .returned (.tuple #[]) ∧ w'.heap[b]? = some (.cells (entCells (x.gone k)) 36 (0, 0)) ∧ Mod (· = b) w w' ∧ w'.heap.size = w.heap.size := by
  have hb := lt_of_heap hx
  have c2 : w.cell? ⟨b, 2, none⟩ = some (.int .i64 x.state) := by rw [cell_of hx]; rfl
  have c4 : w.cell? ⟨b, 4, none⟩ = some (.int .i64 x.ok) := by rw [cell_of hx]; rfl
  have c5 : w.cell? ⟨b, 5, none⟩ = some (.int .i64 x.ov) := by rw [cell_of hx]; rfl
  have f2 := free_of hx 2
  have f4 := free_of hx 4
  have f5 := free_of hx 5
  go_enter Try.func27, Try.ntmps27
  go_wp2
  go_end0
  exact ⟨rfl, setCell_heap (setCell_heap (setCell_heap hx)), (((Mod.refl (· = b) w).setCell (fun _ => rfl) _).setCell (fun _ => rfl) _).setCell (fun _ => rfl) _, by simp only [setCell_size]⟩

/-- what the loop of 'of' has seen has another task -/
theorem of_any (a mb : Nat) (R : RTab) (task : Int) (w : World) (hT : TabAt' w a mb R) :
    Calls Try.prog 24 #[.pointer (some ⟨a, 0, none⟩), .int .i64 task] w fun e w' => e = .returned (.pointer ((R.L.find? (·.x.task == task)).map fun e => ⟨e.p, 0, none⟩)) ∧ Below w.heap.size w w' := by
  have ha := lt_of_heap hT.tb
  have c4 : w.cell? ⟨a, 4, none⟩ = some (.map (some mb)) := by rw [cell_of hT.tb]; rfl
  have hmb := hT.mp.lt
  go_enter Try.func24, Try.ntmps24
  go_wp2_with (first
    | (at_range; refine wpList_range_i _ rfl _ 60 rfl 29 64 .u64 Try.underlying60 mb _ _ rfl hT.mp ?_; intro w0 hw0 hi0 hm0 hb0 hs0)
    | go_in)
  go_frame
  go_loopw [6] (fun _ wr => ∃ seen, Iter wr w.heap.size mb R.clock seen ∧ Below w.heap.size w wr ∧ ∀ e ∈ R.L, seen.contains e.b = true → e.x.task ≠ task) (fun _ wr => todoW wr w.heap.size mb)
  case atStart => exact ⟨#[], hi0, hb0, fun e _ h => by simp at h⟩
  case round =>
    obtain ⟨seen, hi, hbw, hno⟩ := hrel
    have hTr := hT.of_below hbw (Nat.le_refl _)
    go_wp2_with (first
      | (at_next; refine wpList_next_i _ rfl _ rfl .u64 mb w.heap.size _ R.clock R.clock seen rfl hi hTr.mp hTr.mp.low (Nat.le_refl _) (by omega) ?_ ?_)
      | go_in)
    · intro hall
      have hnone : R.L.find? (·.x.task == task) = none := by
        rw [List.find?_eq_none]
        intro e he
        simpa using hno e he (by simpa [PE.kv] using hall e he)
      go_wp2
      go_ret
      rw [hnone]
      exact ⟨rfl, hbw⟩
    · rintro _ w1 e he rfl hs hi1 hm1 hmod1 hs1 hoth1 hen
      have hb1 : Below w.heap.size w w1 := hbw.trans (hmod1.below (Nat.le_of_lt hi.lt) (fun k hk => by omega))
      have hT1 := hT.of_below hb1 (Nat.le_refl _)
      have hlt : e.p < w1.heap.size := lt_of_heap (hT1.es e he)
      have c1 : w1.cell? ⟨e.p, 1, none⟩ = some (.int .i64 e.x.task) := by rw [cell_of (hT1.es e he)]; rfl
      have hN := Lib.hid hno
      clear hno
      go_wp2
      · go_ret
        have ht : (e.x.task == task) = true := by assumption
        rw [hT.find_task he ht]
        exact ⟨rfl, hb1⟩
      · have ht : (e.x.task == task) = false := by assumption
        go_roundw
        case rel =>
          refine ⟨seen.push e.b, hi1, hb1, fun e' he' hs' => ?_⟩
          rcases (by simpa using hs' : e'.b ∈ seen ∨ e'.b = e.b) with h | h
          · exact hN.out e' he' (by simpa using h)
          · have : e' = e := by
              have hbn := hT.mp.borns
              rw [List.map_map] at hbn
              exact inj_of_nodup hbn he' he h
            subst this
            simpa using ht
        case measure =>
          have h1 := todoW_eq hi1 hm1
          have h2 := todoW_eq hi hTr.mp
          have h3 := todoN_push (List.mem_map.2 ⟨e, he, rfl⟩ : e.kv ∈ R.L.map PE.kv) (seen := seen) (by simpa using hs)
          omega
end Go.Proofs.Ytghoeecgmhcplaa
