/- Walks through notif: Ended, Add, New. -/
import Derived.Test.YtghoeecgmhcplaaNotifC
import Derived.Carry
import Derived.StillTailTactics
import Derived.Maps.OwnSet
set_option linter.unusedVariables false
set_option linter.unusedSimpArgs false
namespace Go.Proofs.Ytghoeecgmhcplaa
open Go Go.RowKit Go.FL

set_option maxHeartbeats 2000000 in
theorem ended_any (a mb : Nat) (R : RTab) (task : Int) (w : World) (hT : TabAt' w a mb R) :
    Calls Try.prog 11 #[.pointer (some ⟨a, 0, none⟩), .int .i64 task] w fun e w' => e = .returned (getOut (R.abs.ended task).2) ∧ TabTo' w a mb R (R.abs.ended task).1 w' := by
  have hinv := hT.inv.ended task
  have hof := fun o => of_any a mb R task (w.alloc o) (hT.of_below ((Below.refl _ w).alloc (Nat.le_refl _) o) (Nat.le_refl _))
  have ha := lt_of_heap hT.tb
  generalize hr : R.abs.ended task = res at hinv ⊢
  cases hf : R.L.find? (·.x.task == task) with
  | none =>
    have hr' : Hid (res = (R.abs, none)) := by show _ = _; rw [← hr, Tab.ended, abs_of, hf]; rfl
    rw [hf] at hof
    clear hr hf
    go_enter Try.func11, Try.ntmps11
    go_wp2_with (first
      | (go_at_call 24; refine (hof _).mono ?_; clear hof; rintro e1 w1 ⟨rfl, hb1⟩; obtain ⟨hc1, hf1, hl1, hb1', hz1⟩ := own_alloc hb1; clear hb1))
    refine bodyPost_ret (v := .tuple #[.agg #[.int .u64 0, .int .i64 0, .int .i64 0, .int .i64 0, .int .i64 0, .int .i64 0], .bool false]) (by simp [results, Try.results11, go_sem, hc1, hf1]) rfl ?_
    rw [hr'.out]
    exact ⟨rfl, TabTo.same hT (by (repeat (refine below_set ?_ (Nat.le_refl _) _)); exact hb1')⟩
  | some e =>
    have he := List.mem_of_find?_eq_some hf
    rw [hf] at hof
    cases hw : e.x.waits with
    | true =>
      have hr' : Hid (res = (R.abs, none)) := by show _ = _; rw [← hr, Tab.ended, abs_of, hf]; simp [hw]
      clear hr hf
      go_enter Try.func11, Try.ntmps11
      go_wp2_with (first
        | (go_at_call 24; refine (hof _).mono ?_; clear hof; rintro e1 w1 ⟨rfl, hb1⟩; obtain ⟨hc1, hf1, hl1, hb1', hz1⟩ := own_alloc hb1; clear hb1)
        | (go_at_call 25; refine (waits_true _ e.x _ ((hT.of_below hb1' (Nat.le_refl _)).es e he) true hw).mono ?_; rintro e1 w2 ⟨rfl, rfl⟩))
      refine bodyPost_ret (v := .tuple #[.agg #[.int .u64 0, .int .i64 0, .int .i64 0, .int .i64 0, .int .i64 0, .int .i64 0], .bool false]) (by simp [results, Try.results11, go_sem, hc1, hf1]) rfl ?_
      rw [hr'.out]
      exact ⟨rfl, TabTo.same hT (by (repeat (refine below_set ?_ (Nat.le_refl _) _)); exact hb1')⟩
    | false =>
      have hr' : Hid (res = ({ R.abs with L := R.abs.L.filter (·.id != e.x.id) }, some e.x)) := by show _ = _; rw [← hr, Tab.ended, abs_of, hf]; simp [hw]
      clear hr hf
      go_enter Try.func11, Try.ntmps11
      go_wp2_with (first
        | (go_at_call 24; refine (hof _).mono ?_; clear hof; rintro e1 w1 ⟨rfl, hb1⟩; obtain ⟨hc1, hf1, hl1, hb1', hz1⟩ := own_alloc hb1; clear hb1; have hT1 := hT.of_below hb1' (Nat.le_refl _); have hcT := cells_of hT1.tb; have hcE := cells_of (hT1.es e he))
        | (go_at_call 25; refine (waits_true _ e.x _ (hT1.es e he) false hw).mono ?_; rintro e1 w2 ⟨rfl, rfl⟩))
      go_still_tail 8, (by kernel_rfl)
      change wpList _ _ _ _ _ w1.drew
      have hM2 : IMap w1.drew mb .u64 (R.L.map PE.kv) R.clock := hT1.mp.of_block rfl
      have hlt1 : e.p < w1.heap.size := lt_of_heap (hT1.es e he)
      have hmz : w.heap.size ≠ mb := by have := hT.mp.lt; omega
      have hez : e.p ≠ w.heap.size := by have := lt_of_heap (hT.es e he); omega
      go_wp2_with (first
        | (at_delete; refine wpList_delete_i _ rfl _ _ 60 29 rfl 64 .u64 Try.underlying60 Try.underlying29 mb _ R.clock rfl hM2 e.x.id rfl ?_; intro w3 hm3 hmod3 hs3 hoth3; have hE3 : w3.heap[e.p]? = some (.cells (entCells e.x) 36 (0, 0)) := (hoth3 e.p (hT1.ne_map he)).trans (hT1.es e he); have hz3 := (hoth3 w.heap.size hmz).trans hz1; have hcE3 := cells_of hE3; have hcz3 := cells_of hz3; have hfz3 := frees_of hz3; have hl3 := lt_of_heap hz3; have hp3 := lt_of_heap hE3)
        | go_in)
      refine bodyPost_ret (v := .tuple #[.agg (entCells e.x), .bool true]) (by simp [results, Try.results11, go_sem, hcz3, hfz3]) rfl ?_
      rw [hr'.out] at hinv ⊢
      have hMod3 : Mod (· = mb) w w3 := (Mod.of_below hb1' (· = mb)).drew.trans hmod3 (fun i _ h => h)
      refine ⟨rfl, TabTo.of_del hT (by decide) (hm3.of_block ?_) ?_ ?_ hinv⟩
      · simp only [set_other hmz.symm]
      · intro k hk hkm
        have hkz : k ≠ w.heap.size := by omega
        simp only [set_other hkz]
        exact hMod3.block k hk hkm
      · repeat (refine Mod.set ?_ (fun h => absurd h (Nat.lt_irrefl _)) _)
        exact hMod3
end Go.Proofs.Ytghoeecgmhcplaa
