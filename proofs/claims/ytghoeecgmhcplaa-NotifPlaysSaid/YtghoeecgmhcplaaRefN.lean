/- Walks through the references: New of layer 21, Same of layer 19. -/
import Derived.Test.YtghoeecgmhcplaaRefB
import Derived.Test.YtghoeecgmhcplaaNotifE
set_option linter.unusedVariables false
set_option linter.unusedSimpArgs false
namespace Go.Proofs.Ytghoeecgmhcplaa
open Go Go.RowKit Go.FL

set_option maxHeartbeats 1000000 in
theorem rnew_no (size wait first : Int) (w : World) (h : size < 1 ∨ 8 < size ∨ wait < 1 ∨ 1000 < wait) :
    Calls Try.prog 17 #[.int .i64 size, .int .i64 wait, .int .u64 first] w fun e w' => e = .returned (.tuple #[.pointer none, .int .i64 1]) ∧ w = w' := by
  by_cases h1 : size < 1
  · clear h
    go_enter Try.func17, Try.ntmps17
    go_wp2
    go_ret2
    exact ⟨rfl, rfl⟩
  · by_cases h2 : 8 < size
    · clear h
      go_enter Try.func17, Try.ntmps17
      go_wp2
      go_ret2
      exact ⟨rfl, rfl⟩
    · by_cases h3 : wait < 1
      · clear h
        go_enter Try.func17, Try.ntmps17
        go_wp2
        go_ret2
        exact ⟨rfl, rfl⟩
      · have h4 : 1000 < wait := by omega
        clear h
        go_enter Try.func17, Try.ntmps17
        go_wp2
        go_ret2
        exact ⟨rfl, rfl⟩

set_option maxHeartbeats 1000000 in
theorem rnew_yes (size wait first : Int) (w : World) (h1 : 1 ≤ size) (h2 : size ≤ 8) (h3 : 1 ≤ wait) (h4 : wait ≤ 1000) :
    Calls Try.prog 17 #[.int .i64 size, .int .i64 wait, .int .u64 first] w fun e w' => e = .returned (.tuple #[.pointer (some ⟨w.heap.size, 0, none⟩), .int .i64 0]) ∧ RefAt' w' w.heap.size (.slice none 0 0) (RTab.fresh size wait first).abs ∧ Below w.heap.size w w' ∧ w'.heap.size = w.heap.size + 1 := by
  have h1' : ¬ size < 1 := by omega
  have h2' : ¬ 8 < size := by omega
  have h3' : ¬ wait < 1 := by omega
  have h4' : ¬ 1000 < wait := by omega
  go_enter Try.func17, Try.ntmps17
  go_wp2
  go_ret2
  exact ⟨rfl, ⟨heap_alloc_new w _, own_nil' _ _ _ _, by decide⟩, below_box _ _, by simp⟩

theorem own_cells1 {w : World} {base n c : Nat} {e : TypeId} {A : Option Addr} {xs : List Value} (h : w.ownsRow base e 1 (.slice A n c) n xs) (j : Nat) (u : Value) (hj : xs[j]? = some u) : ∃ g, A = some ⟨g, 0, none⟩ ∧ g < w.heap.size ∧ w.cell? ⟨g, j, none⟩ = some u := by
  have hl := h.1
  have hjl := (List.getElem?_eq_some_iff.1 hj).1
  rcases h.2 with ⟨hv, h0⟩ | ⟨g', cap, cur, hv, _, hg, _, _, _, ht⟩
  · omega
  · cases hv
    refine ⟨g', rfl, lt_of_heap hg, ?_⟩
    rw [cell_of hg, ← Array.getElem?_toList]
    rw [← ht, List.getElem?_take] at hj
    split at hj
    · exact hj
    · cases hj

set_option maxHeartbeats 1000000 in
theorem rsame_any (v1 v2 : Value) (ids : List Int) (b1 b2 : Nat) (w : World) (h1 : w.ownsRow b1 29 1 v1 ids.length (ids.map (Value.int .u64))) (h2 : w.ownsRow b2 29 1 v2 ids.length (ids.map (Value.int .u64))) (hl : ids.length ≤ 8) :
    Calls Try.prog 32 #[v1, v2] w fun e w' => e = .returned (.bool true) ∧ Below w.heap.size w w' := by
  obtain ⟨A1, c1, rfl⟩ := own_slice' h1
  obtain ⟨A2, c2, rfl⟩ := own_slice' h2
  obtain ⟨n, hn⟩ : ∃ n, ids.length = n := ⟨_, rfl⟩
  rw [hn] at h1 h2 hl
  rw [hn]
  have HN := Lib.hid hn
  have H1 := Lib.hid h1
  have H2 := Lib.hid h2
  clear hn h1 h2
  go_enter Try.func32, Try.ntmps32
  go_wp2
  go_loopw [5] (fun s wr => ∃ i : Nat, s = .int .i64 i ∧ i ≤ n ∧ Below w.heap.size w wr) (fun s _ => n - (intOf s).toNat)
  case atStart => exact ⟨0, rfl, Nat.zero_le _, Below.refl _ _⟩
  case round =>
    obtain ⟨i, rfl, hi, hB⟩ := hrel
    by_cases hin : i < n
    · have hin' : (i : Int) < n := by omega
      obtain ⟨x, hx⟩ : ∃ x, ids[i]? = some x := ⟨_, List.getElem?_eq_getElem (by rw [HN.out]; exact hin)⟩
      have hx' : (ids.map (Value.int .u64))[i]? = some (.int .u64 x) := by rw [List.getElem?_map, hx]; rfl
      obtain ⟨g1, rfl, hg1, k1⟩ := own_cells1 (own_mod H1.out (Mod.of_below hB (fun _ => False)) (fun _ _ h => h)) i _ hx'
      obtain ⟨g2, rfl, hg2, k2⟩ := own_cells1 (own_mod H2.out (Mod.of_below hB (fun _ => False)) (fun _ _ h => h)) i _ hx'
      clear hx hx'
      go_wp2
      go_quiet (fail)
      go_wp2
      exact ⟨⟨i + 1, by go_num, by omega, ⟨hB.os, hB.tape, hB.output, hB.size, hB.block⟩⟩, by simp [intOf]; omega⟩
    · have hin' : ¬ (i : Int) < n := by omega
      go_wp2
      go_ret
      exact ⟨rfl, hB⟩
end Go.Proofs.Ytghoeecgmhcplaa
