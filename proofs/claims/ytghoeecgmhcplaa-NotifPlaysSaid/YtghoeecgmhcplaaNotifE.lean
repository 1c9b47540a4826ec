/- Walks through notif: New, Add. -/
import Derived.Test.YtghoeecgmhcplaaNotifD
set_option linter.unusedVariables false
set_option linter.unusedSimpArgs false
namespace Go.Proofs.Ytghoeecgmhcplaa
open Go Go.RowKit Go.FL

theorem pw_drewN {B : Nat} {w W : World} (h : Below B w W) (n : Nat) : Below B w (W.drewN n) := ⟨h.os, h.tape, h.output, h.size, h.block⟩
/-- a new table -/
def RTab.fresh (size wait first : Int) : RTab := ⟨size, wait, first, 0, [], 0⟩
theorem fresh_inv {size wait first : Int} (h1 : 1 ≤ size) (h2 : size ≤ 8) (h3 : 1 ≤ wait) (h4 : wait ≤ 1000) (h5 : 0 ≤ first) (h6 : first ≤ 18446744073709551615) : (RTab.fresh size wait first).abs.Inv where
  size1 := h1
  size8 := h2
  wait1 := h3
  wait2 := h4
  next0 := h5
  next1 := h6
  ep0 := by simp [RTab.fresh, RTab.abs]
  ep1 := by simp [RTab.fresh, RTab.abs]
  len := by simp [RTab.fresh, RTab.abs]; omega
  ids := by simp [RTab.fresh, RTab.abs]
  low := by simp [RTab.fresh, RTab.abs]
  tasks := by simp [RTab.fresh, RTab.abs]
  apart := by simp [RTab.fresh, RTab.abs]
  states := by simp [RTab.fresh, RTab.abs]
  left := by simp [RTab.fresh, RTab.abs]
  outs := by simp [RTab.fresh, RTab.abs]
  done := by simp [RTab.fresh, RTab.abs]

set_option maxHeartbeats 1000000 in
theorem new_no (size wait first : Int) (w : World) (h : size < 1 ∨ 8 < size ∨ wait < 1 ∨ 1000 < wait) :
    Calls Try.prog 8 #[.int .i64 size, .int .i64 wait, .int .u64 first] w fun e w' => e = .returned (.tuple #[.pointer none, .int .i64 1]) ∧ w = w' := by
  by_cases h1 : size < 1
  · clear h
    go_enter Try.func8, Try.ntmps8
    go_wp2
    go_ret2
    exact ⟨rfl, rfl⟩
  · by_cases h2 : 8 < size
    · clear h
      go_enter Try.func8, Try.ntmps8
      go_wp2
      go_ret2
      exact ⟨rfl, rfl⟩
    · by_cases h3 : wait < 1
      · clear h
        go_enter Try.func8, Try.ntmps8
        go_wp2
        go_ret2
        exact ⟨rfl, rfl⟩
      · have h4 : 1000 < wait := by omega
        clear h
        go_enter Try.func8, Try.ntmps8
        go_wp2
        go_ret2
        exact ⟨rfl, rfl⟩

set_option maxHeartbeats 1000000 in
theorem new_yes (size wait first : Int) (w : World) (h1 : 1 ≤ size) (h2 : size ≤ 8) (h3 : 1 ≤ wait) (h4 : wait ≤ 1000) (h5 : 0 ≤ first) (h6 : first ≤ 18446744073709551615) :
    Calls Try.prog 8 #[.int .i64 size, .int .i64 wait, .int .u64 first] w fun e w' => e = .returned (.tuple #[.pointer (some ⟨w.heap.size + 1, 0, none⟩), .int .i64 0]) ∧ TabAt' w' (w.heap.size + 1) w.heap.size (RTab.fresh size wait first) ∧ Below w.heap.size w w' ∧ w'.heap.size = w.heap.size + 2 := by
  have h1' : ¬ size < 1 := by omega
  have h2' : ¬ 8 < size := by omega
  have h3' : ¬ wait < 1 := by omega
  have h4' : ¬ 1000 < wait := by omega
  have hmm := @run_makeMap Try.prog
  have H6 := Lib.hid h6
  clear h6
  go_enter Try.func8, Try.ntmps8
  go_wp2
  go_ret2
  refine ⟨rfl, ⟨?_, ⟨?_, by simp [RTab.fresh], by simp [RTab.fresh], by simp [RTab.fresh]⟩, by simp [RTab.fresh], by simp [RTab.fresh], fresh_inv h1 h2 h3 h4 h5 H6.out⟩, ((Below.refl _ _).alloc (Nat.le_refl _) _).alloc (by simp) _, by simp⟩
  · have := heap_alloc_new (w.alloc (.map #[] 0)) (.cells (tabCells (RTab.fresh size wait first) w.heap.size) 62)
    rw [World.size_alloc] at this
    exact this
  · rw [Below.heap_alloc _ _ _ (by simp)]
    simpa [RTab.fresh] using heap_alloc_new w (.map #[] 0)

/-- a new entry behind the others -/
theorem TabTo.of_add {tT tE : TypeId} {w w' : World} {a mb : Nat} {R : RTab} (h : TabAt tT tE w a mb R) (hne : tT ≠ tE) {p : Nat} (x : Ent) (hp : w.heap.size ≤ p) (hpe : w'.heap[p]? = some (.cells (entCells x) tE (0, 0)))
    (htb : w'.heap[a]? = some (.cells (tabCells { R with next := R.next + 1 } mb) tT (0, 0))) (hm : IMap w' mb .u64 (R.L.map PE.kv ++ [⟨x.id, .pointer (some ⟨p, 0, none⟩), R.clock⟩]) (R.clock + 1)) (ho : ∀ k, k < w.heap.size → k ≠ mb → k ≠ a → w'.heap[k]? = w.heap[k]?)
    (hmod : Mod (fun k => k = a ∨ k = mb) w w') (hinv : Tab.Inv { R.abs with next := R.next + 1, L := R.abs.L ++ [x] }) : TabTo tT tE w a mb R { R.abs with next := R.next + 1, L := R.abs.L ++ [x] } w' := by
  refine ⟨⟨{ R with next := R.next + 1, L := R.L ++ [⟨p, R.clock, x⟩], clock := R.clock + 1 }, ⟨htb, ?_, ?_, ?_, ?_⟩, ?_, ?_⟩, ?_⟩
  · simpa [PE.kv] using hm
  · intro e he
    rcases List.mem_append.1 he with he | he
    · exact (ho e.p (lt_of_heap (h.es e he)) (h.ne_map he) (h.ne_ent hne he)).trans (h.es e he)
    · rw [List.mem_singleton] at he; subst he; exact hpe
  · rw [List.map_append, List.nodup_append]
    refine ⟨h.nd, by simp, ?_⟩
    intro k hk y hy
    simp at hy
    subst hy
    obtain ⟨e, he, rfl⟩ := List.mem_map.1 hk
    have := lt_of_heap (h.es e he)
    omega
  · have : RTab.abs { R with next := R.next + 1, L := R.L ++ [⟨p, R.clock, x⟩], clock := R.clock + 1 } = { R.abs with next := R.next + 1, L := R.abs.L ++ [x] } := by simp [RTab.abs]
    rw [this]; exact hinv
  · simp [RTab.abs]
  · intro k hk
    rcases hk with hk | hk | ⟨e, he, hk⟩
    · exact .inl (.inl hk)
    · exact .inl (.inr (.inl hk))
    · rcases List.mem_append.1 he with he | he
      · exact .inl (.inr (.inr ⟨e, he, hk⟩))
      · rw [List.mem_singleton] at he; subst he; exact .inr (by subst hk; exact hp)
  · exact hmod.mono fun k _ hk => by rcases hk with hk | hk; exact .inl hk; exact .inr (.inl hk)

set_option maxHeartbeats 2000000 in
theorem add_any (a mb : Nat) (R : RTab) (task : Int) (w : World) (hT : TabAt' w a mb R) :
    Calls Try.prog 20 #[.pointer (some ⟨a, 0, none⟩), .int .i64 task] w fun e w' => e = .returned (.tuple #[.int .u64 (R.abs.add task).2.1, .int .i64 (R.abs.add task).2.2]) ∧ TabTo' w a mb R (R.abs.add task).1 w' := by
  have hinv := hT.inv.add task
  have hof := of_any a mb R task w hT
  have ha := lt_of_heap hT.tb
  have hmb := hT.mp.lt
  generalize hr : R.abs.add task = res at hinv ⊢
  by_cases h1 : task < 1 ∨ 4 < task
  · have hr' : Hid (res = (R.abs, 0, 1)) := by show _ = _; rw [← hr, Tab.add, if_pos h1]
    clear hr
    by_cases h1a : task < 1
    all_goals
      go_enter Try.func20, Try.ntmps20
      go_wp2_with (fail)
      go_ret2
      rw [hr'.out]
      exact ⟨rfl, TabTo.same hT (Below.refl _ _)⟩
  · have h1a : 1 ≤ task := by omega
    have h1b : task ≤ 4 := by omega
    cases hf : R.L.find? (·.x.task == task) with
    | some e =>
      have hr' : Hid (res = (R.abs, 0, 21)) := by show _ = _; rw [← hr, Tab.add, if_neg h1, abs_of, hf]; rfl
      rw [hf] at hof
      clear hr hf h1
      go_enter Try.func20, Try.ntmps20
      go_wp2_with (first
        | (go_at_call 24; refine hof.mono ?_; clear hof; rintro e1 w1 ⟨rfl, hb1⟩))
      go_ret2
      rw [hr'.out]
      exact ⟨rfl, TabTo.same hT hb1⟩
    | none =>
      rw [hf] at hof
      have hlen : R.abs.L.length = R.L.length := by simp [RTab.abs]
      have hl8 : R.L.length ≤ 8 := by have := hT.inv.len; have := hT.inv.size8; omega
      have hcl := fun w1 (h : IMap w1 mb .u64 (R.L.map PE.kv) R.clock) => run_len_i (P := Try.prog) (ty := 3) Try.underlying60 h
      by_cases h2 : R.size ≤ (R.L.length : Int) ∨ R.next = 18446744073709551615
      · have hr' : Hid (res = (R.abs, 0, 16)) := by show _ = _; rw [← hr, Tab.add, if_neg h1, abs_of, hf, if_neg (by simp), if_pos (by rw [hlen]; exact h2)]
        clear hr hf h1
        by_cases h2a : R.size ≤ (R.L.length : Int)
        · clear h2
          go_enter Try.func20, Try.ntmps20
          go_wp2_with (first
            | (go_at_call 24; refine hof.mono ?_; clear hof; rintro e1 w1 ⟨rfl, hb1⟩; have hT1 := hT.of_below hb1 (Nat.le_refl _); have hcT := cells_of hT1.tb; have hlt1 := lt_of_heap hT1.tb; have hln := fun n => hcl (w1.drewN n) (hT1.mp.of_block rfl)))
          go_quiet (fail)
          go_wp2
          go_ret2
          rw [hr'.out]
          exact ⟨rfl, TabTo.same hT (pw_drewN hb1 _)⟩
        · have h2b : R.next = 18446744073709551615 := by omega
          have h2c : (R.next == 18446744073709551615) = true := by simpa using h2b
          clear h2 h2b
          go_enter Try.func20, Try.ntmps20
          go_wp2_with (first
            | (go_at_call 24; refine hof.mono ?_; clear hof; rintro e1 w1 ⟨rfl, hb1⟩; have hT1 := hT.of_below hb1 (Nat.le_refl _); have hcT := cells_of hT1.tb; have hlt1 := lt_of_heap hT1.tb; have hln := fun n => hcl (w1.drewN n) (hT1.mp.of_block rfl)))
          go_quiet (fail)
          go_wp2
          go_ret2
          rw [hr'.out]
          exact ⟨rfl, TabTo.same hT (pw_drewN hb1 _)⟩
      · have h2a : ¬ R.size ≤ (R.L.length : Int) := by omega
        have h2b : R.next ≠ 18446744073709551615 := by omega
        have h2c : (R.next == 18446744073709551615) = false := by simpa using h2b
        have h0 : 0 ≤ R.next := hT.inv.next0
        have h9 : R.next ≤ 18446744073709551615 := hT.inv.next1
        have hr' : Hid (res = ({ R.abs with next := R.next + 1, L := R.abs.L ++ [⟨R.next, task, 1, R.wait, 0, 0⟩] }, R.next, 0)) := by show _ = _; rw [← hr, Tab.add, if_neg h1, abs_of, hf, if_neg (by simp), if_neg (by rw [hlen]; exact h2)]; rfl
        have hnx : Hid (IntKind.u64.wrap (R.next + 1) = R.next + 1) := wrap_u64 (by omega) (by omega)
        have h0' : Hid (0 ≤ R.next) := h0
        have hnew : Hid (∀ x ∈ R.L.map PE.kv, x.key ≠ R.next) := by
          intro x hx
          obtain ⟨e, he, rfl⟩ := List.mem_map.1 hx
          have := hT.inv.low e.x (List.mem_map.2 ⟨e, he, rfl⟩)
          show e.x.id ≠ R.next
          have h2 : R.abs.next = R.next := rfl
          omega
        clear hr hf h1 h2 h2b h0 h9
        go_enter Try.func20, Try.ntmps20
        go_wp2_with (first
          | (go_at_call 24; refine hof.mono ?_; clear hof; rintro e1 w1 ⟨rfl, hb1⟩; have hT1 := hT.of_below hb1 (Nat.le_refl _); have hcT := cells_of hT1.tb; have hfT := frees_of hT1.tb; have hlt1 := lt_of_heap hT1.tb; have hln := fun n => hcl (w1.drewN n) (hT1.mp.of_block rfl)))
        go_quiet (fail)
        go_wp2
        have hT2 := (setCell_heap (i := 2) (v := .int .u64 (IntKind.u64.wrap (R.next + 1))) (show (w1.drewN nq).heap[a]? = _ from hT1.tb))
        have hMod2 : Mod (· = a) w ((w1.drewN nq).setCell ⟨a, 2, none⟩ (.int .u64 (IntKind.u64.wrap (R.next + 1)))) := ((Mod.of_below hb1 (· = a)).drewN nq).set (fun _ => rfl) _
        have hM2 : IMap ((w1.drewN nq).setCell ⟨a, 2, none⟩ (.int .u64 (IntKind.u64.wrap (R.next + 1)))) mb .u64 (R.L.map PE.kv) R.clock := hT1.mp.of_block (set_other (w := w1.drewN nq) hT.ne_tab.symm)
        have hcT2 := cells_of hT2
        generalize (w1.drewN nq).setCell ⟨a, 2, none⟩ (.int .u64 (IntKind.u64.wrap (R.next + 1))) = w2 at hT2 hMod2 hM2 hcT2 ⊢
        have hlt2 := lt_of_heap hT2
        have hM3 : IMap (w2.alloc (.cells #[.int .u64 R.next, .int .i64 task, .int .i64 1, .int .i64 R.wait, .int .i64 0, .int .i64 0] 36)).drew mb .u64 (R.L.map PE.kv) R.clock := hM2.of_block (Below.heap_alloc _ _ _ hM2.lt)
        obtain ⟨w3, hup, hm3, hmod3, hs3, ho3⟩ := update_new_ex (P := Try.prog) Try.underlying60 Try.underlying29 hM3 R.next hnew.out (.pointer (some ⟨w2.heap.size, 0, none⟩))
        go_region
        have hT3 : w3.heap[a]? = some (.cells (tabCells { R with next := R.next + 1 } mb) 62 (0, 0)) := by
          rw [ho3 a hT.ne_tab]
          refine (Below.heap_alloc _ _ _ hlt2).trans (hT2.trans ?_)
          rw [hnx.out]; rfl
        have hp3 : w3.heap[w2.heap.size]? = some (.cells (entCells ⟨R.next, task, 1, R.wait, 0, 0⟩) 36 (0, 0)) := by
          rw [ho3 _ (by have := hM2.lt; omega)]
          exact heap_alloc_new w2 _
        go_wp2
        go_ret2
        rw [hr'.out] at hinv ⊢
        refine ⟨rfl, TabTo.of_add hT (by decide) (p := w2.heap.size) _ hMod2.size hp3 hT3 hm3 ?_ ?_ hinv⟩
        · intro k hk hkm hka
          rw [ho3 k hkm]
          exact (Below.heap_alloc _ _ _ (Nat.lt_of_lt_of_le hk hMod2.size)).trans (hMod2.block k hk hka)
        · exact ((hMod2.mono (G := fun k => k = a ∨ k = mb) (fun i _ h => .inl h)).alloc _).drew.trans hmod3 (fun i _ h => .inr h)
end Go.Proofs.Ytghoeecgmhcplaa
