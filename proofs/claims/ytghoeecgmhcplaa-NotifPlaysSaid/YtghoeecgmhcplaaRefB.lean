/- Walks through the reference's methods: Get, gone, Kill. -/
import Derived.Test.YtghoeecgmhcplaaRefA
set_option linter.unusedVariables false
set_option linter.unusedSimpArgs false
namespace Go.Proofs.Ytghoeecgmhcplaa
open Go Go.RowKit Go.FL

theorem below_box (w : World) (o : Obj) : Below w.heap.size w (w.alloc o) := (Below.refl _ w).alloc (Nat.le_refl _) o
theorem Tab.get_fst {T : Tab} {id : Int} : T.get id = if fstI (·.id == id) T.L < T.L.length then T.L[fstI (·.id == id) T.L]? else none := by
  unfold Tab.get
  split
  · rename_i h; obtain ⟨x, hx, _, hf⟩ := fstI_at h; rw [hx, hf]
  · rename_i h; exact fstI_none h

set_option maxHeartbeats 800000 in
theorem rget_any (r : Nat) (v : Value) (T : Tab) (id : Int) (w : World) (h : RefAt' w r v T) (hl : T.L.length ≤ 8) (q : Option Ent) (hq : T.get id = q) :
    Calls Try.prog 37 #[.pointer (some ⟨r, 0, none⟩), .int .u64 id] w fun e w' => e = .returned (getOut q) ∧ Below w.heap.size w w' := by
  have hr := h.lt
  rw [Tab.get_fst] at hq
  have h2 := h.of_below (below_box w (.cells #[.int .u64 0, .int .i64 0, .int .i64 0, .int .i64 0, .int .i64 0, .int .i64 0] 36))
  have hat := rat_any r v T id _ h2 hl _ rfl
  by_cases hst : fstI (·.id == id) T.L < T.L.length
  · rw [if_pos hst] at hq
    obtain ⟨x, hx, _, _⟩ := fstI_at hst
    rw [hx] at hq
    subst hq
    rw [atN, if_pos hst] at hat
    obtain ⟨st, hs⟩ : ∃ st, fstI (fun x : Ent => x.id == id) T.L = st := ⟨_, rfl⟩
    rw [hs] at hat hx hst
    obtain ⟨g, c, rfl, hg, hgr, hfz, k0, k1, k2, k3, k4, k5⟩ := h.elem hx
    have hc := cells_of h.rb
    have hst' : (st : Int) < T.L.length := by omega
    have hst0 : (st : Int) ≤ 8 := by omega
    obtain ⟨n, hn⟩ : ∃ n, T.L.length = n := ⟨_, rfl⟩
    rw [hn] at hst' hc
    clear hs hx h2 h hst hl hn
    go_enter Try.func37, Try.ntmps37
    go_wp2_with (first
      | (go_at_call 40; refine hat.mono ?_; clear hat; rintro e1 w1 ⟨rfl, rfl⟩))
    refine bodyPost_ret (v := .tuple #[.agg (entCells x), .bool true]) (by simp [results, Try.results37, go_sem]) rfl ?_
    exact ⟨rfl, below_box _ _⟩
  · rw [if_neg hst] at hq
    subst hq
    rw [atN, if_neg hst] at hat
    clear hst h2
    go_enter Try.func37, Try.ntmps37
    go_wp2_with (first
      | (go_at_call 40; refine hat.mono ?_; clear hat; rintro e1 w1 ⟨rfl, rfl⟩))
    refine bodyPost_ret (v := .tuple #[.agg #[.int .u64 0, .int .i64 0, .int .i64 0, .int .i64 0, .int .i64 0, .int .i64 0], .bool false]) (by simp [results, Try.results37, go_sem]) rfl ?_
    exact ⟨rfl, below_box _ _⟩

set_option maxHeartbeats 800000 in
theorem rgone_yes (r : Nat) (v : Value) (T : Tab) (i : Nat) (x : Ent) (k : Int) (w : World) (h : RefAt' w r v T) (hl : T.L.length ≤ 8) (hx : T.L[i]? = some x) (hw : x.waits = true) :
    Calls Try.prog 41 #[.pointer (some ⟨r, 0, none⟩), .int .i64 i, .int .i64 k] w fun e w' => e = .returned (.bool true) ∧ RefAt' w' r v { T with L := T.L.set i (x.gone k) } ∧ Mod (refF r v) w w' := by
  have hr := h.lt
  obtain ⟨g, c, rfl, hg, hgr, hfz, k0, k1, k2, k3, k4, k5⟩ := h.elem hx
  have hc := cells_of h.rb
  have hil := (List.getElem?_eq_some_iff.1 hx).1
  have hil' : (i : Int) < T.L.length := by omega
  have hil8 : (i : Int) ≤ 8 := by omega
  have HX := Lib.hid hx
  have HH := Lib.hid h
  have hwc := fun w => rwaits_any x w true hw
  obtain ⟨n, hn⟩ : ∃ n, T.L.length = n := ⟨_, rfl⟩
  rw [hn] at hil' hc
  have HN := Lib.hid hn
  rw [hn]
  clear hx h hil hl hw hn
  go_enter Try.func41, Try.ntmps41
  go_wp2_with (first
    | (go_at_call 42; refine (hwc _).mono ?_; clear hwc; rintro e1 w1 ⟨rfl, rfl⟩))
  go_ret
  refine ⟨rfl, ?_, ?_⟩
  · have h1 := HH.out
    rw [HN.out] at h1
    have h2 := h1.store (y := { x with state := 4 }) HX.out 2 (.int .i64 4) (by omega) rfl
    have hx2 : ({ T with L := T.L.set i { x with state := 4 } } : Tab).L[i]? = some { x with state := 4 } := by simp [(List.getElem?_eq_some_iff.1 HX.out).1]
    have h3 := h2.store (y := { x with state := 4, ok := k }) hx2 4 (.int .i64 k) (by omega) rfl
    have hx3 : ({ T with L := (T.L.set i { x with state := 4 }).set i { x with state := 4, ok := k } } : Tab).L[i]? = some { x with state := 4, ok := k } := by simp [(List.getElem?_eq_some_iff.1 HX.out).1]
    have h4 := h3.store (y := { x with state := 4, ok := k, ov := 0 }) hx3 5 (.int .i64 0) (by omega) rfl
    simp only [List.set_set] at h4
    exact h4.of_below (below_box _ _)
  · refine Mod.alloc ?_ _
    repeat (refine Mod.set ?_ (fun _ => .inr rfl) _)
    exact Mod.refl _ _
set_option maxHeartbeats 800000 in
theorem rgone_no (r : Nat) (v : Value) (T : Tab) (i : Nat) (x : Ent) (k : Int) (w : World) (h : RefAt' w r v T) (hl : T.L.length ≤ 8) (hx : T.L[i]? = some x) (hw : x.waits = false) :
    Calls Try.prog 41 #[.pointer (some ⟨r, 0, none⟩), .int .i64 i, .int .i64 k] w fun e w' => e = .returned (.bool false) ∧ Below w.heap.size w w' := by
  have hr := h.lt
  obtain ⟨g, c, rfl, hg, hgr, hfz, k0, k1, k2, k3, k4, k5⟩ := h.elem hx
  have hc := cells_of h.rb
  have hil := (List.getElem?_eq_some_iff.1 hx).1
  have hil' : (i : Int) < T.L.length := by omega
  have hil8 : (i : Int) ≤ 8 := by omega
  have hwc := fun w => rwaits_any x w false hw
  obtain ⟨n, hn⟩ : ∃ n, T.L.length = n := ⟨_, rfl⟩
  rw [hn] at hil' hc
  clear hx h hil hl hw hn
  go_enter Try.func41, Try.ntmps41
  go_wp2_with (first
    | (go_at_call 42; refine (hwc _).mono ?_; clear hwc; rintro e1 w1 ⟨rfl, rfl⟩))
  go_ret
  exact ⟨rfl, below_box _ _⟩

theorem RefAt.to {w w' : World} {r : Nat} {v : Value} {T' : Tab} (h : RefAt' w' r v T') (hm : Mod (refF r v) w w') : RefTo' w r v T' w' := RefTo.of_at h hm

set_option maxHeartbeats 1600000 in
theorem rkill_any (r : Nat) (v : Value) (T : Tab) (task : Int) (w : World) (h : RefAt' w r v T) (hl : T.L.length ≤ 8) (hp : T.L.Pairwise fun x y => x.id < y.id) (q : Tab × Bool) (hq : T.kill task = q) :
    Calls Try.prog 31 #[.pointer (some ⟨r, 0, none⟩), .int .i64 task] w fun e w' => e = .returned (.bool q.2) ∧ RefTo' w r v q.1 w' := by
  have HQ := Lib.hid hq
  have HP := Lib.hid hp
  clear hq hp
  obtain ⟨A, c, rfl⟩ := h.slice
  have hc := cells_of h.rb
  have hr := h.lt
  have HH := Lib.hid h
  have hle := fstI_le (·.task == task) T.L
  obtain ⟨st, hst⟩ : ∃ st, fstI (fun x : Ent => x.task == task) T.L = st := ⟨_, rfl⟩
  obtain ⟨n, hn⟩ : ∃ n, T.L.length = n := ⟨_, rfl⟩
  rw [hst] at hle
  rw [hn] at hle hl hc
  rw [hn]
  have HST := Lib.hid hst
  have HN := Lib.hid hn
  have HL8 := Lib.hid hl
  clear hst hn h
  go_enter Try.func31, Try.ntmps31
  go_wp2
  go_loop [5] (fun s => ∃ i : Nat, s = .int .i64 i ∧ i ≤ st) (fun s => n - (intOf s).toNat)
  case atStart => exact ⟨0, rfl, Nat.zero_le _⟩
  case round =>
    obtain ⟨i, rfl, hi⟩ := hrel
    by_cases his : i < st
    · obtain ⟨x, hx, hp⟩ := fstI_before (by rw [HST.out]; exact his)
      obtain ⟨g, c', hv, hg, hgr, hfz, k0, k1, k2, k3, k4, k5⟩ := HH.out.elem hx
      cases hv
      have hin : (i : Int) < n := by omega
      clear hx k0 k2 k3 k4 k5
      go_wp2
      go_round
      case rel => exact ⟨i + 1, by go_num, by omega⟩
      case measure => simp [intOf]; omega
    · obtain rfl : i = st := by omega
      by_cases hin : i < n
      · obtain ⟨x, hx, hp, hfd⟩ := fstI_at (p := fun x : Ent => x.task == task) (L := T.L) (by rw [HST.out, HN.out]; exact hin)
        rw [HST.out] at hx
        have hh := HH.out
        obtain ⟨g, c', hv, hg, hgr, hfz, k0, k1, k2, k3, k4, k5⟩ := hh.elem hx
        cases hv
        have hin' : (i : Int) < n := by omega
        have HX := Lib.hid hx
        have HF := Lib.hid hfd
        cases hw : x.waits with
        | true =>
          have hgo := rgone_yes r _ T i x 4 w hh (by rw [HN.out]; exact HL8.out) hx hw
          rw [HN.out] at hgo
          have HW := Lib.hid hw
          clear hx k0 k2 k3 k4 k5 hh hfd hw
          go_wp2_with (first
            | (go_at_call 41; refine hgo.mono ?_; clear hgo; rintro e1 w1 ⟨rfl, hR1, hM1⟩))
          go_ret
          have he : q = ({ T with L := updE T.L x.id fun y => y.gone 4 }, true) := by rw [← HQ.out, Tab.kill, Tab.of, HF.out]; simp [HW.out]
          rw [he]
          refine ⟨rfl, RefAt.to (T' := { T with L := updE T.L x.id fun y => y.gone 4 }) ?_ hM1⟩
          rw [← set_updE (fun y => y.gone 4) HP.out HX.out]
          exact hR1
        | false =>
          have hgo := rgone_no r _ T i x 4 w hh (by rw [HN.out]; exact HL8.out) hx hw
          have HW := Lib.hid hw
          clear hx k0 k2 k3 k4 k5 hh hfd hw
          go_wp2_with (first
            | (go_at_call 41; refine hgo.mono ?_; clear hgo; rintro e1 w1 ⟨rfl, hB1⟩))
          go_ret
          have he : q = (T, false) := by rw [← HQ.out, Tab.kill, Tab.of, HF.out]; simp [HW.out]
          rw [he]
          have hh := HH.out
          rw [HN.out] at hh
          exact ⟨rfl, RefTo.same hh hB1⟩
      · have hin' : ¬ (i : Int) < n := by omega
        have hfd := fstI_none (p := fun x : Ent => x.task == task) (L := T.L) (by rw [HST.out, HN.out]; exact hin)
        have HF := Lib.hid hfd
        clear hfd
        go_wp2
        go_ret
        have he : q = (T, false) := by rw [← HQ.out, Tab.kill, Tab.of, HF.out]
        rw [he]
        have hh := HH.out
        rw [HN.out] at hh
        exact ⟨rfl, RefTo.same hh (Below.refl _ _)⟩
end Go.Proofs.Ytghoeecgmhcplaa
