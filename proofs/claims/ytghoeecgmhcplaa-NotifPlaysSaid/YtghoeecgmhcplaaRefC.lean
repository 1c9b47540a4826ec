/- Walks through the reference's methods: Send, Reply. -/
import Derived.Test.YtghoeecgmhcplaaRefB
import Derived.StillTailTactics
set_option linter.unusedVariables false
set_option linter.unusedSimpArgs false
namespace Go.Proofs.Ytghoeecgmhcplaa
open Go Go.RowKit Go.FL

set_option maxHeartbeats 1600000 in
theorem rsend_any (r : Nat) (v : Value) (T : Tab) (w : World) (h : RefAt' w r v T) (hl : T.L.length ≤ 8) (hp : T.L.Pairwise fun x y => x.id < y.id) (q : Tab × Option Ent) (hq : T.send = q) :
    Calls Try.prog 29 #[.pointer (some ⟨r, 0, none⟩)] w fun e w' => e = .returned (getOut q.2) ∧ RefTo' w r v q.1 w' := by
  have HQ := Lib.hid hq
  have HP := Lib.hid hp
  clear hq hp
  obtain ⟨A, c, rfl⟩ := h.slice
  have hc := cells_of h.rb
  have hr := h.lt
  have HH := Lib.hid h
  have hle := fstI_le (·.state == 1) T.L
  obtain ⟨st, hst⟩ : ∃ st, fstI (fun x : Ent => x.state == 1) T.L = st := ⟨_, rfl⟩
  obtain ⟨n, hn⟩ : ∃ n, T.L.length = n := ⟨_, rfl⟩
  rw [hst] at hle
  rw [hn] at hle hl hc
  rw [hn]
  have HST := Lib.hid hst
  have HN := Lib.hid hn
  have HL8 := Lib.hid hl
  clear hst hn h
  go_enter Try.func29, Try.ntmps29
  go_wp2
  go_loop [4] (fun s => ∃ i : Nat, s = .int .i64 i ∧ i ≤ st) (fun s => n - (intOf s).toNat)
  case atStart => exact ⟨0, rfl, Nat.zero_le _⟩
  case round =>
    obtain ⟨i, rfl, hi⟩ := hrel
    by_cases his : i < st
    · obtain ⟨x, hx, hp⟩ := fstI_before (by rw [HST.out]; exact his)
      obtain ⟨g, c', hv, hg, hgr, hfz, k0, k1, k2, k3, k4, k5⟩ := HH.out.elem hx
      cases hv
      have hin : (i : Int) < n := by omega
      clear hx k0 k1 k3 k4 k5
      go_wp2
      go_round
      case rel => exact ⟨i + 1, by go_num, by omega⟩
      case measure => simp [intOf]; omega
    · obtain rfl : i = st := by omega
      by_cases hin : i < n
      · obtain ⟨x, hx, hp, hfd⟩ := fstI_at (p := fun x : Ent => x.state == 1) (L := T.L) (by rw [HST.out, HN.out]; exact hin)
        rw [HST.out] at hx
        have hh := HH.out
        obtain ⟨g, c', hv, hg, hgr, hfz, k0, k1, k2, k3, k4, k5⟩ := hh.elem hx
        cases hv
        have hin' : (i : Int) < n := by omega
        have HX := Lib.hid hx
        have HF := Lib.hid hfd
        clear hx hh hfd
        go_wp2
        refine bodyPost_ret (v := .tuple #[.agg #[.int .u64 x.id, .int .i64 x.task, .int .i64 2, .int .i64 x.left, .int .i64 x.ok, .int .i64 x.ov], .bool true]) (by simp [results, Try.results29, go_sem]) rfl ?_
        have he : q = ({ T with L := updE T.L x.id fun y => { y with state := 2 } }, some { x with state := 2 }) := by rw [← HQ.out, Tab.send, HF.out]
        rw [he]
        refine ⟨rfl, RefAt.to (T' := { T with L := updE T.L x.id fun y => { y with state := 2 } }) ?_ ?_⟩
        · have h1 := HH.out
          rw [HN.out] at h1
          have h2 := h1.store (y := { x with state := 2 }) HX.out 2 (.int .i64 2) (by omega) rfl
          rw [← set_updE (fun y => { y with state := 2 }) HP.out HX.out]
          exact h2.of_below (below_box _ _)
        · refine Mod.alloc ?_ _
          repeat (refine Mod.set ?_ (fun _ => .inr rfl) _)
          exact Mod.refl _ _
      · have hin' : ¬ (i : Int) < n := by omega
        have hfd := fstI_none (p := fun x : Ent => x.state == 1) (L := T.L) (by rw [HST.out, HN.out]; exact hin)
        have HF := Lib.hid hfd
        clear hfd
        go_wp2
        refine bodyPost_ret (v := .tuple #[.agg #[.int .u64 0, .int .i64 0, .int .i64 0, .int .i64 0, .int .i64 0, .int .i64 0], .bool false]) (by simp [results, Try.results29, go_sem]) rfl ?_
        have he : q = (T, none) := by rw [← HQ.out, Tab.send, HF.out]
        rw [he]
        have hh := HH.out
        rw [HN.out] at hh
        exact ⟨rfl, RefTo.same hh (below_box _ _)⟩

set_option maxHeartbeats 1600000 in
theorem rreply_any (r : Nat) (v : Value) (T : Tab) (ep id k o : Int) (w : World) (h : RefAt' w r v T) (hl : T.L.length ≤ 8) (hp : T.L.Pairwise fun x y => x.id < y.id) (q : Tab × Int) (hq : T.reply ep id k o = q) :
    Calls Try.prog 30 #[.pointer (some ⟨r, 0, none⟩), .int .u64 ep, .int .u64 id, .agg #[.int .i64 k, .int .i64 o]] w fun e w' => e = .returned (.int .i64 q.2) ∧ RefTo' w r v q.1 w' := by
  have HQ := Lib.hid hq
  have HP := Lib.hid hp
  clear hq hp
  have hr := h.lt
  have hc := cells_of h.rb
  have hb := below_box w (.cells #[.int .i64 k, .int .i64 o] 34)
  have hat := rat_any r v T id _ (h.of_below hb) hl _ rfl
  have HH := Lib.hid h
  by_cases hep : ep = T.epoch
  · have HE := Lib.hid hep
    have hep' : (ep != T.epoch) = false := by simp [hep]
    clear hep
    by_cases hst : fstI (·.id == id) T.L < T.L.length
    · obtain ⟨x, hx, _, hfd⟩ := fstI_at hst
      rw [atN, if_pos hst] at hat
      have hst' : ((fstI (fun x : Ent => x.id == id) T.L : Nat) : Int) < T.L.length := by omega
      obtain ⟨st, hs⟩ : ∃ st, fstI (fun x : Ent => x.id == id) T.L = st := ⟨_, rfl⟩
      rw [hs] at hat hx hst'
      obtain ⟨n, hn⟩ : ∃ n, T.L.length = n := ⟨_, rfl⟩
      have HN := Lib.hid hn
      have hst0 : (st : Int) ≤ 8 := by omega
      obtain ⟨g, c, rfl, hg, hgr, hfz, k0, k1, k2, k3, k4, k5⟩ := h.elem hx
      rw [hn] at hst' hc
      rw [hn]
      have HX := Lib.hid hx
      have HF : Hid (T.get id = some x) := hfd
      clear hs hx h hst hl hn k0 k1 k3 hb hfd
      have e0 : T.reply ep id k o = if x.state ≠ 2 then (T, 18) else if k < 1 ∨ 3 < k then (T, 1) else ({ T with L := updE T.L x.id fun y => { y with state := 3, ok := k, ov := o } }, 0) := by
        have hid : x.id = id := by have := (Tab.mem_get HF.out).2; exact this
        rw [Tab.reply, if_neg (by simpa using HE.out), HF.out]
        simp only [hid]
      have E0 := Lib.hid e0
      clear e0
      by_cases hs2 : x.state = 2
      · have hs2' : (x.state == 2) = true := by simp [hs2]
        have hs2'' : (x.state != 2) = false := by simp [hs2]
        have HS := Lib.hid hs2
        clear hs2
        by_cases hk : k < 1 ∨ 3 < k
        · have he : Hid (q = (T, 1)) := by show _ = _; rw [← HQ.out, E0.out, if_neg (by simpa using HS.out), if_pos hk]
          by_cases hk1 : k < 1
          all_goals
            clear E0
            go_enter Try.func30, Try.ntmps30
            go_wp2_with (first
              | (go_at_call 40; refine hat.mono ?_; clear hat; rintro e1 w1 ⟨rfl, rfl⟩))
            go_ret
            rw [he.out]
            have hh := HH.out
            rw [HN.out] at hh
            exact ⟨rfl, RefTo.same hh (below_box _ _)⟩
        · have he : Hid (q = ({ T with L := updE T.L x.id fun y => { y with state := 3, ok := k, ov := o } }, 0)) := by show _ = _; rw [← HQ.out, E0.out, if_neg (by simpa using HS.out), if_neg hk]
          have hk1 : 1 ≤ k := by omega
          have hk2 : k ≤ 3 := by omega
          clear E0 hk
          go_enter Try.func30, Try.ntmps30
          go_wp2_with (first
            | (go_at_call 40; refine hat.mono ?_; clear hat; rintro e1 w1 ⟨rfl, rfl⟩))
          go_region
          go_wp2
          go_ret
          rw [he.out]
          refine ⟨rfl, RefAt.to (T' := { T with L := updE T.L x.id fun y => { y with state := 3, ok := k, ov := o } }) ?_ ?_⟩
          · have h1 := HH.out
            rw [HN.out] at h1
            have h2 := h1.store (y := { x with state := 3 }) HX.out 2 (.int .i64 3) (by omega) rfl
            have hx2 : ({ T with L := T.L.set st { x with state := 3 } } : Tab).L[st]? = some { x with state := 3 } := by simp [(List.getElem?_eq_some_iff.1 HX.out).1]
            have h3 := h2.store (y := { x with state := 3, ok := k }) hx2 4 (.int .i64 k) (by omega) rfl
            have hx3 : ({ T with L := (T.L.set st { x with state := 3 }).set st { x with state := 3, ok := k } } : Tab).L[st]? = some { x with state := 3, ok := k } := by simp [(List.getElem?_eq_some_iff.1 HX.out).1]
            have h4 := h3.store (y := { x with state := 3, ok := k, ov := o }) hx3 5 (.int .i64 o) (by omega) rfl
            simp only [List.set_set] at h4
            rw [← set_updE (fun y => { y with state := 3, ok := k, ov := o }) HP.out HX.out]
            exact (h4.of_below (below_box _ _)).of_below (Below.refl _ _).drew
          · refine Mod.drew (Mod.alloc ?_ _)
            repeat (refine Mod.set ?_ (fun _ => .inr rfl) _)
            exact Mod.refl _ _
      · have he : Hid (q = (T, 18)) := by show _ = _; rw [← HQ.out, E0.out, if_pos hs2]
        have hs2' : (x.state == 2) = false := by simp [hs2]
        have hs2'' : (x.state != 2) = true := by simp [hs2]
        clear E0 hs2
        go_enter Try.func30, Try.ntmps30
        go_wp2_with (first
          | (go_at_call 40; refine hat.mono ?_; clear hat; rintro e1 w1 ⟨rfl, rfl⟩))
        go_ret
        rw [he.out]
        have hh := HH.out
        rw [HN.out] at hh
        exact ⟨rfl, RefTo.same hh (below_box _ _)⟩
    · have hg0 := fstI_none hst
      rw [atN, if_neg hst] at hat
      have he : Hid (q = (T, 17)) := by show _ = _; rw [← HQ.out, Tab.reply, if_neg (by simpa using HE.out), Tab.get, hg0]
      clear hst hg0
      go_enter Try.func30, Try.ntmps30
      go_wp2_with (first
        | (go_at_call 40; refine hat.mono ?_; clear hat; rintro e1 w1 ⟨rfl, rfl⟩))
      go_ret
      rw [he.out]
      exact ⟨rfl, RefTo.same HH.out (below_box _ _)⟩
  · have hep' : (ep != T.epoch) = true := by simp [hep]
    have he : Hid (q = (T, 22)) := by show _ = _; rw [← HQ.out, Tab.reply, if_pos hep]
    obtain ⟨m, hm⟩ : ∃ m, atN T.L id = m := ⟨_, rfl⟩
    rw [hm] at hat
    clear hm hep
    go_enter Try.func30, Try.ntmps30
    go_wp2_with (first
      | (go_at_call 40; refine hat.mono ?_; clear hat; rintro e1 w1 ⟨rfl, rfl⟩))
    go_ret
    rw [he.out]
    exact ⟨rfl, RefTo.same HH.out (below_box _ _)⟩
end Go.Proofs.Ytghoeecgmhcplaa
