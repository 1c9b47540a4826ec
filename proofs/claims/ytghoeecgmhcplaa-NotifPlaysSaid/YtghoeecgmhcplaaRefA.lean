/- Walks through the reference's small methods: waits, at, Get, gone. -/
import Derived.Test.YtghoeecgmhcplaaProg
import Derived.Test.YtghoeecgmhcplaaRef
import Derived.Test.YtghoeecgmhcplaaNotifB
import Derived.BigQuiet
import Derived.Deep.QuietTactic
set_option linter.unusedVariables false
set_option linter.unusedSimpArgs false
namespace Go.Proofs.Ytghoeecgmhcplaa
open Go Go.RowKit Go.FL

abbrev RefAt' := RefAt 55 36
abbrev RefTo' := RefTo 55 36
abbrev aggE (x : Ent) : Value := .agg #[.int .u64 x.id, .int .i64 x.task, .int .i64 x.state, .int .i64 x.left, .int .i64 x.ok, .int .i64 x.ov]

theorem rwaits_any (x : Ent) (w : World) (r : Bool) (hr : x.waits = r) :
    Calls Try.prog 42 #[.agg #[.int .u64 x.id, .int .i64 x.task, .int .i64 x.state, .int .i64 x.left, .int .i64 x.ok, .int .i64 x.ov]] w fun e w' => e = .returned (.bool r) ∧ w' = w.alloc (.cells #[.int .u64 x.id, .int .i64 x.task, .int .i64 x.state, .int .i64 x.left, .int .i64 x.ok, .int .i64 x.ov] 36) := by
  have HR := Lib.hid hr
  clear hr
  by_cases h1 : x.state = 1
  · have hs : (x.state == 1) = true := by simp [h1]
    have HF : Hid (r = true) := by show _ = _; rw [← HR.out]; simp [Ent.waits, h1]
    clear h1 HR
    go_enter Try.func42, Try.ntmps42
    go_wp2
    go_ret
    rw [HF.out]
    exact ⟨rfl, rfl⟩
  · have hs : (x.state == 1) = false := by simp [h1]
    have HF : Hid (r = (x.state == 2)) := by show _ = _; rw [← HR.out]; simp [Ent.waits, h1]
    clear h1 HR
    go_enter Try.func42, Try.ntmps42
    go_wp2
    go_ret
    rw [HF.out]
    exact ⟨rfl, rfl⟩

def atN (L : List Ent) (id : Int) : Int := if fstI (·.id == id) L < L.length then (fstI (·.id == id) L : Int) else -1
set_option maxHeartbeats 800000 in
theorem rat_any (r : Nat) (v : Value) (T : Tab) (id : Int) (w : World) (h : RefAt' w r v T) (hl : T.L.length ≤ 8) (q : Int) (hq : atN T.L id = q) :
    Calls Try.prog 40 #[.pointer (some ⟨r, 0, none⟩), .int .u64 id] w fun e w' => e = .returned (.int .i64 q) ∧ w = w' := by
  have HQ := Lib.hid hq
  clear hq
  obtain ⟨A, c, rfl⟩ := h.slice
  have hc := cells_of h.rb
  have hr := h.lt
  have HH := Lib.hid h
  have hle := fstI_le (·.id == id) T.L
  obtain ⟨st, hst⟩ : ∃ st, fstI (fun x : Ent => x.id == id) T.L = st := ⟨_, rfl⟩
  obtain ⟨n, hn⟩ : ∃ n, T.L.length = n := ⟨_, rfl⟩
  rw [hst] at hle
  rw [hn] at hle hl hc
  have HST := Lib.hid hst
  have HN := Lib.hid hn
  clear hst hn h
  go_enter Try.func40, Try.ntmps40
  go_wp2
  go_loop [5] (fun s => ∃ i : Nat, s = .int .i64 i ∧ i ≤ st) (fun s => n - (intOf s).toNat)
  case atStart => exact ⟨0, rfl, Nat.zero_le _⟩
  case round =>
    obtain ⟨i, rfl, hi⟩ := hrel
    by_cases his : i < st
    · obtain ⟨x, hx, hp⟩ := fstI_before (by rw [HST.out]; exact his)
      obtain ⟨g, c', hv, hg, hgr, hfz, k0, k1, k2, k3, k4, k5⟩ := HH.out.elem hx
      cases hv
      have hin : (i : Int) < n := by omega
      clear hx k1 k2 k3 k4 k5
      go_wp2
      go_round
      case rel => exact ⟨i + 1, by go_num, by omega⟩
      case measure => simp [intOf]; omega
    · obtain rfl : i = st := by omega
      by_cases hin : i < n
      · obtain ⟨x, hx, hp, _⟩ := fstI_at (p := fun x : Ent => x.id == id) (L := T.L) (by rw [HST.out, HN.out]; exact hin)
        rw [HST.out] at hx
        obtain ⟨g, c', hv, hg, hgr, hfz, k0, k1, k2, k3, k4, k5⟩ := HH.out.elem hx
        cases hv
        have hin' : (i : Int) < n := by omega
        clear hx k1 k2 k3 k4 k5
        go_wp2
        go_ret
        rw [← HQ.out, atN, HST.out, HN.out, if_pos hin]
        exact ⟨rfl, rfl⟩
      · have hin' : ¬ (i : Int) < n := by omega
        go_wp2
        go_ret
        rw [← HQ.out, atN, HST.out, HN.out, if_neg hin]
        exact ⟨rfl, rfl⟩
end Go.Proofs.Ytghoeecgmhcplaa
