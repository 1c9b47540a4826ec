/- A law's own table and the IDs it was told, as one state; the calls of layer 21 by it. -/
import Derived.Test.YtghoeecgmhcplaaNotifQ
import Derived.Test.YtghoeecgmhcplaaLawT
set_option linter.unusedVariables false
set_option linter.unusedSimpArgs false
namespace Go.Proofs.Ytghoeecgmhcplaa
open Go Go.RowKit Go.FL

theorem cells_below {w0 w1 : World} {b : Nat} {C : Array Value} (hb : Below w0.heap.size w0 w1) (hl : b < w0.heap.size) (hc : ∀ i, w0.cell? ⟨b, i, none⟩ = C[i]?) : ∀ i, w1.cell? ⟨b, i, none⟩ = C[i]? := fun i => (hb.cell (p := ⟨b, i, none⟩) hl).trans (hc i)
theorem frees_below {w0 w1 : World} {b : Nat} (hb : Below w0.heap.size w0 w1) (hl : b < w0.heap.size) (hc : ∀ i, w0.frozen? ⟨b, i, none⟩ = false) : ∀ i, w1.frozen? ⟨b, i, none⟩ = false := fun i => (hb.frozen (p := ⟨b, i, none⟩) hl).trans (hc i)

/-- a table made since w0, and a row of IDs made since w0 -/
structure LS (w0 : World) (a mb : Nat) (R : RTab) (T : Tab) (v : Value) (ids : List Int) (w : World) : Prop where
  tab : TabAt' w a mb R
  abs : R.abs = T
  low : ∀ k, R.foot a mb k → w0.heap.size ≤ k
  bel : Below w0.heap.size w0 w
  own : w.ownsRow w0.heap.size 29 1 v ids.length (ids.map (Value.int .u64))
theorem LS.inv {w0 w : World} {a mb : Nat} {R : RTab} {T : Tab} {v : Value} {ids : List Int} (h : LS w0 a mb R T v ids w) : T.Inv := h.abs ▸ h.tab.inv
theorem LS.below {w0 w w' : World} {a mb : Nat} {R : RTab} {T : Tab} {v : Value} {ids : List Int} (h : LS w0 a mb R T v ids w) (hb : Below w.heap.size w w') : LS w0 a mb R T v ids w' :=
  ⟨h.tab.of_below hb (Nat.le_refl _), h.abs, h.low, h.bel.trans (hb.mono h.bel.size), own_mod h.own (Mod.of_below hb (fun _ => False)) (fun _ _ h => h)⟩
theorem LS.alloc {w0 w : World} {a mb : Nat} {R : RTab} {T : Tab} {v : Value} {ids : List Int} (h : LS w0 a mb R T v ids w) (o : Obj) : LS w0 a mb R T v ids (w.alloc o) := h.below ((Below.refl _ w).alloc (Nat.le_refl _) o)
theorem LS.drew {w0 w : World} {a mb : Nat} {R : RTab} {T : Tab} {v : Value} {ids : List Int} (h : LS w0 a mb R T v ids w) : LS w0 a mb R T v ids w.drew := h.below (Below.refl _ w).drew
theorem LS.to {w0 w w' : World} {a mb : Nat} {R : RTab} {T T' : Tab} {v : Value} {ids : List Int} (h : LS w0 a mb R T v ids w) (k : TabTo' w a mb R T' w') : ∃ R', LS w0 a mb R' T' v ids w' := by
  obtain ⟨⟨R', h1, h2, h3⟩, h4⟩ := k
  refine ⟨R', h1, h2, fun k hk => ?_, h.bel.trans (h4.below h.bel.size h.low), own_mod h.own h4 fun j hj => h.tab.not_own h.own (by decide) (by decide) j hj⟩
  rcases h3 k hk with h' | h'
  · exact h.low k h'
  · exact Nat.le_trans h.bel.size h'
theorem LS.next {w0 w w' : World} {a mb : Nat} {R : RTab} {T T' : Tab} {v : Value} {ids : List Int} (h : LS w0 a mb R T v ids w) (k : TabTo' w a mb R T' w') : ∃ R', LS w0 a mb R' T' v ids w' ∧ (∀ k, R'.foot a mb k → R.foot a mb k ∨ w.heap.size ≤ k) ∧ Mod (R.foot a mb) w w' := by
  obtain ⟨⟨R', h1, h2, h3⟩, h4⟩ := k
  refine ⟨R', ⟨h1, h2, fun k hk => ?_, h.bel.trans (h4.below h.bel.size h.low), own_mod h.own h4 fun j hj => h.tab.not_own h.own (by decide) (by decide) j hj⟩, h3, h4⟩
  rcases h3 k hk with h' | h'
  · exact h.low k h'
  · exact Nat.le_trans h.bel.size h'

theorem OpsAt.low {w0 : World} {A : Option Addr} {ops : List OpD} (hO : OpsAt w0 A ops) {b off : Nat} (hA : A = some ⟨b, off, none⟩) (hne : ops ≠ []) : b < w0.heap.size := by
  cases ops with
  | nil => exact absurd rfl hne
  | cons o l =>
    subst hA
    exact cell_lt (hO.cells (i := 0) (o := o) rfl).1

theorem new_ls (size wait first : Int) (w0 w : World) (hb : Below w0.heap.size w0 w) (h1 : 1 ≤ size) (h2 : size ≤ 8) (h3 : 1 ≤ wait) (h4 : wait ≤ 1000) (h5 : 0 ≤ first) (h6 : first ≤ 18446744073709551615) :
    Calls Try.prog 8 #[.int .i64 size, .int .i64 wait, .int .u64 first] w fun e w' => ∃ a mb, e = .returned (.tuple #[.pointer (some ⟨a, 0, none⟩), .int .i64 0]) ∧ LS w0 a mb (RTab.fresh size wait first) (RTab.fresh size wait first).abs (.slice none 0 0) [] w' := by
  refine (new_yes size wait first w h1 h2 h3 h4 h5 h6).mono ?_
  rintro e w' ⟨rfl, hT, hB, _⟩
  refine ⟨_, _, rfl, hT, rfl, fun k hk => ?_, hb.trans (hB.mono hb.size), own_nil' _ _ _ _⟩
  have := hb.size
  rcases hk with h | h | ⟨e, he, _⟩
  · omega
  · omega
  · cases he
/-- the first play: the IDs that it tells -/
theorem play_ids {w0 w : World} {a mb : Nat} {R : RTab} {T : Tab} {v : Value} {ids : List Int} (h : LS w0 a mb R T v ids w) (A : Option Addr) (n c : Nat) (ops : List OpD) (hO : OpsAt w0 A ops) (hn : ops.length = n) (hn2 : n ≤ 9223372036854775807) (hw : ∀ o ∈ ops, o.Wf) :
    Calls Try.prog 9 #[.pointer (some ⟨a, 0, none⟩), .slice A n c] w fun e w' => ∃ v', e = .returned v' ∧ ∃ R', LS w0 a mb R' (playT T (ops.take 200)) v' (playI T (ops.take 200)) w' := by
  refine (play_any a mb R A n c ops w h.tab (SlAt.of_below hO h.bel (Nat.le_refl _)) hn hn2 hw fun b off hA hne hf => ?_).mono ?_
  · have := h.low b hf; have := OpsAt.low hO hA hne; omega
  · rintro e w' ⟨⟨v', rfl, hown⟩, hto⟩
    rw [h.abs] at hown hto
    obtain ⟨R', hR⟩ := h.to hto
    exact ⟨v', rfl, R', hR.tab, hR.abs, hR.low, hR.bel, own_mono hown h.bel.size⟩
theorem play_ls {w0 w : World} {a mb : Nat} {R : RTab} {T : Tab} {v : Value} {ids : List Int} (h : LS w0 a mb R T v ids w) (A : Option Addr) (n c : Nat) (ops : List OpD) (hO : OpsAt w0 A ops) (hn : ops.length = n) (hn2 : n ≤ 9223372036854775807) (hw : ∀ o ∈ ops, o.Wf) :
    Calls Try.prog 9 #[.pointer (some ⟨a, 0, none⟩), .slice A n c] w fun e w' => ∃ v', e = .returned v' ∧ ∃ R', LS w0 a mb R' (playT T (ops.take 200)) v ids w' := by
  refine (play_any a mb R A n c ops w h.tab (SlAt.of_below hO h.bel (Nat.le_refl _)) hn hn2 hw fun b off hA hne hf => ?_).mono ?_
  · have := h.low b hf; have := OpsAt.low hO hA hne; omega
  · rintro e w' ⟨⟨v', rfl, hown⟩, hto⟩
    rw [h.abs] at hto
    exact ⟨v', rfl, h.to hto⟩
theorem get_ls {w0 w : World} {a mb : Nat} {R : RTab} {T : Tab} {v : Value} {ids : List Int} (h : LS w0 a mb R T v ids w) (id : Int) (r : Option Ent) (hr : T.get id = r) :
    Calls Try.prog 10 #[.pointer (some ⟨a, 0, none⟩), .int .u64 id] w fun e w' => e = .returned (getOut r) ∧ Below w.heap.size w w' := by
  have := get_any a mb R id w h.tab
  rw [h.abs, hr] at this
  exact this
theorem get_none {w0 w : World} {a mb : Nat} {R : RTab} {T : Tab} {v : Value} {ids : List Int} (h : LS w0 a mb R T v ids w) (id : Int) (hr : T.get id = none) :
    Calls Try.prog 10 #[.pointer (some ⟨a, 0, none⟩), .int .u64 id] w fun e w' => e = .returned (.tuple #[.agg #[.int .u64 0, .int .i64 0, .int .i64 0, .int .i64 0, .int .i64 0, .int .i64 0], .bool false]) ∧ Below w.heap.size w w' := get_ls h id none hr
theorem get_some {w0 w : World} {a mb : Nat} {R : RTab} {T : Tab} {v : Value} {ids : List Int} (h : LS w0 a mb R T v ids w) (id : Int) (x : Ent) (hr : T.get id = some x) :
    Calls Try.prog 10 #[.pointer (some ⟨a, 0, none⟩), .int .u64 id] w fun e w' => e = .returned (.tuple #[.agg #[.int .u64 x.id, .int .i64 x.task, .int .i64 x.state, .int .i64 x.left, .int .i64 x.ok, .int .i64 x.ov], .bool true]) ∧ Below w.heap.size w w' := get_ls h id (some x) hr
theorem epoch_ls {w0 w : World} {a mb : Nat} {R : RTab} {T : Tab} {v : Value} {ids : List Int} (h : LS w0 a mb R T v ids w) (e0 : Int) (he : T.epoch = e0) :
    Calls Try.prog 13 #[.pointer (some ⟨a, 0, none⟩)] w fun e w' => e = .returned (.int .u64 e0) ∧ w = w' := by
  have := epoch_any a mb R w h.tab
  have e2 : R.epoch = e0 := by rw [← he, ← h.abs]; rfl
  rw [e2] at this
  exact this
theorem valid_ls {w0 w : World} {a mb : Nat} {R : RTab} {T : Tab} {v : Value} {ids : List Int} (h : LS w0 a mb R T v ids w) (id : Int) (r : Bool) (hr : T.valid id = r) :
    Calls Try.prog 16 #[.pointer (some ⟨a, 0, none⟩), .int .u64 id] w fun e w' => e = .returned (.bool r) ∧ w = w' := by
  have := valid_any a mb R id w h.tab
  rw [h.abs, hr] at this
  exact this
theorem tick_ls {w0 w : World} {a mb : Nat} {R : RTab} {T : Tab} {v : Value} {ids : List Int} (h : LS w0 a mb R T v ids w) :
    Calls Try.prog 12 #[.pointer (some ⟨a, 0, none⟩)] w fun e w' => ∃ v', e = .returned v' ∧ ∃ R', LS w0 a mb R' T.tick v ids w' := by
  refine (tick_any a mb R w h.tab).mono ?_
  rintro e w' ⟨⟨v', rfl, _⟩, hto⟩
  rw [h.abs] at hto
  exact ⟨v', rfl, h.to hto⟩
theorem rise_ls {w0 w : World} {a mb : Nat} {R : RTab} {T : Tab} {v : Value} {ids : List Int} (h : LS w0 a mb R T v ids w) (ep : Int) (T' : Tab) (er : Int) (hr : T.rise ep = (T', er)) (h0 : 0 ≤ ep) (h1 : ep ≤ 18446744073709551615) :
    Calls Try.prog 14 #[.pointer (some ⟨a, 0, none⟩), .int .u64 ep] w fun e w' => e = .returned (.int .i64 er) ∧ ∃ R', LS w0 a mb R' T' v ids w' := by
  refine (rise_any a mb R ep w h.tab h0 h1).mono ?_
  rintro e w' ⟨rfl, hto⟩
  rw [h.abs, hr] at hto ⊢
  exact ⟨rfl, h.to hto⟩
theorem reply_ls {w0 w : World} {a mb : Nat} {R : RTab} {T : Tab} {v : Value} {ids : List Int} (h : LS w0 a mb R T v ids w) (ep id k x : Int) (T' : Tab) (er : Int) (hr : T.reply ep id k x = (T', er)) :
    Calls Try.prog 15 #[.pointer (some ⟨a, 0, none⟩), .int .u64 ep, .int .u64 id, .agg #[.int .i64 k, .int .i64 x]] w fun e w' => e = .returned (.int .i64 er) ∧ ∃ R', LS w0 a mb R' T' v ids w' ∧ (∀ k, R'.foot a mb k → R.foot a mb k ∨ w.heap.size ≤ k) ∧ Mod (R.foot a mb) w w' := by
  refine (reply_any a mb R ep id k x w h.tab).mono ?_
  rintro e w' ⟨rfl, hto⟩
  rw [h.abs, hr] at hto ⊢
  exact ⟨rfl, h.next hto⟩
theorem ended_ls {w0 w : World} {a mb : Nat} {R : RTab} {T : Tab} {v : Value} {ids : List Int} (h : LS w0 a mb R T v ids w) (task : Int) (T' : Tab) (r : Option Ent) (hr : T.ended task = (T', r)) :
    Calls Try.prog 11 #[.pointer (some ⟨a, 0, none⟩), .int .i64 task] w fun e w' => e = .returned (getOut r) ∧ ∃ R', LS w0 a mb R' T' v ids w' ∧ (∀ k, R'.foot a mb k → R.foot a mb k ∨ w.heap.size ≤ k) ∧ Mod (R.foot a mb) w w' := by
  refine (ended_any a mb R task w h.tab).mono ?_
  rintro e w' ⟨rfl, hto⟩
  rw [h.abs, hr] at hto ⊢
  exact ⟨rfl, h.next hto⟩
theorem ended_some {w0 w : World} {a mb : Nat} {R : RTab} {T : Tab} {v : Value} {ids : List Int} (h : LS w0 a mb R T v ids w) (task : Int) (T' : Tab) (x : Ent) (hr : T.ended task = (T', some x)) :
    Calls Try.prog 11 #[.pointer (some ⟨a, 0, none⟩), .int .i64 task] w fun e w' => e = .returned (.tuple #[.agg #[.int .u64 x.id, .int .i64 x.task, .int .i64 x.state, .int .i64 x.left, .int .i64 x.ok, .int .i64 x.ov], .bool true]) ∧ ∃ R', LS w0 a mb R' T' v ids w' ∧ (∀ k, R'.foot a mb k → R.foot a mb k ∨ w.heap.size ≤ k) ∧ Mod (R.foot a mb) w w' := ended_ls h task T' (some x) hr
end Go.Proofs.Ytghoeecgmhcplaa
