/- The ops of layer 21's laws, as plain data; what they do to a table. -/
import Derived.Test.YtghoeecgmhcplaaTabInv
import Derived.Test.YtghoeecgmhcplaaSlices
set_option linter.unusedVariables false
set_option linter.unusedSimpArgs false
namespace Go.FL
open Go Go.RowKit

structure OpD where
  do_ : Int
  n : Int
  id : Int
  ok : Int
  ov : Int
def opCells (o : OpD) : List Value := [.int .i64 o.do_, .int .i64 o.n, .int .u64 o.id, .int .i64 o.ok, .int .i64 o.ov]
def OpD.Wf (o : OpD) : Prop := 0 ≤ o.id ∧ o.id ≤ 18446744073709551615
def Tab.op (T : Tab) (o : OpD) : Tab :=
  if o.do_ = 0 ∨ o.do_ = 1 then (T.add o.n).1
  else if o.do_ = 2 ∨ o.do_ = 3 then T.send.1
  else if o.do_ = 4 then (T.reply (IntKind.u64.wrap o.n) o.id o.ok o.ov).1
  else if o.do_ = 5 then (T.kill o.n).1
  else if o.do_ = 6 then T.tick
  else if o.do_ = 7 then (T.rise o.id).1
  else if o.do_ = 8 then T.drop
  else if o.do_ = 9 then (T.ended o.n).1
  else T
/-- the ID that an op tells -/
def Tab.tells (T : Tab) (o : OpD) : List Int := if (o.do_ = 0 ∨ o.do_ = 1) ∧ (T.add o.n).2.2 = 0 then [(T.add o.n).2.1] else []
def playT (T : Tab) (ops : List OpD) : Tab := ops.foldl Tab.op T
def playI : Tab → List OpD → List Int
  | _, [] => []
  | T, o :: r => T.tells o ++ playI (T.op o) r
theorem playT_snoc (T : Tab) (ops : List OpD) (o : OpD) : playT T (ops ++ [o]) = (playT T ops).op o := by simp [playT]
theorem playI_snoc (T : Tab) (ops : List OpD) (o : OpD) : playI T (ops ++ [o]) = playI T ops ++ (playT T ops).tells o := by
  induction ops generalizing T with
  | nil => simp [playI, playT]
  | cons x l ih => simp [playI, ih, playT]
theorem Tab.tells_le (T : Tab) (o : OpD) : (T.tells o).length ≤ 1 := by unfold Tab.tells; split <;> simp
theorem playI_le (T : Tab) (ops : List OpD) : (playI T ops).length ≤ ops.length := by
  induction ops generalizing T with
  | nil => simp [playI]
  | cons x l ih =>
    have h1 := T.tells_le x
    have h2 := ih (T.op x)
    simp only [playI, List.length_append, List.length_cons]
    omega
theorem Tab.Inv.op {T : Tab} (h : T.Inv) (o : OpD) (ho : o.Wf) : (T.op o).Inv := by
  unfold Tab.op
  split
  · exact h.add _
  · split
    · exact h.send
    · split
      · exact h.reply _ _ _ _
      · split
        · exact h.kill _
        · split
          · exact h.tick
          · split
            · exact h.rise _ ho.2
            · split
              · exact h.drop
              · split
                · exact h.ended _
                · exact h
theorem TabTo.trans {tT tE : TypeId} {w wr wr2 w3 : World} {a mb : Nat} {R R' : RTab} {T T2 : Tab} (h : TabTo tT tE w a mb R T wr) (hb : Below wr.heap.size wr wr2) (hf : ∀ k, R'.foot a mb k → R.foot a mb k ∨ w.heap.size ≤ k) (k : TabTo tT tE wr2 a mb R' T2 w3) : TabTo tT tE w a mb R T2 w3 := by
  obtain ⟨⟨R2, h1, h2, h3⟩, h4⟩ := k
  refine ⟨⟨R2, h1, h2, fun i hi => ?_⟩, (h.mod.then_below hb).trans h4 fun i hi hk => ?_⟩
  · rcases h3 i hi with h | h'
    · exact hf i h
    · have := h.mod.size; have := hb.size; exact .inr (by omega)
  · rcases hf i hk with h | h
    · exact h
    · omega
/-- rows of other types lie beside the table -/
theorem TabAt.not_own {tT tE : TypeId} {w : World} {a mb : Nat} {R : RTab} (h : TabAt tT tE w a mb R) {base n size : Nat} {e : TypeId} {v : Value} {xs : List Value} (ho : w.ownsRow base e size v n xs) (h1 : e ≠ tT) (h2 : e ≠ tE) (k : Nat) (hk : v.ownBlock = some k) : ¬ R.foot a mb k := by
  rintro (q | q | ⟨x, hx, q⟩)
  · exact own_ne ho h.tb h1 k hk q
  · subst q
    rcases ho.2 with ⟨rfl, _⟩ | ⟨g, cap, cur, rfl, _, hh, _⟩
    · simp [Value.ownBlock] at hk
    · have : g = k := by simpa [Value.ownBlock] using hk
      subst this
      rw [h.mp.blk] at hh
      cases hh
  · exact own_ne ho (h.es x hx) h2 k hk q.symm
end Go.FL
