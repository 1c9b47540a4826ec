/- The reference's table as it lies in memory: one struct, and a row of entries of its own. No program stands here. -/
import Derived.Test.YtghoeecgmhcplaaTabInv
import Derived.Test.YtghoeecgmhcplaaOwnRows
import Derived.Test.YtghoeecgmhcplaaSlices
import Derived.Laws.OwnMore
set_option linter.unusedVariables false
set_option linter.unusedSimpArgs false
namespace Go.FL
open Go Go.RowKit

def entR (x : Ent) : List Value := [.int .u64 x.id, .int .i64 x.task, .int .i64 x.state, .int .i64 x.left, .int .i64 x.ok, .int .i64 x.ov]
/-- The reference's table: its struct in block r, its list's value v. -/
structure RefAt (tR tE : TypeId) (w : World) (r : Nat) (v : Value) (T : Tab) : Prop where
  rb : w.heap[r]? = some (.cells #[v, .int .i64 T.size, .int .i64 T.wait, .int .u64 T.next, .int .u64 T.epoch] tR (0, 0))
  row : w.ownsRow 0 tE 6 v T.L.length (T.L.map entR).flatten
  ne : tE ≠ tR
def refF (r : Nat) (v : Value) (k : Nat) : Prop := k = r ∨ v.ownBlock = some k
theorem RefAt.lt {tR tE : TypeId} {w : World} {r : Nat} {v : Value} {T : Tab} (h : RefAt tR tE w r v T) : r < w.heap.size := lt_of_heap h.rb
theorem RefAt.low {tR tE : TypeId} {w : World} {r : Nat} {v : Value} {T : Tab} (h : RefAt tR tE w r v T) {k : Nat} (hk : refF r v k) : k < w.heap.size := by
  rcases hk with rfl | hk
  · exact h.lt
  · exact own_lt' h.row k hk
theorem RefAt.of_mod {tR tE : TypeId} {F : Nat → Prop} {w w' : World} {r : Nat} {v : Value} {T : Tab} (h : RefAt tR tE w r v T) (hm : Mod F w w') (hF : ∀ k, refF r v k → ¬ F k) : RefAt tR tE w' r v T :=
  ⟨(hm.block r h.lt (hF r (.inl rfl))).trans h.rb, own_mod h.row hm (fun k hk => hF k (.inr hk)), h.ne⟩
theorem RefAt.of_below {tR tE : TypeId} {w w' : World} {r : Nat} {v : Value} {T : Tab} (h : RefAt tR tE w r v T) (hb : Below w.heap.size w w') : RefAt tR tE w' r v T :=
  h.of_mod (Mod.of_below hb (fun _ => False)) (fun _ _ h => h)
theorem RefAt.slice {tR tE : TypeId} {w : World} {r : Nat} {v : Value} {T : Tab} (h : RefAt tR tE w r v T) : ∃ A c, v = .slice A T.L.length c := own_slice' h.row
theorem RefAt.elem {tR tE : TypeId} {w : World} {r : Nat} {v : Value} {T : Tab} (h : RefAt tR tE w r v T) {i : Nat} {x : Ent} (hi : T.L[i]? = some x) :
    ∃ g c, v = .slice (some ⟨g, 0, none⟩) T.L.length c ∧ g < w.heap.size ∧ g ≠ r ∧ (∀ o, w.frozen? ⟨g, o, none⟩ = false) ∧ w.cell? ⟨g, i * 6, none⟩ = some (.int .u64 x.id) ∧ w.cell? ⟨g, i * 6 + 1, none⟩ = some (.int .i64 x.task) ∧ w.cell? ⟨g, i * 6 + 2, none⟩ = some (.int .i64 x.state) ∧ w.cell? ⟨g, i * 6 + 3, none⟩ = some (.int .i64 x.left) ∧ w.cell? ⟨g, i * 6 + 4, none⟩ = some (.int .i64 x.ok) ∧ w.cell? ⟨g, i * 6 + 5, none⟩ = some (.int .i64 x.ov) := by
  have hil := (List.getElem?_eq_some_iff.1 hi).1
  obtain ⟨A, c, rfl⟩ := h.slice
  have hrow := h.row
  have hs : SlAt w 6 A (T.L.map entR) := SlAt.of_owns hrow (by simp) (by intro cs hcs; obtain ⟨o, _, rfl⟩ := List.mem_map.1 hcs; rfl)
  rcases hrow.2 with ⟨_, h0⟩ | ⟨g, cap, cur, hv, _, hg, _⟩
  · omega
  · cases hv
    obtain ⟨_, b', off', hA, hc⟩ := hs i (entR x) (by rw [List.getElem?_map, hi]; rfl)
    cases hA
    refine ⟨g, c, rfl, lt_of_heap hg, fun e => ?_, fun o => free_of hg o, ?_⟩
    · have := own_ne hrow h.rb h.ne g rfl; exact this e
    · have k0 := hc 0 _ rfl
      have k1 := hc 1 _ rfl
      have k2 := hc 2 _ rfl
      have k3 := hc 3 _ rfl
      have k4 := hc 4 _ rfl
      have k5 := hc 5 _ rfl
      simp only [Nat.zero_add, Nat.add_zero] at k0 k1 k2 k3 k4 k5
      exact ⟨k0, k1, k2, k3, k4, k5⟩
theorem RefAt.elem' {tR tE : TypeId} {w : World} {r g n c : Nat} {T : Tab} (h : RefAt tR tE w r (.slice (some ⟨g, 0, none⟩) n c) T) {i : Nat} {x : Ent} (hi : T.L[i]? = some x) :
    g < w.heap.size ∧ g ≠ r ∧ (∀ o, w.frozen? ⟨g, o, none⟩ = false) ∧ w.cell? ⟨g, i * 6, none⟩ = some (.int .u64 x.id) ∧ w.cell? ⟨g, i * 6 + 1, none⟩ = some (.int .i64 x.task) ∧ w.cell? ⟨g, i * 6 + 2, none⟩ = some (.int .i64 x.state) ∧ w.cell? ⟨g, i * 6 + 3, none⟩ = some (.int .i64 x.left) ∧ w.cell? ⟨g, i * 6 + 4, none⟩ = some (.int .i64 x.ok) ∧ w.cell? ⟨g, i * 6 + 5, none⟩ = some (.int .i64 x.ov) := by
  obtain ⟨g', c', hv, h1⟩ := h.elem hi
  cases hv
  exact h1
theorem flatten_set {L : List Ent} {i j : Nat} {x y : Ent} {u : Value} (hi : L[i]? = some x) (hj : j < 6) (hy : entR y = (entR x).set j u) : (L.map entR).flatten.set (i * 6 + j) u = ((L.set i y).map entR).flatten := by
  induction L generalizing i with
  | nil => simp at hi
  | cons z L ih =>
    cases i with
    | zero =>
      have : z = x := by simpa using hi
      subst this
      simp only [List.map_cons, List.flatten_cons, List.set_cons_zero, Nat.zero_mul, Nat.zero_add, hy]
      rw [List.set_append_left _ _ (by simpa [entR] using hj)]
    | succ i =>
      have := ih (i := i) (by simpa using hi)
      simp only [List.map_cons, List.flatten_cons, List.set_cons_succ]
      rw [← this, List.set_append_right _ _ (by simp [entR]; omega)]
      congr 2
      simp [entR]; omega
/-- one cell of an entry is written -/
theorem RefAt.store {tR tE : TypeId} {w : World} {r g i c n : Nat} {T : Tab} {x y : Ent} (h : RefAt tR tE w r (.slice (some ⟨g, 0, none⟩) n c) T) (hi : T.L[i]? = some x) (j : Nat) (u : Value) (hj : j < 6) (hy : entR y = (entR x).set j u) :
    RefAt tR tE (w.setCell ⟨g, i * 6 + j, none⟩ u) r (.slice (some ⟨g, 0, none⟩) n c) { T with L := T.L.set i y } := by
  obtain ⟨A, c', hv⟩ := h.slice
  cases hv
  have hgr : r ≠ g := fun e => own_ne h.row h.rb h.ne g rfl e.symm
  refine ⟨(set_other hgr).trans h.rb, ?_, h.ne⟩
  have := (h.row.stored (i * 6 + j) u).1
  rw [flatten_set hi hj hy] at this
  simpa using this
/-- one entry at its place is the entry at its ID -/
theorem set_updE {L : List Ent} {i : Nat} {x : Ent} (f : Ent → Ent) (hp : L.Pairwise fun x y => x.id < y.id) (hi : L[i]? = some x) : L.set i (f x) = updE L x.id f := by
  induction L generalizing i with
  | nil => simp at hi
  | cons z L ih =>
    rw [List.pairwise_cons] at hp
    cases i with
    | zero =>
      have : z = x := by simpa using hi
      subst this
      simp only [List.set_cons_zero, updE, List.map_cons, beq_self_eq_true, if_true, List.cons.injEq, true_and]
      have : ∀ y ∈ L, (if y.id == z.id then f y else y) = y := fun y hy => by
        have := hp.1 y hy
        rw [if_neg (by simp; omega)]
      exact ((List.map_congr_left this).trans (List.map_id' L)).symm
    | succ i =>
      have hi' : L[i]? = some x := by simpa using hi
      have hlt := hp.1 x (List.mem_of_getElem? hi')
      simp only [List.set_cons_succ, updE, List.map_cons]
      rw [if_neg (by simp; omega), ih hp.2 hi']; rfl
/-- the place of the first one of which p holds; the length, if there is none -/
def fstI {α : Type} (p : α → Bool) (L : List α) : Nat := L.findIdx p
theorem fstI_le {α : Type} (p : α → Bool) (L : List α) : fstI p L ≤ L.length := List.findIdx_le_length
theorem fstI_before {α : Type} {p : α → Bool} {L : List α} {i : Nat} (h : i < fstI p L) : ∃ x, L[i]? = some x ∧ p x = false := by
  have hl : i < L.length := Nat.lt_of_lt_of_le h List.findIdx_le_length
  refine ⟨L[i], List.getElem?_eq_getElem hl, ?_⟩
  have := List.not_of_lt_findIdx h
  simpa using this
theorem fstI_at {α : Type} {p : α → Bool} {L : List α} (h : fstI p L < L.length) : ∃ x, L[fstI p L]? = some x ∧ p x = true ∧ L.find? p = some x := by
  refine ⟨L[fstI p L], List.getElem?_eq_getElem h, List.findIdx_getElem (w := h), ?_⟩
  have := @List.find?_eq_some_iff_getElem _ L p (L[fstI p L])
  refine this.2 ⟨List.findIdx_getElem (w := h), fstI p L, h, rfl, fun j hj => ?_⟩
  have := List.not_of_lt_findIdx hj
  simpa using this
theorem fstI_none {α : Type} {p : α → Bool} {L : List α} (h : ¬ fstI p L < L.length) : L.find? p = none := by
  rw [List.find?_eq_none]
  intro x hx hp
  exact h (List.findIdx_lt_length.2 ⟨x, hx, hp⟩)
/-- what a step of the reference's table does -/
def RefTo (tR tE : TypeId) (w : World) (r : Nat) (v : Value) (T' : Tab) (w' : World) : Prop :=
  (∃ v', RefAt tR tE w' r v' T' ∧ ∀ k, v'.ownBlock = some k → v.ownBlock = some k ∨ w.heap.size ≤ k) ∧ Mod (refF r v) w w'
theorem RefTo.same {tR tE : TypeId} {w w' : World} {r : Nat} {v : Value} {T : Tab} (h : RefAt tR tE w r v T) (hb : Below w.heap.size w w') : RefTo tR tE w r v T w' :=
  ⟨⟨v, h.of_below hb, fun _ h => .inl h⟩, Mod.of_below hb _⟩
theorem RefTo.of_at {tR tE : TypeId} {w w' : World} {r : Nat} {v : Value} {T : Tab} (h : RefAt tR tE w' r v T) (hm : Mod (refF r v) w w') : RefTo tR tE w r v T w' := ⟨⟨v, h, fun _ h => .inl h⟩, hm⟩
end Go.FL
