/- Slices whose elements take several cells, as they lie in memory. No program stands here. -/
import Derived.Test.YtghoeecgmhcplaaOwnRows
set_option linter.unusedVariables false
set_option linter.unusedSimpArgs false
namespace Go.FL
open Go Go.RowKit

/-- From A on lie the elements css, sz cells each. -/
def SlAt (w : World) (sz : Nat) (A : Option Addr) (css : List (List Value)) : Prop :=
  ∀ i cs, css[i]? = some cs → cs.length = sz ∧ ∃ b off, A = some ⟨b, off, none⟩ ∧ ∀ j v, cs[j]? = some v → w.cell? ⟨b, off + (i * sz + j), none⟩ = some v
theorem SlAt.nil (w : World) (sz : Nat) (A : Option Addr) : SlAt w sz A [] := fun i cs h => by simp at h
theorem cell_lt {w : World} {b off : Nat} {v : Value} (h : w.cell? ⟨b, off, none⟩ = some v) : b < w.heap.size := by
  unfold World.cell? at h
  rcases Nat.lt_or_ge b w.heap.size with h' | h'
  · exact h'
  · simp [Array.getElem?_eq_none h'] at h
theorem SlAt.of_same {w w' : World} {sz : Nat} {A : Option Addr} {css : List (List Value)} (h : SlAt w sz A css) (hs : ∀ b off, A = some ⟨b, off, none⟩ → b < w.heap.size → w'.heap[b]? = w.heap[b]?) : SlAt w' sz A css := by
  intro i cs hi
  obtain ⟨h1, b, off, hA, hc⟩ := h i cs hi
  refine ⟨h1, b, off, hA, fun j v hv => ?_⟩
  have h2 := hc j v hv
  rw [← h2]
  exact World.cell?_of_block (w := w) (hs b off hA (cell_lt h2))
theorem SlAt.of_below {B : Nat} {w w' : World} {sz : Nat} {A : Option Addr} {css : List (List Value)} (h : SlAt w sz A css) (hb : Below B w w') (hB : w.heap.size ≤ B) : SlAt w' sz A css :=
  h.of_same fun b _ _ hl => hb.block b (by omega)
theorem SlAt.of_mod {F : Nat → Prop} {w w' : World} {sz : Nat} {A : Option Addr} {css : List (List Value)} (h : SlAt w sz A css) (hm : Mod F w w') (hF : ∀ b off, A = some ⟨b, off, none⟩ → ¬ F b) : SlAt w' sz A css :=
  h.of_same fun b off hA hl => hm.block b hl (hF b off hA)
/-- the cells of one element -/
theorem SlAt.elem {w : World} {sz : Nat} {A : Option Addr} {css : List (List Value)} (h : SlAt w sz A css) {i : Nat} {cs : List Value} (hi : css[i]? = some cs) : ∃ b off, A = some ⟨b, off, none⟩ ∧ b < w.heap.size ∨ sz = 0 := by
  obtain ⟨h1, b, off, hA, hc⟩ := h i cs hi
  cases cs with
  | nil => exact ⟨b, off, .inr (by simpa using h1.symm)⟩
  | cons v r => exact ⟨b, off, .inl ⟨hA, cell_lt (hc 0 v rfl)⟩⟩
theorem SlAt.take {w : World} {sz : Nat} {A : Option Addr} {css : List (List Value)} (h : SlAt w sz A css) (n : Nat) : SlAt w sz A (css.take n) := fun i cs hi => by
  rw [List.getElem?_take] at hi
  split at hi
  · exact h i cs hi
  · cases hi
/-- a row of the call's own reads so -/
theorem SlAt.of_owns {w : World} {base n sz : Nat} {t : TypeId} {A : Option Addr} {c : Nat} {css : List (List Value)} (h : w.ownsRow base t sz (.slice A n c) n css.flatten) (hl : css.length = n) (hs : ∀ cs ∈ css, cs.length = sz) : SlAt w sz A css := by
  intro i cs hi
  have hil : i < css.length := (List.getElem?_eq_some_iff.1 hi).1
  have hmem : cs ∈ css := List.mem_of_getElem? hi
  refine ⟨hs cs hmem, ?_⟩
  rcases h.2 with ⟨_, h0⟩ | ⟨g, cap, cur, hv, hb, hh, hnc, hcm, hsz, htk⟩
  · omega
  · cases hv
    refine ⟨g, 0, rfl, fun j v hj => ?_⟩
    have hjl : j < cs.length := (List.getElem?_eq_some_iff.1 hj).1
    have key : ∀ (css : List (List Value)) (i : Nat), (∀ cs ∈ css, cs.length = sz) → css[i]? = some cs → css.flatten[i * sz + j]? = some v := by
      intro css
      induction css with
      | nil => intro i _ h; simp at h
      | cons x l ih =>
        intro i hs hi
        have hx : x.length = sz := hs x (by simp)
        cases i with
        | zero =>
          have : x = cs := by simpa using hi
          subst this
          rw [List.flatten_cons, Nat.zero_mul, Nat.zero_add, List.getElem?_append_left hjl]
          exact hj
        | succ i =>
          have := ih i (fun c hc => hs c (by simp [hc])) (by simpa using hi)
          rw [List.flatten_cons, List.getElem?_append_right (by rw [hx, Nat.succ_mul]; omega), hx]
          rw [show (i + 1) * sz + j - sz = i * sz + j from by rw [Nat.succ_mul]; omega]
          exact this
    have h1 := key css i hs hi
    rw [← htk, List.getElem?_take] at h1
    split at h1
    · rw [Nat.zero_add, cell_of hh, ← Array.getElem?_toList]; exact h1
    · cases h1
end Go.FL
