/- Rows of whole numbers in memory, and what swaps do to a list. No program stands here. -/
import Derived.Test.YtghoeecgmhcplaaBase
set_option linter.unusedVariables false
set_option linter.unusedSimpArgs false
namespace Go.FL
open Go Go.RowKit

def swp (xs : List Int) (i j : Nat) : List Int := (xs.set i (xs.getD j 0)).set j (xs.getD i 0)
theorem swp_length (xs : List Int) (i j : Nat) : (swp xs i j).length = xs.length := by simp [swp]
theorem swp_at (xs : List Int) (i j p : Nat) (hi : i < xs.length) (hj : j < xs.length) : (swp xs i j).getD p 0 = if p = j then xs.getD i 0 else if p = i then xs.getD j 0 else xs.getD p 0 := by
  simp only [swp, List.getD_eq_getElem?_getD, List.getElem?_set]
  by_cases h1 : j = p
  · subst h1; simp [hj]
  · by_cases h2 : i = p
    · subst h2
      have : ¬ i = j := fun e => h1 e.symm
      simp [h1, hi, this]
    · have h1' : ¬ p = j := fun e => h1 e.symm
      have h2' : ¬ p = i := fun e => h2 e.symm
      simp [h1, h2, h1', h2']
/-- ys comes of xs by swaps of places from a to b. -/
inductive Sw (a b : Nat) (xs : List Int) : List Int → Prop
  | refl : Sw a b xs xs
  | step {ys : List Int} {i j : Nat} (h : Sw a b xs ys) (hi : a ≤ i) (hi' : i < b) (hj : a ≤ j) (hj' : j < b) : Sw a b xs (swp ys i j)
theorem Sw.trans {a b : Nat} {xs ys zs : List Int} (h : Sw a b xs ys) (k : Sw a b ys zs) : Sw a b xs zs := by
  induction k with
  | refl => exact h
  | step _ h1 h2 h3 h4 ih => exact .step ih h1 h2 h3 h4
theorem Sw.mono {a b a' b' : Nat} {xs ys : List Int} (h : Sw a b xs ys) (ha : a' ≤ a) (hb : b ≤ b') : Sw a' b' xs ys := by
  induction h with
  | refl => exact .refl
  | step _ h1 h2 h3 h4 ih => exact .step ih (by omega) (by omega) (by omega) (by omega)
theorem Sw.length {a b : Nat} {xs ys : List Int} (h : Sw a b xs ys) : ys.length = xs.length := by
  induction h with
  | refl => rfl
  | step _ h1 h2 h3 h4 ih => rw [swp_length, ih]
theorem Sw.out {a b : Nat} {xs ys : List Int} (h : Sw a b xs ys) (hb : b ≤ xs.length) {p : Nat} (hp : p < a ∨ b ≤ p) : ys.getD p 0 = xs.getD p 0 := by
  induction h with
  | refl => rfl
  | @step ys i j k h1 h2 h3 h4 ih =>
    have hl := k.length
    rw [swp_at _ _ _ _ (by omega) (by omega), if_neg (by omega), if_neg (by omega), ih]
/-- what holds of all the numbers of the part holds of them behind the swaps -/
theorem Sw.all {a b : Nat} {xs ys : List Int} (h : Sw a b xs ys) (hb : b ≤ xs.length) (P : Int → Prop) (hP : ∀ p, a ≤ p → p < b → P (xs.getD p 0)) : ∀ p, a ≤ p → p < b → P (ys.getD p 0) := by
  induction h with
  | refl => exact hP
  | @step ys i j k h1 h2 h3 h4 ih =>
    intro p hp hp'
    have hl := k.length
    rw [swp_at _ _ _ _ (by omega) (by omega)]
    split
    · exact ih i h1 h2
    · split
      · exact ih j h3 h4
      · exact ih p hp hp'
theorem swp_perm (xs : List Int) (i j : Nat) (hi : i < xs.length) (hj : j < xs.length) : (swp xs i j).Perm xs := by
  rw [List.perm_iff_count]
  intro c
  have e1 : xs.getD j 0 = xs[j] := by simp [List.getD_eq_getElem?_getD, hj]
  have e2 : xs.getD i 0 = xs[i] := by simp [List.getD_eq_getElem?_getD, hi]
  simp only [swp, e1, e2]
  rw [List.count_set (by simpa using hj), List.count_set hi]
  simp only [List.getElem_set]
  have hci : xs[i] = c → 0 < xs.count c := fun e => by rw [← e]; exact List.count_pos_iff.2 (List.getElem_mem hi)
  have hcj : xs[j] = c → 0 < xs.count c := fun e => by rw [← e]; exact List.count_pos_iff.2 (List.getElem_mem hj)
  by_cases hij : i = j
  · subst hij
    by_cases h1 : xs[i] = c
    · have := hci h1
      simp [h1]; omega
    · simp [h1]
  · by_cases h1 : xs[i] = c <;> by_cases h2 : xs[j] = c <;> simp [hij, h1, h2]
    · have := hci h1; omega
    · have := hci h1; omega
theorem Sw.perm {a b : Nat} {xs ys : List Int} (h : Sw a b xs ys) (hb : b ≤ xs.length) : ys.Perm xs := by
  induction h with
  | refl => exact .refl _
  | @step ys i j k h1 h2 h3 h4 ih =>
    have hl := k.length
    exact (swp_perm ys i j (by omega) (by omega)).trans ih
def SortedIn (a b : Nat) (xs : List Int) : Prop := ∀ p q, a ≤ p → p ≤ q → q < b → xs.getD p 0 ≤ xs.getD q 0
theorem sorted_all {xs : List Int} (h : SortedIn 0 xs.length xs) : xs.Pairwise (· ≤ ·) := by
  rw [List.pairwise_iff_getElem]
  intro i j hi hj hij
  have := h i j (Nat.zero_le _) (by omega) hj
  simpa [List.getD_eq_getElem?_getD, hi, hj] using this
/-- two rising lists of the same numbers are one -/
theorem sorted_perm_eq {xs ys : List Int} (hx : xs.Pairwise (· ≤ ·)) (hy : ys.Pairwise (· ≤ ·)) (h : xs.Perm ys) : xs = ys :=
  h.eq_of_pairwise (fun a b _ _ h1 h2 => by omega) hx hy

/-! ### Rows -/
/-- Block g: a row of cap cells of type t, none frozen, whose first ones hold xs. -/
structure RowAt (q : IntKind) (t : TypeId) (w : World) (g cap : Nat) (xs : List Int) : Prop where
  ex : ∃ C : Array Value, w.heap[g]? = some (.cells C t (0, 0)) ∧ C.size = cap ∧ xs.length ≤ cap ∧ C.toList.take xs.length = xs.map (Value.int q)
theorem RowAt.lt {q : IntKind} {t : TypeId} {w : World} {g cap : Nat} {xs : List Int} (h : RowAt q t w g cap xs) : g < w.heap.size := by
  obtain ⟨C, h1, _⟩ := h.ex
  exact lt_of_heap h1
theorem RowAt.of_block {q : IntKind} {t : TypeId} {w w' : World} {g cap : Nat} {xs : List Int} (h : RowAt q t w g cap xs) (e : w'.heap[g]? = w.heap[g]?) : RowAt q t w' g cap xs := by
  obtain ⟨C, h1, h2⟩ := h.ex
  exact ⟨C, e.trans h1, h2⟩
theorem RowAt.cell {q : IntKind} {t : TypeId} {w : World} {g cap : Nat} {xs : List Int} (h : RowAt q t w g cap xs) {i : Nat} (hi : i < xs.length) : w.cell? ⟨g, i, none⟩ = some (.int q (xs.getD i 0)) := by
  obtain ⟨C, h1, h2, h3, h4⟩ := h.ex
  rw [cell_of h1]
  have h5 : (C.toList.take xs.length)[i]? = C.toList[i]? := by rw [List.getElem?_take, if_pos hi]
  rw [← Array.getElem?_toList, ← h5, h4]
  simp [List.getD_eq_getElem?_getD, hi]
theorem RowAt.free {q : IntKind} {t : TypeId} {w : World} {g cap : Nat} {xs : List Int} (h : RowAt q t w g cap xs) (i : Nat) : w.frozen? ⟨g, i, none⟩ = false := by
  obtain ⟨C, h1, _⟩ := h.ex
  exact free_of h1 i
theorem RowAt.set {q : IntKind} {t : TypeId} {w : World} {g cap : Nat} {xs : List Int} (h : RowAt q t w g cap xs) {i : Nat} (hi : i < xs.length) (x : Int) : RowAt q t (w.setCell ⟨g, i, none⟩ (.int q x)) g cap (xs.set i x) := by
  obtain ⟨C, h1, h2, h3, h4⟩ := h.ex
  refine ⟨_, setCell_heap h1, by simpa using h2, by simpa using h3, ?_⟩
  have : (C.setIfInBounds i (.int q x)).toList = C.toList.set i (.int q x) := by simp
  rw [this, List.length_set, List.take_set, h4, List.map_set]
theorem RowAt.swap {q : IntKind} {t : TypeId} {w : World} {g cap : Nat} {xs : List Int} (h : RowAt q t w g cap xs) {i j : Nat} (hi : i < xs.length) (hj : j < xs.length) : RowAt q t ((w.setCell ⟨g, i, none⟩ (.int q (xs.getD j 0))).setCell ⟨g, j, none⟩ (.int q (xs.getD i 0))) g cap (swp xs i j) :=
  (h.set hi _).set (by simpa using hj) _
theorem RowAt.ne {q : IntKind} {t t2 : TypeId} {w : World} {g cap p : Nat} {xs : List Int} {C : Array Value} {fr : Nat × Nat} (h : RowAt q t w g cap xs) (hp : w.heap[p]? = some (.cells C t2 fr)) (hne : t ≠ t2) : g ≠ p := by
  intro e
  obtain ⟨C', h1, _⟩ := h.ex
  rw [e, hp] at h1
  simp only [Option.some.injEq, Obj.cells.injEq] at h1
  exact hne h1.2.1.symm
theorem RowAt.of_owns {q : IntKind} {t : TypeId} {w : World} {base n : Nat} {v : Value} {xs : List Int} (h : w.ownsRow base t 1 v n (xs.map (Value.int q))) (hn : 0 < n) : ∃ g cap, v = .slice (some ⟨g, 0, none⟩) n cap ∧ base ≤ g ∧ cap ≤ maxLen ∧ RowAt q t w g cap xs := by
  obtain ⟨h1, h2⟩ := h
  rcases h2 with ⟨_, h0⟩ | ⟨g, cap, cur, hv, hb, hh, hnc, hcm, hsz, htk⟩
  · omega
  · have hl : xs.length = n := by simpa using h1
    exact ⟨g, cap, hv, hb, hcm, ⟨cur, hh, by simpa using hsz, by omega, by rw [hl]; simpa using htk⟩⟩
theorem RowAt.owns {q : IntKind} {t : TypeId} {w : World} {base g cap : Nat} {xs : List Int} (h : RowAt q t w g cap xs) (hb : base ≤ g) (hc : cap ≤ maxLen) : w.ownsRow base t 1 (.slice (some ⟨g, 0, none⟩) xs.length cap) xs.length (xs.map (Value.int q)) := by
  obtain ⟨C, h1, h2, h3, h4⟩ := h.ex
  exact ⟨by simp, .inr ⟨g, cap, C, rfl, hb, h1, h3, hc, by simpa using h2, by simpa using h4⟩⟩
/-- a string's byte, whatever it is -/
theorem wpList_index_some {P : Program} (w : World) {ops : Array Oper} {rest : List Oper} {o : Oper} {a : Act} {Q : Exit → Act → World → Prop} (hg : o.guard = none) (t : TypeId) (x i : Operand) (hop : o.op = Op.index t x i) (ht : P.underlying t = some .string) (s : ByteArray) (hx : a.eval x = .string s) (k : IntKind) (n : Int) (hi : a.eval i = .int k n) (h0 : 0 ≤ n) (h1 : n.toNat < s.size)
    (hK : ∀ y : Int, wpList P ops Q rest (a.put o.dst (.int .u8 y)) w) : wpList P ops Q (o :: rest) a w := by
  refine wpList_plain hg fun K hK' => ?_
  have hrun : (Instr.index t (.string s) (.int k n)).run P w = .ok (.int .u8 (s[n.toNat]'h1).toNat) w := by
    have h2 : s[n.toNat]? = some (s[n.toNat]'h1) := by simp [h1]
    simp only [Instr.index, asIntOf, Sem.run_bind, Sem.run_pure, run_underlying ht, Result.andThen, h0, if_true, h2]
  unfold Oper.wp
  simp [execOp, hop, hx, hi, hrun, Result.andThen]
  exact hK' _ _ (hK _)
end Go.FL
