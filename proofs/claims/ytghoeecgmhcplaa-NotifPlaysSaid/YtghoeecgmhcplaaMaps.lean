/- The walk's laws at the operations on maps keyed by whole numbers ('IMap'): look-up, store, delete, len, range. They speak of no program. -/
import Derived.Test.YtghoeecgmhcplaaBase
import Derived.Maps.RangeWalk
import Derived.Maps.OwnSet
set_option linter.unusedVariables false
set_option linter.unusedSimpArgs false
namespace Go.FL
open Go Go.RowKit
open Go.ChangeMaps (setBlock)
section
variable {P : Program} (w : World) {ops : Array Oper} {rest : List Oper} {o : Oper} {a : Act} {Q : Exit → Act → World → Prop}

/-- 'm[k]', 'v, ok := m[k]' -/
theorem wpList_lookup_i (hg : o.guard = none) (m x : Operand) (t : TypeId) (ok : Bool) (hop : o.op = Op.lookup t m x ok) (k e : TypeId) (q : IntKind) (ht : P.underlying t = some (.map k e)) (hk : P.underlying k = some (.int q))
    (z : Value) (hz : (zeroValue e).run P w = .ok z w) (b : Nat) (l : List KV) (c : Nat) (hm : a.eval m = .map (some b)) (h : IMap w b q l c) (key : Int) (hx : a.eval x = .int q key) (v : Value) (f : Bool) (hv : (lookI l key).getD z = v) (hf : (lookI l key).isSome = f)
    (hK : wpList P ops Q rest (a.put o.dst (if ok then .tuple #[v, .bool f] else v)) w) : wpList P ops Q (o :: rest) a w := by
  refine wpList_plain hg fun K' hK' => ?_
  have hrun := run_lookup_i (P := P) ht hk hz h key ok
  rw [hv, hf] at hrun
  unfold Oper.wp
  simp [execOp, hop, hm, hx, hrun, Result.andThen]
  exact hK' _ _ hK
/-- 'm[k] = v', k a new key -/
theorem wpList_update_new (hg : o.guard = none) (m x y : Operand) (t : TypeId) (hop : o.op = Op.mapUpdate t m x y) (k e : TypeId) (q : IntKind) (ht : P.underlying t = some (.map k e)) (hk : P.underlying k = some (.int q))
    (b : Nat) (l : List KV) (c : Nat) (hm : a.eval m = .map (some b)) (h : IMap w b q l c) (key : Int) (hx : a.eval x = .int q key) (v : Value) (hy : a.eval y = v) (hnew : ∀ x ∈ l, x.key ≠ key)
    (hK : ∀ w', IMap w' b q (l ++ [KV.mk key v c]) (c + 1) → Mod (· = b) w w' → w'.heap.size = w.heap.size → (∀ k, k ≠ b → w'.heap[k]? = w.heap[k]?) → wpList P ops Q rest (a.put o.dst undef) w') : wpList P ops Q (o :: rest) a w := by
  refine wpList_plain hg fun K' hK' => ?_
  have hrun := run_update_new (P := P) ht hk h key hnew v
  unfold Oper.wp
  have h1 := imap_new h key hnew v
  have hmod : Mod (· = b) w (setBlock w b (.map ((l ++ [KV.mk key v c]).map (KV.entry q)).toArray (c + 1))) := (Mod.refl (· = b) w).setBlock (fun _ => rfl) _
  have hsz := setBlock_size w b (.map ((l ++ [KV.mk key v c]).map (KV.entry q)).toArray (c + 1))
  have hoth : ∀ k, k ≠ b → (setBlock w b (.map ((l ++ [KV.mk key v c]).map (KV.entry q)).toArray (c + 1))).heap[k]? = w.heap[k]? := fun k hk => by rw [setBlock_heap, if_neg (fun e => hk e.1)]
  generalize setBlock w b (.map ((l ++ [KV.mk key v c]).map (KV.entry q)).toArray (c + 1)) = w1 at h1 hrun hmod hsz hoth
  simp [execOp, hop, hm, hx, hy, hrun, Result.andThen]
  exact hK' _ _ (hK _ h1 hmod hsz hoth)
/-- 'delete(m, k)' -/
theorem wpList_delete_i (hg : o.guard = none) (m x : Operand) (t k : TypeId) (hop : o.op = Op.call { callee := Callee.builtin Builtin.delete, args := #[m, x], argTypes := #[t, k] }) (e : TypeId) (q : IntKind) (ht : P.underlying t = some (.map k e)) (hk : P.underlying k = some (.int q))
    (b : Nat) (l : List KV) (c : Nat) (hm : a.eval m = .map (some b)) (h : IMap w b q l c) (key : Int) (hx : a.eval x = .int q key)
    (hK : ∀ w', IMap w' b q (l.filter (·.key != key)) c → Mod (· = b) w w' → w'.heap.size = w.heap.size → (∀ k, k ≠ b → w'.heap[k]? = w.heap[k]?) → wpList P ops Q rest (a.put o.dst (.tuple #[])) w') : wpList P ops Q (o :: rest) a w := by
  refine wpList_plain hg fun K' hK' => ?_
  have hrun := run_delete_i (P := P) (ty := o.type) ht hk h key
  unfold Oper.wp
  simp [execOp, hop, resolve, invoke, builtin, hm, hx, hrun, Result.andThen]
  exact hK' _ _ (hK _ (imap_del h _) ((Mod.refl (· = b) w).setBlock (fun _ => rfl) _) (setBlock_size _ _ _) (fun k hk => by rw [setBlock_heap, if_neg (fun e => hk e.1)]))
theorem run_len_i {w : World} {ty t : TypeId} {k e : TypeId} {q : IntKind} {b : Nat} {l : List KV} {c : Nat} (ht : P.underlying t = some (.map k e)) (h : IMap w b q l c) : (Builtin.len_ #[t] ty #[.map (some b)]).run P w = .ok (.int .i64 l.length) w := by
  simp [Builtin.len_, run_underlying ht, MapKept.run_getObj_map h.blk, Result.andThen, goInt]
end

/-- a store at a new key, as an equation for the walk -/
theorem update_new_ex {P : Program} {w : World} {t k e : TypeId} {q : IntKind} {b : Nat} {l : List KV} {c : Nat} (ht : P.underlying t = some (.map k e)) (hk : P.underlying k = some (.int q)) (h : IMap w b q l c) (a : Int) (ha : ∀ x ∈ l, x.key ≠ a) (v : Value) :
    ∃ w', (Instr.mapUpdate t (.map (some b)) (.int q a) v).run P w = .ok () w' ∧ IMap w' b q (l ++ [KV.mk a v c]) (c + 1) ∧ Mod (· = b) w w' ∧ w'.heap.size = w.heap.size ∧ ∀ k, k ≠ b → w'.heap[k]? = w.heap[k]? :=
  ⟨_, run_update_new ht hk h a ha v, imap_new h a ha v, (Mod.refl (· = b) w).setBlock (fun _ => rfl) _, setBlock_size _ _ _, fun k hk => by rw [setBlock_heap, if_neg (fun e => hk e.1)]⟩

/-! ### 'for k, v := range m' -/
/-- Block r is an iterator over the map in block b; the stamps that have been handed out. -/
structure Iter (w : World) (r b : Nat) (since : Nat) (seen : Array Nat) : Prop where
  at_ : ∃ c0, since ≤ c0 ∧ w.heap[r]? = some (.mapIter (some b) since seen c0)
theorem Iter.of_block {w w' : World} {r b since : Nat} {seen : Array Nat} (h : Iter w r b since seen) (e : w'.heap[r]? = w.heap[r]?) : Iter w' r b since seen := by
  obtain ⟨c0, h1, h2⟩ := h.at_
  exact ⟨c0, h1, e.trans h2⟩
theorem Iter.lt {w : World} {r b since : Nat} {seen : Array Nat} (h : Iter w r b since seen) : r < w.heap.size := by
  obtain ⟨c0, h1, h2⟩ := h.at_
  exact lt_of_heap h2
/-- how many entries are still to come: the measure of such a loop -/
def todoN (l : List KV) (seen : Array Nat) : Nat := (l.filter fun x => !seen.contains x.born).length
/-- .. off the world -/
def todoW (w : World) (r b : Nat) : Nat :=
  match w.heap[r]?, w.heap[b]? with
  | some (.mapIter _ _ seen _), some (.map es _) => (es.toList.filter fun e => !seen.contains e.born).length
  | _, _ => 0
theorem todoW_eq {w : World} {r b since : Nat} {q : IntKind} {seen : Array Nat} {l : List KV} {c : Nat} (hi : Iter w r b since seen) (h : IMap w b q l c) : todoW w r b = todoN l seen := by
  obtain ⟨c0, h1, h2⟩ := hi.at_
  unfold todoW todoN
  simp only [h2, h.blk]
  rw [List.filter_map, List.length_map]
  rfl
theorem todoN_push {l : List KV} {seen : Array Nat} {x : KV} (hx : x ∈ l) (hs : seen.contains x.born = false) : todoN l (seen.push x.born) < todoN l seen := by
  have key : ∀ l : List KV, todoN l (seen.push x.born) ≤ todoN l seen := by
    intro l
    induction l with
    | nil => exact Nat.le_refl _
    | cons y l ih =>
      unfold todoN at ih ⊢
      simp only [List.filter_cons]
      by_cases h1 : seen.contains y.born = true
      · have h2 : (seen.push x.born).contains y.born = true := by simp at h1 ⊢; exact Or.inl h1
        simp only [h1, h2, Bool.not_true, Bool.false_eq_true, if_false]; exact ih
      · have h1' : seen.contains y.born = false := by simpa using h1
        simp only [h1', Bool.not_false, if_true, List.length_cons]
        split
        · simp only [List.length_cons]; omega
        · omega
  induction l with
  | nil => cases hx
  | cons y l ih =>
    unfold todoN at *
    simp only [List.filter_cons]
    rcases List.mem_cons.1 hx with rfl | hx
    · have h2 : (seen.push x.born).contains x.born = true := by simp
      simp only [hs, h2, Bool.not_true, Bool.not_false, Bool.false_eq_true, if_false, if_true, List.length_cons]
      have := key l
      unfold todoN at this
      omega
    · have ih' := ih hx
      by_cases h1 : seen.contains y.born = true
      · have h2 : (seen.push x.born).contains y.born = true := by simp at h1 ⊢; exact Or.inl h1
        simp only [h1, h2, Bool.not_true, Bool.false_eq_true, if_false]; exact ih'
      · have h1' : seen.contains y.born = false := by simpa using h1
        simp only [h1', Bool.not_false, if_true, List.length_cons]
        split
        · simp only [List.length_cons]; omega
        · omega

section
variable {P : Program} (w : World) {ops : Array Oper} {rest : List Oper} {o : Oper} {a : Act} {Q : Exit → Act → World → Prop}
/-- 'range m' -/
theorem wpList_range_i (hg : o.guard = none) (m : Operand) (t : TypeId) (hop : o.op = Op.range t m) (k e : TypeId) (q : IntKind) (ht : P.underlying t = some (.map k e)) (b : Nat) (l : List KV) (c : Nat) (hm : a.eval m = .map (some b)) (h : IMap w b q l c)
    (hK : ∀ w', w' = w.alloc (.mapIter (some b) c #[] c) → Iter w' w.heap.size b c #[] → IMap w' b q l c → Below w.heap.size w w' → w'.heap.size = w.heap.size + 1 → wpList P ops Q rest (a.put o.dst (.pointer (some ⟨w.heap.size, 0, none⟩))) w') : wpList P ops Q (o :: rest) a w := by
  refine wpList_plain hg fun K' hK' => ?_
  have hrun := run_range_map (P := P) w t k e b _ c ht h.blk
  unfold Oper.wp
  simp [execOp, hop, hm, hrun, Result.andThen]
  refine hK' _ _ (hK _ rfl ⟨c, Nat.le_refl _, by simpa using heap_alloc_new w _⟩ (h.of_block (Below.heap_alloc w _ b h.lt)) ((Below.refl _ w).alloc (Nat.le_refl _) _) (by simp))
/-- the step -/
theorem wpList_next_i (hg : o.guard = none) (it : Operand) (hop : o.op = Op.next it false) (q : IntKind) (b r : Nat) (l : List KV) (c since : Nat) (seen : Array Nat) (hit : a.eval it = .pointer (some ⟨r, 0, none⟩)) (hi : Iter w r b since seen) (h : IMap w b q l c) (hlow : ∀ x ∈ l, x.born < since) (hsc : since ≤ c) (hrb : r ≠ b)
    (hDone : (∀ x ∈ l, seen.contains x.born = true) → wpList P ops Q rest (a.put o.dst (.tuple #[.bool false])) w)
    (hMore : ∀ (x : KV) (w' : World), x ∈ l → seen.contains x.born = false → Iter w' r b since (seen.push x.born) → IMap w' b q l c → Mod (· = r) w w' → w'.heap.size = w.heap.size → (∀ k, k ≠ r → w'.heap[k]? = w.heap[k]?) →
      (Instr.entry (.pointer (some ⟨r, 0, none⟩))).run P w' = .ok (.tuple #[.int q x.key, x.val]) w' → wpList P ops Q rest (a.put o.dst (.tuple #[.bool true, .int q x.key, x.val])) w') : wpList P ops Q (o :: rest) a w := by
  obtain ⟨c0, hc0, hr⟩ := hi.at_
  refine wpList_plain hg fun K' hK' => ?_
  have hlow' : ∀ x ∈ ((l.map (KV.entry q)).toArray).toList, x.born < since := by
    intro x hx
    simp at hx
    obtain ⟨y, hy, rfl⟩ := hx
    exact hlow y hy
  unfold Oper.wp
  rcases run_next_at (P := P) w o.type r b since c0 seen _ c hr h.blk hlow' hc0 with ⟨h0, hrun⟩ | ⟨e, he, w1, hw1, hrun⟩
  · simp [execOp, hop, hit, hrun, Result.andThen]
    refine hK' _ _ (hDone fun x hx => ?_)
    cases hs : seen.contains x.born with
    | true => rfl
    | false =>
      exfalso
      have hm : KV.entry q x ∈ leftOf (l.map (KV.entry q)).toArray seen := by
        unfold leftOf
        rw [Array.mem_filter]
        exact ⟨by simpa using List.mem_map.2 ⟨x, hx, rfl⟩, by simp [KV.entry]; simpa using hs⟩
      have := Array.size_pos_of_mem hm
      omega
  · have he' : e ∈ leftOf (l.map (KV.entry q)).toArray seen := by simpa using he
    unfold leftOf at he'
    rw [Array.mem_filter] at he'
    obtain ⟨hm, hs⟩ := he'
    have hm' : e ∈ l.map (KV.entry q) := by simpa using hm
    obtain ⟨x, hx, rfl⟩ := List.mem_map.1 hm'
    have hs' : seen.contains x.born = false := by simpa [KV.entry] using hs
    have hsame : ∀ k : Nat, w1.heap[k]? = w.heap[k]? := by rcases hw1 with rfl | rfl <;> exact fun _ => rfl
    have hsz : w1.heap.size = w.heap.size := by rcases hw1 with rfl | rfl <;> rfl
    have hr1 : (setBlock w1 r (.mapIter (some b) since (seen.push x.born) c)).heap[r]? = some (.mapIter (some b) since (seen.push x.born) c) := by
      rw [setBlock_heap, if_pos ⟨rfl, by rw [hsz]; exact lt_of_heap hr⟩]
    have hoth : ∀ k, k ≠ r → (setBlock w1 r (.mapIter (some b) since (seen.push x.born) c)).heap[k]? = w.heap[k]? := fun k hk => by
      rw [setBlock_heap, if_neg (fun e => hk e.1)]; exact hsame k
    have hM := h.of_block (hoth b (fun e => hrb e.symm))
    have hmod : Mod (· = r) w (setBlock w1 r (.mapIter (some b) since (seen.push x.born) c)) := by
      rcases hw1 with rfl | rfl
      · exact (Mod.refl (· = r) _).setBlock (fun _ => rfl) _
      · exact (Mod.refl (· = r) w).drew.setBlock (fun _ => rfl) _
    have hen := run_entry_at (P := P) _ r b since seen _ c (KV.entry q x) hr1 hM.blk (by simpa using hm') (by simpa [KV.entry, Function.comp_def] using h.borns)
    have hlast := hMore x _ hx hs' ⟨c, hsc, hr1⟩ hM hmod ((setBlock_size _ _ _).trans hsz) hoth hen
    simp [execOp, hop, hit, hrun, Result.andThen]
    exact hK' _ _ hlast
end
end Go.FL
