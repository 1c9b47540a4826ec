/- Small laws that the walks share: what a call may turn ('Mod'), maps keyed by whole numbers as they lie in memory ('IMap'), the walk's laws on them. They speak of no program. -/
import Derived.WalkKit
import Derived.Maps.RangeRun
import Derived.Lib.Hide
import Derived.Deep.Draws
set_option linter.unusedVariables false
set_option linter.unusedSimpArgs false
namespace Go.FL
open Go Go.RowKit
open Go.ChangeMaps (setBlock)

/-! ### Numbers -/
theorem wrap_u64 {x : Int} (h0 : 0 ≤ x) (h1 : x ≤ 18446744073709551615) : IntKind.u64.wrap x = x := by
  simp only [IntKind.wrap, IntKind.signed, IntKind.bits]
  first | omega | (simp; omega)
/-! ### What a call may turn -/
/-- Of what was there only the blocks F may have turned; blocks may have been made. -/
structure Mod (F : Nat → Prop) (w w' : World) : Prop where
  os : w'.os = w.os
  tape : w'.tape = w.tape
  output : w'.output = w.output
  size : w.heap.size ≤ w'.heap.size
  block : ∀ k, k < w.heap.size → ¬ F k → w'.heap[k]? = w.heap[k]?

theorem Mod.refl (F : Nat → Prop) (w : World) : Mod F w w := ⟨rfl, rfl, rfl, Nat.le_refl _, fun _ _ _ => rfl⟩
theorem Mod.trans {F G : Nat → Prop} {a b c : World} (h : Mod F a b) (k : Mod G b c) (hG : ∀ i, i < a.heap.size → G i → F i) : Mod F a c :=
  ⟨k.os.trans h.os, k.tape.trans h.tape, k.output.trans h.output, Nat.le_trans h.size k.size, fun i hi hF => (k.block i (Nat.lt_of_lt_of_le hi h.size) (fun hg => hF (hG i hi hg))).trans (h.block i hi hF)⟩
theorem Mod.mono {F G : Nat → Prop} {a b : World} (h : Mod F a b) (hG : ∀ i, i < a.heap.size → F i → G i) : Mod G a b :=
  ⟨h.os, h.tape, h.output, h.size, fun i hi hF => h.block i hi (fun hg => hF (hG i hi hg))⟩
theorem Mod.of_below {w w' : World} (h : Below w.heap.size w w') (F : Nat → Prop) : Mod F w w' := ⟨h.os, h.tape, h.output, h.size, fun k hk _ => h.block k hk⟩
theorem Mod.below {F : Nat → Prop} {B : Nat} {w w' : World} (h : Mod F w w') (hB : B ≤ w.heap.size) (hF : ∀ k, F k → B ≤ k) : Below B w w' :=
  ⟨h.os, h.tape, h.output, h.size, fun k hk => h.block k (by omega) (fun hf => by have := hF k hf; omega)⟩
/-- nothing that was there has turned -/
theorem Mod.none_below {w w' : World} (h : Mod (fun _ => False) w w') : Below w.heap.size w w' := h.below (Nat.le_refl _) (fun _ h => h.elim)
theorem Mod.then_below {F : Nat → Prop} {a b c : World} (h : Mod F a b) (k : Below b.heap.size b c) : Mod F a c := h.trans (Mod.of_below k (fun _ => False)) (fun _ _ h => h.elim)
theorem Mod.drew {F : Nat → Prop} {a b : World} (h : Mod F a b) : Mod F a b.drew := ⟨h.os, h.tape, h.output, h.size, h.block⟩
theorem Mod.drewN {F : Nat → Prop} {a b : World} (h : Mod F a b) (n : Nat) : Mod F a (b.drewN n) := ⟨h.os, h.tape, h.output, h.size, h.block⟩
theorem Mod.alloc {F : Nat → Prop} {a b : World} (h : Mod F a b) (o : Obj) : Mod F a (b.alloc o) :=
  h.then_below ((Below.refl _ b).alloc (Nat.le_refl _) o)
theorem Mod.setCell {F : Nat → Prop} {a b : World} (h : Mod F a b) {p : Addr} (hp : p.block < a.heap.size → F p.block) (u : Value) : Mod F a (b.setCell p u) :=
  ⟨h.os, h.tape, h.output, by simp [World.setCell]; exact h.size, fun i hi hF => by
    have hne : i ≠ p.block := fun e => hF (by subst e; exact hp hi)
    rw [Below.heap_setCell _ _ _ _ hne]; exact h.block i hi hF⟩
theorem setBlock_heap (w : World) (b : Nat) (o : Obj) (k : Nat) : (setBlock w b o).heap[k]? = if k = b ∧ b < w.heap.size then some o else w.heap[k]? := by
  show (w.heap.setIfInBounds b o)[k]? = _
  rw [Array.getElem?_setIfInBounds]
  by_cases h : b = k
  · subst h
    by_cases hb : b < w.heap.size
    · simp [hb]
    · simp [hb, Array.getElem?_eq_none (Nat.le_of_not_lt hb)]
  · have h' : ¬ k = b := fun e => h e.symm
    simp [h, h']
theorem setBlock_size (w : World) (b : Nat) (o : Obj) : (setBlock w b o).heap.size = w.heap.size := by show (w.heap.setIfInBounds b o).size = _; simp
theorem Mod.setBlock {F : Nat → Prop} {a b : World} (h : Mod F a b) {p : Nat} (hp : p < a.heap.size → F p) (o : Obj) : Mod F a (ChangeMaps.setBlock b p o) :=
  ⟨h.os, h.tape, h.output, by rw [setBlock_size]; exact h.size, fun i hi hF => by
    have hne : ¬ (i = p ∧ p < b.heap.size) := fun e => hF (by obtain ⟨rfl, _⟩ := e; exact hp hi)
    rw [setBlock_heap, if_neg hne]; exact h.block i hi hF⟩

theorem below_set {B : Nat} {a w : World} {b i : Nat} (h : Below B a w) (hb : B ≤ b) (u : Value) : Below B a (w.setCell ⟨b, i, none⟩ u) := h.setCell (p := ⟨b, i, none⟩) hb u
theorem Mod.set {F : Nat → Prop} {a w : World} {b i : Nat} (h : Mod F a w) (hb : b < a.heap.size → F b) (u : Value) : Mod F a (w.setCell ⟨b, i, none⟩ u) := h.setCell (p := ⟨b, i, none⟩) hb u
theorem lt_of_heap {w : World} {b : Nat} {o : Obj} (h : w.heap[b]? = some o) : b < w.heap.size := by
  rcases Nat.lt_or_ge b w.heap.size with h' | h'
  · exact h'
  · simp [Array.getElem?_eq_none h'] at h
theorem cell_of {w : World} {b : Nat} {C : Array Value} {t : TypeId} {fr : Nat × Nat} (h : w.heap[b]? = some (.cells C t fr)) (i : Nat) : w.cell? ⟨b, i, none⟩ = C[i]? := by simp [World.cell?, h]
theorem free_of {w : World} {b : Nat} {C : Array Value} {t : TypeId} (h : w.heap[b]? = some (.cells C t (0, 0))) (i : Nat) : w.frozen? ⟨b, i, none⟩ = false := by simp [World.frozen?, h]
theorem setCell_heap {w : World} {b i : Nat} {C : Array Value} {t : TypeId} {fr : Nat × Nat} {v : Value} (h : w.heap[b]? = some (.cells C t fr)) : (w.setCell ⟨b, i, none⟩ v).heap[b]? = some (.cells (C.setIfInBounds i v) t fr) := by
  have hlt := lt_of_heap h
  have h' : w.heap[b] = .cells C t fr := by simpa [Array.getElem?_eq_getElem hlt] using h
  show (w.heap.modify b _)[b]? = _
  rw [Array.getElem?_eq_getElem (by simpa using hlt), Array.getElem_modify_self, h']
  rfl
theorem setCell_other {w : World} {a : Addr} {v : Value} {k : Nat} (h : k ≠ a.block) : (w.setCell a v).heap[k]? = w.heap[k]? := Below.heap_setCell _ _ _ _ h
theorem set_other {w : World} {b i k : Nat} {v : Value} (h : k ≠ b) : (w.setCell ⟨b, i, none⟩ v).heap[k]? = w.heap[k]? := setCell_other (a := ⟨b, i, none⟩) h
theorem setCell_size (w : World) (a : Addr) (v : Value) : (w.setCell a v).heap.size = w.heap.size := by simp [World.setCell]

theorem cells_of {w : World} {b : Nat} {C : Array Value} {t : TypeId} {fr : Nat × Nat} (h : w.heap[b]? = some (.cells C t fr)) : ∀ i, w.cell? ⟨b, i, none⟩ = C[i]? := fun i => cell_of h i
theorem frees_of {w : World} {b : Nat} {C : Array Value} {t : TypeId} (h : w.heap[b]? = some (.cells C t (0, 0))) : ∀ i, w.frozen? ⟨b, i, none⟩ = false := fun i => free_of h i
/-- behind a call, a block that was made just ahead of it -/
theorem own_alloc {w w1 : World} {C : Array Value} {t : TypeId} (hb : Below (w.alloc (.cells C t)).heap.size (w.alloc (.cells C t)) w1) :
    (∀ i, w1.cell? ⟨w.heap.size, i, none⟩ = C[i]?) ∧ (∀ i, w1.frozen? ⟨w.heap.size, i, none⟩ = false) ∧ w.heap.size < w1.heap.size ∧ Below w.heap.size w w1 ∧ w1.heap[w.heap.size]? = some (.cells C t (0, 0)) := by
  have h1 : w1.heap[w.heap.size]? = some (.cells C t (0, 0)) := (hb.block _ (by simp)).trans (by simpa using heap_alloc_new w _)
  have h2 : w.heap.size < w1.heap.size := lt_of_heap h1
  exact ⟨cells_of h1, frees_of h1, h2, ((Below.refl _ w).alloc (Nat.le_refl _) _).trans (hb.mono (by simp)), h1⟩

theorem inj_of_nodup {α β : Type} {f : α → β} {l : List α} (h : (l.map f).Nodup) {x y : α} (hx : x ∈ l) (hy : y ∈ l) (e : f x = f y) : x = y := by
  induction l with
  | nil => cases hx
  | cons z l ih =>
    rw [List.map_cons, List.nodup_cons] at h
    rcases List.mem_cons.1 hx with rfl | hx' <;> rcases List.mem_cons.1 hy with rfl | hy'
    · rfl
    · exact absurd (List.mem_map.2 ⟨y, hy', e.symm⟩) h.1
    · exact absurd (List.mem_map.2 ⟨x, hx', e⟩) h.1
    · exact ih h.2 hx' hy'

theorem nodup_of_map {α β : Type} {f : α → β} {l : List α} (h : (l.map f).Nodup) : l.Nodup := by
  unfold List.Nodup at *
  rw [List.pairwise_map] at h
  exact h.imp fun h e => h (by rw [e])

/-! ### Maps keyed by whole numbers -/
structure KV where
  key : Int
  val : Value
  born : Nat
def KV.entry (q : IntKind) (x : KV) : MapEntry := ⟨.int q x.key, x.val, x.born⟩
structure IMap (w : World) (b : Nat) (q : IntKind) (l : List KV) (clock : Nat) : Prop where
  blk : w.heap[b]? = some (.map (l.map (KV.entry q)).toArray clock)
  keys : (l.map KV.key).Nodup
  borns : (l.map KV.born).Nodup
  low : ∀ x ∈ l, x.born < clock
theorem IMap.of_block {w w' : World} {b : Nat} {q : IntKind} {l : List KV} {c : Nat} (h : IMap w b q l c) (e : w'.heap[b]? = w.heap[b]?) : IMap w' b q l c := ⟨e.trans h.blk, h.keys, h.borns, h.low⟩
theorem IMap.lt {w : World} {b : Nat} {q : IntKind} {l : List KV} {c : Nat} (h : IMap w b q l c) : b < w.heap.size := lt_of_heap h.blk
/-- what is found at a key -/
def lookI (l : List KV) (a : Int) : Option Value := (l.find? (·.key == a)).map KV.val

theorem findNow_int (q q' : IntKind) (a : Int) : ∀ (l : List KV) (i : Nat), Instr.findNow (.int q') (.int q a) (l.map (KV.entry q)) i = some ((l.findIdx? (·.key == a)).bind fun j => (l[j]?).map fun x => (i + j, x.val))
  | [], _ => rfl
  | x :: l, i => by
    rw [List.map_cons]
    unfold Instr.findNow
    simp only [KV.entry, Instr.sameNow, if_true, List.findIdx?_cons]
    have e : (a == x.key) = (x.key == a) := by rw [Bool.eq_iff_iff, beq_iff_eq, beq_iff_eq]; exact eq_comm
    rw [e]
    cases h : x.key == a with
    | true => simp
    | false =>
      have ih := findNow_int q q' a l (i + 1)
      simp only [ih, Bool.false_eq_true, if_false, Option.some.injEq]
      cases List.findIdx? (fun x => x.key == a) l with
      | none => rfl
      | some j =>
        simp only [Option.map_some, Option.bind_some, List.getElem?_cons_succ]
        rw [show i + 1 + j = i + (j + 1) from by omega]
theorem findIdx_look (l : List KV) (a : Int) : ((l.findIdx? (·.key == a)).bind fun j => (l[j]?).map fun x => x.val) = lookI l a := by
  unfold lookI
  induction l with
  | nil => rfl
  | cons x l ih =>
    rw [List.findIdx?_cons, List.find?_cons]
    cases h : x.key == a with
    | true => simp
    | false =>
      simp only [Bool.false_eq_true, if_false]
      rw [← ih]
      cases List.findIdx? (fun x => x.key == a) l with
      | none => rfl
      | some j => simp only [Option.map_some, Option.bind_some, List.getElem?_cons_succ]

section
variable {P : Program}
theorem run_lookup_i {w : World} {t k e : TypeId} {q : IntKind} {b : Nat} {l : List KV} {c : Nat} {z : Value} (ht : P.underlying t = some (.map k e)) (hk : P.underlying k = some (.int q)) (hz : (zeroValue e).run P w = .ok z w) (h : IMap w b q l c) (a : Int) (ok : Bool) :
    (Instr.lookup t (.map (some b)) (.int q a) ok).run P w = .ok (if ok then .tuple #[(lookI l a).getD z, .bool (lookI l a).isSome] else (lookI l a).getD z) w := by
  have hf := MapKept.run_findKey (P := P) (w := w) hk (findNow_int q q a l 0)
  simp only [Instr.lookup, Sem.run_bind, run_underlying ht, MapKept.run_getObj_map h.blk, Result.andThen, Sem.run_pure, MapKept.run_checkKey (P := P) (w := w) (k := .int q a) hk (by simp [MapKept.IsKey]), hf]
  rw [← findIdx_look]
  cases List.findIdx? (fun x => x.key == a) l with
  | none => simp [Sem.run_bind, hz, Result.andThen]
  | some j =>
    cases hj : l[j]? with
    | none => simp [Sem.run_bind, hz, Result.andThen, hj]
    | some x => simp [Sem.run_bind, Result.andThen, hj]
theorem run_update_new {w : World} {t k e : TypeId} {q : IntKind} {b : Nat} {l : List KV} {c : Nat} (ht : P.underlying t = some (.map k e)) (hk : P.underlying k = some (.int q)) (h : IMap w b q l c) (a : Int) (ha : ∀ x ∈ l, x.key ≠ a) (v : Value) :
    (Instr.mapUpdate t (.map (some b)) (.int q a) v).run P w = .ok () (setBlock w b (.map ((l ++ [KV.mk a v c]).map (KV.entry q)).toArray (c + 1))) := by
  have hf := MapKept.run_findKey (P := P) (w := w) hk (findNow_int q q a l 0)
  have hn : List.findIdx? (fun x => x.key == a) l = none := by
    rw [List.findIdx?_eq_none_iff]
    intro x hx
    simpa using ha x hx
  rw [hn] at hf
  simp only [Instr.mapUpdate, Sem.run_bind, run_underlying ht, MapKept.run_getObj_map h.blk, Result.andThen, MapKept.run_checkKey (P := P) (w := w) (k := .int q a) hk (by simp [MapKept.IsKey]), hf]
  simp only [Option.bind]
  rw [MapKept.run_setObj_map _ h.blk]
  simp [setBlock, KV.entry]
theorem imap_new {w : World} {q : IntKind} {b : Nat} {l : List KV} {c : Nat} (h : IMap w b q l c) (a : Int) (ha : ∀ x ∈ l, x.key ≠ a) (v : Value) :
    IMap (setBlock w b (.map ((l ++ [KV.mk a v c]).map (KV.entry q)).toArray (c + 1))) b q (l ++ [KV.mk a v c]) (c + 1) := by
  refine ⟨by rw [setBlock_heap, if_pos ⟨rfl, h.lt⟩], ?_, ?_, ?_⟩
  · rw [List.map_append, List.nodup_append]
    refine ⟨h.keys, by simp, ?_⟩
    intro x hx y hy
    simp at hy
    subst hy
    obtain ⟨z, hz, rfl⟩ := List.mem_map.1 hx
    exact ha z hz
  · rw [List.map_append, List.nodup_append]
    refine ⟨h.borns, by simp, ?_⟩
    intro x hx y hy
    simp at hy
    subst hy
    obtain ⟨z, hz, rfl⟩ := List.mem_map.1 hx
    have := h.low z hz
    omega
  · intro x hx
    rcases List.mem_append.1 hx with hx | hx
    · have := h.low x hx; omega
    · simp at hx; subst hx; simp
theorem run_delete_i {w : World} {t k e ty : TypeId} {q : IntKind} {b : Nat} {l : List KV} {c : Nat} (ht : P.underlying t = some (.map k e)) (hk : P.underlying k = some (.int q)) (h : IMap w b q l c) (a : Int) :
    (Builtin.delete_ #[t, k] ty #[.map (some b), .int q a]).run P w = .ok (.tuple #[]) (setBlock w b (.map ((l.filter (·.key != a)).map (KV.entry q)).toArray c)) := by
  have hf := MapKept.run_findKey (P := P) (w := w) hk (findNow_int q q a l 0)
  have key : ∀ (l : List KV), (l.map KV.key).Nodup → ∀ j x, List.findIdx? (fun x => x.key == a) l = some j → l[j]? = some x → l.eraseIdx j = l.filter (·.key != a) := by
    intro l
    induction l with
    | nil => intro _ j x h; simp at h
    | cons y l ih =>
      intro hn j x hj hx
      rw [List.map_cons, List.nodup_cons] at hn
      rw [List.findIdx?_cons] at hj
      cases hy : y.key == a with
      | true =>
        simp [hy] at hj
        subst hj
        have ey : y.key = a := by simpa using hy
        simp only [List.eraseIdx_cons_zero, List.filter_cons]
        have : (y.key != a) = false := by simp [ey]
        rw [this]
        simp only [Bool.false_eq_true, if_false]
        symm
        rw [List.filter_eq_self]
        intro z hz
        have : z.key ≠ y.key := fun e => hn.1 (List.mem_map.2 ⟨z, hz, e⟩)
        simpa [ey] using this
      | false =>
        simp only [hy, Bool.false_eq_true, if_false, Option.map_eq_some_iff] at hj
        obtain ⟨j', hj', rfl⟩ := hj
        have hx' : l[j']? = some x := by simpa using hx
        have : (y.key != a) = true := by simpa using hy
        simp only [List.eraseIdx_cons_succ, List.filter_cons, this, if_true]
        rw [ih hn.2 j' x hj' hx']
  simp only [Builtin.delete_, Sem.run_bind, Sem.run_pure, run_underlying ht, MapKept.run_getObj_map h.blk, Result.andThen, MapKept.run_checkKey (P := P) (w := w) (k := .int q a) hk (by simp [MapKept.IsKey]), hf, List.getElem?_toArray, List.getElem?_cons_zero, List.getElem?_cons_succ]
  cases hi : List.findIdx? (fun x => x.key == a) l with
  | none =>
    have he : l.filter (·.key != a) = l := by
      rw [List.filter_eq_self]
      rw [List.findIdx?_eq_none_iff] at hi
      intro x hx
      have := hi x hx
      simpa using this
    rw [he]
    simp only [Option.bind_none, Sem.run_bind, MapKept.run_setObj_map _ h.blk, Result.andThen]
    rfl
  | some j =>
    have hj : j < l.length := by
      have := List.findIdx?_eq_some_iff_getElem.1 hi
      exact this.1
    have hx : l[j]? = some l[j] := List.getElem?_eq_getElem hj
    simp only [Option.bind_some, hx, Option.map_some, Sem.run_bind, MapKept.run_setObj_map _ h.blk, Result.andThen]
    have he := key l h.keys j l[j] hi hx
    have : ((l.map (KV.entry q)).toArray.eraseIdxIfInBounds (0 + j)) = ((l.filter (·.key != a)).map (KV.entry q)).toArray := by
      rw [← he, Nat.zero_add]
      apply Array.toList_inj.1
      unfold Array.eraseIdxIfInBounds
      rw [dif_pos (by simpa using hj)]
      simp [Array.toList_eraseIdx]
      rw [← ChangeMaps.map_eraseIdx]
    rw [this]
    rfl
theorem imap_del {w : World} {q : IntKind} {b : Nat} {l : List KV} {c : Nat} (h : IMap w b q l c) (p : KV → Bool) : IMap (setBlock w b (.map ((l.filter p).map (KV.entry q)).toArray c)) b q (l.filter p) c :=
  ⟨by rw [setBlock_heap, if_pos ⟨rfl, h.lt⟩], (List.filter_sublist.map _).nodup h.keys, (List.filter_sublist.map _).nodup h.borns, fun x hx => h.low x (List.mem_filter.1 hx).1⟩
end
end Go.FL
