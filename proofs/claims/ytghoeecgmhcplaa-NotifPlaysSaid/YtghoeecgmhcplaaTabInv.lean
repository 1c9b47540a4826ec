/- The table's steps keep what always holds of it. Plain lists and numbers. -/
import Derived.Test.YtghoeecgmhcplaaTab
set_option linter.unusedVariables false
set_option linter.unusedSimpArgs false
open Go.RowKit
namespace Go.FL

/-- what a single entry must be -/
structure EOk (wait : Int) (x : Ent) : Prop where
  st : 1 ≤ x.state ∧ x.state ≤ 4
  left : x.waits = true → 1 ≤ x.left ∧ x.left ≤ wait
  outs : (x.waits = true → x.ok = 0 ∧ x.ov = 0) ∧ (x.waits = false → 1 ≤ x.ok ∧ x.ok ≤ 7 ∧ x.ok ≠ 5)
  done : (x.state = 3 → x.ok ≤ 3) ∧ (x.state = 4 → 4 ≤ x.ok ∧ x.ov = 0)
theorem Tab.Inv.eok {T : Tab} (h : T.Inv) {x : Ent} (hx : x ∈ T.L) : EOk T.wait x := ⟨h.states x hx, h.left x hx, h.outs x hx, h.done x hx⟩
/-- an entrywise change that keeps IDs and tasks -/
theorem Tab.Inv.map {T : Tab} (h : T.Inv) (g : Ent → Ent) (hid : ∀ x, (g x).id = x.id) (ht : ∀ x, (g x).task = x.task) (hok : ∀ x ∈ T.L, EOk T.wait (g x)) : Tab.Inv { T with L := T.L.map g } where
  size1 := h.size1
  size8 := h.size8
  wait1 := h.wait1
  wait2 := h.wait2
  next0 := h.next0
  next1 := h.next1
  ep0 := h.ep0
  ep1 := h.ep1
  len := by simpa using h.len
  ids := by simp only [List.pairwise_map, hid]; exact h.ids
  low := by
    intro y hy
    obtain ⟨x, hx, rfl⟩ := List.mem_map.1 hy
    rw [hid]; exact h.low x hx
  tasks := by
    intro y hy
    obtain ⟨x, hx, rfl⟩ := List.mem_map.1 hy
    rw [ht]; exact h.tasks x hx
  apart := by simp only [List.pairwise_map, ht]; exact h.apart
  states := by
    intro y hy
    obtain ⟨x, hx, rfl⟩ := List.mem_map.1 hy
    exact (hok x hx).st
  left := by
    intro y hy
    obtain ⟨x, hx, rfl⟩ := List.mem_map.1 hy
    exact (hok x hx).left
  outs := by
    intro y hy
    obtain ⟨x, hx, rfl⟩ := List.mem_map.1 hy
    exact (hok x hx).outs
  done := by
    intro y hy
    obtain ⟨x, hx, rfl⟩ := List.mem_map.1 hy
    exact (hok x hx).done
theorem Tab.Inv.upd {T : Tab} (h : T.Inv) (id : Int) (f : Ent → Ent) (hid : ∀ x, (f x).id = x.id) (ht : ∀ x, (f x).task = x.task) (hok : ∀ x ∈ T.L, x.id = id → EOk T.wait (f x)) : Tab.Inv { T with L := updE T.L id f } := by
  refine h.map (fun x => if x.id == id then f x else x) (fun x => by split <;> simp [hid]) (fun x => by split <;> simp [ht]) (fun x hx => ?_)
  split
  · rename_i e
    exact hok x hx (by simpa using e)
  · exact h.eok hx
theorem EOk.gone {wait : Int} {x : Ent} {k : Int} (hk : 4 ≤ k ∧ k ≤ 7 ∧ k ≠ 5) : EOk wait (x.gone k) where
  st := by simp [Ent.gone]
  left := by simp [Ent.gone, Ent.waits]
  outs := by simp [Ent.gone, Ent.waits]; omega
  done := by simp [Ent.gone]; omega
theorem Tab.mem_of {T : Tab} {t : Int} {x : Ent} (h : T.of t = some x) : x ∈ T.L ∧ x.task = t := ⟨List.mem_of_find?_eq_some h, by have := List.find?_some h; simpa using this⟩
theorem Tab.mem_get {T : Tab} {t : Int} {x : Ent} (h : T.get t = some x) : x ∈ T.L ∧ x.id = t := ⟨List.mem_of_find?_eq_some h, by have := List.find?_some h; simpa using this⟩

theorem Tab.Inv.reply {T : Tab} (h : T.Inv) (ep id k v : Int) : (T.reply ep id k v).1.Inv := by
  unfold Tab.reply
  split
  · exact h
  · split
    · exact h
    · split
      · exact h
      · split
        · exact h
        · rename_i hk
          refine h.upd id _ (fun _ => rfl) (fun _ => rfl) (fun x hx _ => ⟨by simp, by simp [Ent.waits], ?_, ?_⟩)
          · simp [Ent.waits]; omega
          · simp; omega
theorem Tab.Inv.kill {T : Tab} (h : T.Inv) (t : Int) : (T.kill t).1.Inv := by
  unfold Tab.kill
  split
  · exact h
  · split
    · exact h.upd _ _ (fun _ => rfl) (fun _ => rfl) (fun x _ _ => EOk.gone (by omega))
    · exact h
theorem Tab.Inv.send {T : Tab} (h : T.Inv) : T.send.1.Inv := by
  unfold Tab.send
  split
  · exact h
  · rename_i x hx
    have h1 := List.mem_of_find?_eq_some hx
    have h2 : x.state = 1 := by have := List.find?_some hx; simpa using this
    refine h.upd _ _ (fun _ => rfl) (fun _ => rfl) (fun y hy e => ?_)
    have : y = x := by
      have hp := h.ids
      have := find_of_pairwise (p := fun z => z.id == x.id) (hp.imp fun h ⟨h1, h2⟩ => by rw [beq_iff_eq] at h1 h2; omega) hy (by simpa using e)
      have h3 := find_of_pairwise (p := fun z => z.id == x.id) (hp.imp fun h ⟨h1, h2⟩ => by rw [beq_iff_eq] at h1 h2; omega) h1 (by simp)
      rw [this] at h3
      exact Option.some.inj h3
    subst this
    have hw : y.waits = true := by simp [Ent.waits, h2]
    refine ⟨by simp, fun _ => h.left y h1 hw, ⟨fun _ => (h.outs y h1).1 hw, by simp [Ent.waits]⟩, by simp⟩
theorem Tab.Inv.tick {T : Tab} (h : T.Inv) : T.tick.Inv := by
  refine h.map Ent.tick (fun x => ?_) (fun x => ?_) (fun x hx => ?_)
  · unfold Ent.tick; split <;> (try split) <;> rfl
  · unfold Ent.tick; split <;> (try split) <;> rfl
  · unfold Ent.tick
    split
    · rename_i hw
      split
      · exact EOk.gone (by omega)
      · rename_i h0
        have h1 := h.left x hx hw
        exact ⟨h.states x hx, fun _ => ⟨by show 1 ≤ x.left - 1; omega, by show x.left - 1 ≤ _; omega⟩, h.outs x hx, h.done x hx⟩
    · exact h.eok hx
theorem Tab.Inv.drop {T : Tab} (h : T.Inv) : T.drop.Inv := by
  refine h.map Ent.drop (fun x => ?_) (fun x => ?_) (fun x hx => ?_)
  · unfold Ent.drop; split <;> rfl
  · unfold Ent.drop; split <;> rfl
  · unfold Ent.drop
    split
    · exact EOk.gone (by omega)
    · exact h.eok hx
theorem Tab.Inv.rise {T : Tab} (h : T.Inv) (ep : Int) (he : ep ≤ 18446744073709551615) : (T.rise ep).1.Inv := by
  unfold Tab.rise
  split
  · exact h
  · rename_i hl
    have : Tab.Inv { T with epoch := ep } := { h with ep0 := by have := h.ep0; show 0 ≤ ep; omega, ep1 := he }
    exact this.drop
theorem Tab.Inv.ended {T : Tab} (h : T.Inv) (t : Int) : (T.ended t).1.Inv := by
  unfold Tab.ended
  split
  · exact h
  · rename_i x hx
    split
    · exact h
    · have hs : ∀ y, y ∈ T.L.filter (·.id != x.id) → y ∈ T.L := fun y hy => (List.mem_filter.1 hy).1
      exact { h with
        len := by have := List.length_filter_le (fun y : Ent => y.id != x.id) T.L; have := h.len; show ((T.L.filter (·.id != x.id)).length : Int) ≤ T.size; omega
        ids := h.ids.sublist List.filter_sublist
        low := fun y hy => h.low y (hs y hy)
        tasks := fun y hy => h.tasks y (hs y hy)
        apart := h.apart.sublist List.filter_sublist
        states := fun y hy => h.states y (hs y hy)
        left := fun y hy => h.left y (hs y hy)
        outs := fun y hy => h.outs y (hs y hy)
        done := fun y hy => h.done y (hs y hy) }
theorem Tab.Inv.add {T : Tab} (h : T.Inv) (t : Int) : (T.add t).1.Inv := by
  unfold Tab.add
  split
  · exact h
  · split
    · exact h
    · split
      · exact h
      · rename_i ht ho hf
        have h1 := h.next0
        have h2 := h.next1
        have hno : ∀ x ∈ T.L, x.task ≠ t := by
          intro x hx e
          have : (T.of t).isSome = true := by unfold Tab.of; rw [List.find?_isSome]; exact ⟨x, hx, by simpa using e⟩
          exact ho this
        exact { h with
          next0 := by show 0 ≤ T.next + 1; omega
          next1 := by show T.next + 1 ≤ _; omega
          len := by show ((T.L ++ [_]).length : Int) ≤ T.size; rw [List.length_append, List.length_singleton]; omega
          ids := by
            rw [List.pairwise_append]
            exact ⟨h.ids, by simp, fun x hx y hy => by rw [List.mem_singleton] at hy; subst hy; exact (h.low x hx).2⟩
          low := by
            intro x hx
            show 0 ≤ x.id ∧ x.id < T.next + 1
            rcases List.mem_append.1 hx with hx | hx
            · have := h.low x hx; omega
            · rw [List.mem_singleton] at hx; subst hx; show 0 ≤ T.next ∧ T.next < T.next + 1; omega
          tasks := by
            intro x hx
            rcases List.mem_append.1 hx with hx | hx
            · exact h.tasks x hx
            · rw [List.mem_singleton] at hx; subst hx; show 1 ≤ t ∧ t ≤ 4; omega
          apart := by
            rw [List.pairwise_append]
            exact ⟨h.apart, by simp, fun x hx y hy => by rw [List.mem_singleton] at hy; subst hy; exact hno x hx⟩
          states := by
            intro x hx
            rcases List.mem_append.1 hx with hx | hx
            · exact h.states x hx
            · rw [List.mem_singleton] at hx; subst hx; simp
          left := by
            intro x hx hw
            rcases List.mem_append.1 hx with hx | hx
            · exact h.left x hx hw
            · rw [List.mem_singleton] at hx; subst hx; exact ⟨h.wait1, Int.le_refl _⟩
          outs := by
            intro x hx
            rcases List.mem_append.1 hx with hx | hx
            · exact h.outs x hx
            · rw [List.mem_singleton] at hx; subst hx; simp [Ent.waits]
          done := by
            intro x hx
            rcases List.mem_append.1 hx with hx | hx
            · exact h.done x hx
            · rw [List.mem_singleton] at hx; subst hx; simp }

/-! ### one entry of the table is written -/
def RTab.upd (R : RTab) (id : Int) (f : Ent → Ent) : RTab := { R with L := R.L.map fun e => if e.x.id == id then { e with x := f e.x } else e }
theorem RTab.upd_abs (R : RTab) (id : Int) (f : Ent → Ent) : (R.upd id f).abs = { R.abs with L := updE R.abs.L id f } := by
  simp only [RTab.upd, RTab.abs, updE, List.map_map]
  congr 1
  apply List.map_congr_left
  intro e _
  simp only [Function.comp]
  split <;> rfl
theorem RTab.upd_foot (R : RTab) (id : Int) (f : Ent → Ent) (a mb k : Nat) : (R.upd id f).foot a mb k ↔ R.foot a mb k := by
  have : (R.upd id f).L.map PE.p = R.L.map PE.p := by
    simp only [RTab.upd, List.map_map]
    apply List.map_congr_left
    intro e _
    simp only [Function.comp]
    split <;> rfl
  have h2 : (∃ e ∈ (R.upd id f).L, e.p = k) ↔ ∃ e ∈ R.L, e.p = k := by
    rw [← List.mem_map, ← List.mem_map, this]
  simp only [RTab.foot, h2]
theorem TabAt.upd {tT tE : TypeId} {w w' : World} {a mb : Nat} {R : RTab} (h : TabAt tT tE w a mb R) {e : PE} (he : e ∈ R.L) (f : Ent → Ent) (hid : ∀ x, (f x).id = x.id) (hb : w'.heap[e.p]? = some (.cells (entCells (f e.x)) tE (0, 0))) (hm : ∀ k, k < w.heap.size → k ≠ e.p → w'.heap[k]? = w.heap[k]?)
    (hne : tT ≠ tE) (hinv : (R.upd e.x.id f).abs.Inv) : TabAt tT tE w' a mb (R.upd e.x.id f) := by
  have hpa : a ≠ e.p := by
    intro q
    have h1 := h.tb
    have h2 := h.es e he
    rw [q] at h1
    rw [h1] at h2
    simp only [Option.some.injEq, Obj.cells.injEq] at h2
    exact hne h2.2.1
  have hpm : mb ≠ e.p := by
    intro q
    have h1 := h.mp.blk
    have h2 := h.es e he
    rw [q] at h1
    rw [h1] at h2
    cases h2
  have hkv : (R.upd e.x.id f).L.map PE.kv = R.L.map PE.kv := by
    simp only [RTab.upd, List.map_map]
    apply List.map_congr_left
    intro e' _
    simp only [Function.comp]
    split
    · simp [PE.kv, hid]
    · rfl
  refine ⟨(hm a (lt_of_heap h.tb) hpa).trans h.tb, ?_, ?_, ?_, hinv⟩
  · rw [hkv]
    exact h.mp.of_block (hm mb h.mp.lt hpm)
  · intro e' he'
    obtain ⟨e'', hm', rfl⟩ := List.mem_map.1 he'
    by_cases hc : (e''.x.id == e.x.id) = true
    · have : e'' = e := by
        have h1 := h.find_id he (id := e.x.id) (by simp)
        have h2 := h.find_id hm' hc
        rw [h1] at h2
        exact (Option.some.inj h2).symm
      subst this
      simp only [hc, if_true]
      exact hb
    · simp only [hc, Bool.false_eq_true, if_false]
      have hpe : e''.p ≠ e.p := fun q => hc (by rw [inj_of_nodup h.nd hm' he q]; simp)
      exact (hm e''.p (lt_of_heap (h.es e'' hm')) hpe).trans (h.es e'' hm')
  · have : (R.upd e.x.id f).L.map PE.p = R.L.map PE.p := by
      simp only [RTab.upd, List.map_map]
      apply List.map_congr_left
      intro e _
      simp only [Function.comp]
      split <;> rfl
    rw [this]; exact h.nd
/-- What a step of the table leaves. -/
structure TabTo (tT tE : TypeId) (w : World) (a mb : Nat) (R : RTab) (T : Tab) (w' : World) : Prop where
  ex : ∃ R', TabAt tT tE w' a mb R' ∧ R'.abs = T ∧ ∀ k, R'.foot a mb k → R.foot a mb k ∨ w.heap.size ≤ k
  mod : Mod (R.foot a mb) w w'
theorem TabTo.same {tT tE : TypeId} {w w' : World} {a mb : Nat} {R : RTab} (h : TabAt tT tE w a mb R) (hb : Below w.heap.size w w') : TabTo tT tE w a mb R R.abs w' :=
  ⟨⟨R, h.of_below hb (Nat.le_refl _), rfl, fun k hk => .inl hk⟩, Mod.of_below hb _⟩
theorem TabTo.of_upd {tT tE : TypeId} {w w' : World} {a mb : Nat} {R : RTab} (h : TabAt tT tE w a mb R) {e : PE} (he : e ∈ R.L) (f : Ent → Ent) (hid : ∀ x, (f x).id = x.id) (hb : w'.heap[e.p]? = some (.cells (entCells (f e.x)) tE (0, 0))) (hm : Mod (· = e.p) w w') (hne : tT ≠ tE)
    (hinv : Tab.Inv { R.abs with L := updE R.abs.L e.x.id f }) : TabTo tT tE w a mb R { R.abs with L := updE R.abs.L e.x.id f } w' :=
  ⟨⟨R.upd e.x.id f, h.upd he f hid hb (fun k hk hn => hm.block k hk hn) hne (by rw [RTab.upd_abs]; exact hinv), RTab.upd_abs _ _ _, fun k hk => .inl ((RTab.upd_foot _ _ _ _ _ _).1 hk)⟩, hm.mono fun k _ hk => .inr (.inr ⟨e, he, hk.symm⟩)⟩
theorem TabTo.of_del {tT tE : TypeId} {w w' : World} {a mb : Nat} {R : RTab} (h : TabAt tT tE w a mb R) (hne : tT ≠ tE) {id : Int} (hm : IMap w' mb .u64 ((R.L.map PE.kv).filter (·.key != id)) R.clock) (ho : ∀ k, k < w.heap.size → k ≠ mb → w'.heap[k]? = w.heap[k]?) (hmod : Mod (· = mb) w w')
    (hinv : Tab.Inv { R.abs with L := R.abs.L.filter (·.id != id) }) : TabTo tT tE w a mb R { R.abs with L := R.abs.L.filter (·.id != id) } w' :=
  ⟨⟨R.del id, h.del hne hm ho (by rw [RTab.del_abs]; exact hinv), RTab.del_abs _ _, fun k hk => by
    rcases hk with h | h | ⟨e, he, h⟩
    · exact .inl (.inl h)
    · exact .inl (.inr (.inl h))
    · exact .inl (.inr (.inr ⟨e, (List.mem_filter.1 he).1, h⟩))⟩, hmod.mono fun k _ hk => .inr (.inl hk)⟩
theorem TabTo.step {tT tE : TypeId} {w wr w2 : World} {a mb : Nat} {R R' : RTab} {T : Tab} (h : TabTo tT tE w a mb R T wr) (h' : TabAt tT tE wr a mb R') (ha : R'.abs = T) (hf : ∀ k, R'.foot a mb k → R.foot a mb k ∨ w.heap.size ≤ k) {e : PE} (he : e ∈ R'.L) (f : Ent → Ent) (hid : ∀ x, (f x).id = x.id)
    (hb : w2.heap[e.p]? = some (.cells (entCells (f e.x)) tE (0, 0))) (hm : Mod (· = e.p) wr w2) (hne : tT ≠ tE) (hinv : Tab.Inv { T with L := updE T.L e.x.id f }) : TabTo tT tE w a mb R { T with L := updE T.L e.x.id f } w2 := by
  subst ha
  refine ⟨⟨R'.upd e.x.id f, h'.upd he f hid hb (fun k hk hn => hm.block k hk hn) hne (by rw [RTab.upd_abs]; exact hinv), RTab.upd_abs _ _ _, fun k hk => hf k ((RTab.upd_foot _ _ _ _ _ _).1 hk)⟩, h.mod.trans hm fun i hi hk => ?_⟩
  rcases hf i (.inr (.inr ⟨e, he, hk.symm⟩)) with h | h
  · exact h
  · omega
/-- a step that turns none of the table's blocks -/
theorem TabTo.then_mod {tT tE : TypeId} {F : Nat → Prop} {w wr w2 : World} {a mb : Nat} {R : RTab} {T : Tab} (h : TabTo tT tE w a mb R T wr) (hm : Mod F wr w2) (hF : ∀ k, F k → w.heap.size ≤ k) (hF2 : ∀ R', TabAt tT tE wr a mb R' → R'.abs = T → (∀ k, R'.foot a mb k → R.foot a mb k ∨ w.heap.size ≤ k) → ∀ k, R'.foot a mb k → ¬ F k) : TabTo tT tE w a mb R T w2 := by
  obtain ⟨⟨R', h1, h2, h3⟩, h4⟩ := h
  exact ⟨⟨R', h1.of_mod hm (hF2 R' h1 h2 h3), h2, h3⟩, h4.trans hm fun i hi hk => by have := hF i hk; omega⟩
theorem TabTo.then_below {tT tE : TypeId} {w wr w2 : World} {a mb : Nat} {R : RTab} {T : Tab} (h : TabTo tT tE w a mb R T wr) (hb : Go.RowKit.Below wr.heap.size wr w2) : TabTo tT tE w a mb R T w2 := by
  obtain ⟨⟨R', h1, h2, h3⟩, h4⟩ := h
  exact ⟨⟨R', h1.of_below hb (Nat.le_refl _), h2, h3⟩, h4.then_below hb⟩

/-! ### a change of the entries of some IDs, one by one -/
def proc (f : Ent → Ent) (L : List Ent) (ids : List Int) : List Ent := L.map fun x => if ids.contains x.id then f x else x
theorem proc_nil (f : Ent → Ent) (L : List Ent) : proc f L [] = L := by simp [proc]
theorem proc_step {f : Ent → Ent} (hf : ∀ x, (f x).id = x.id) (L : List Ent) (ids : List Int) (id : Int) (hid : id ∉ ids) : updE (proc f L ids) id f = proc f L (ids ++ [id]) := by
  simp only [updE, proc, List.map_map]
  apply List.map_congr_left
  intro x _
  simp only [Function.comp]
  by_cases h1 : x.id ∈ ids
  · have hne : x.id ≠ id := fun e => hid (e ▸ h1)
    simp [h1, hf, hne]
  · by_cases h2 : x.id = id
    · simp [h2, hid]
    · simp [h1, h2]
theorem proc_all {f : Ent → Ent} {p : Ent → Bool} {L : List Ent} (hp : L.Pairwise fun x y => x.id < y.id) : proc f L ((L.filter p).map Ent.id) = L.map fun x => if p x then f x else x := by
  simp only [proc]
  apply List.map_congr_left
  intro x hx
  have : ((L.filter p).map Ent.id).contains x.id = p x := by
    cases h : p x with
    | true => simp only [List.contains_iff_mem, List.mem_map]; exact ⟨x, List.mem_filter.2 ⟨hx, h⟩, rfl⟩
    | false =>
      rw [← Bool.not_eq_true, List.contains_iff_mem, List.mem_map]
      rintro ⟨y, hy, e⟩
      obtain ⟨hy1, hy2⟩ := List.mem_filter.1 hy
      have hq : ∀ z ∈ L, (z.id == x.id) = true → L.find? (·.id == x.id) = some z := fun z hz hzx => find_of_pairwise (hp.imp fun h ⟨h1, h2⟩ => by rw [beq_iff_eq] at h1 h2; omega) hz hzx
      have h1 := hq y hy1 (by simpa using e)
      have h2 := hq x hx (by simp)
      rw [h1] at h2
      have : y = x := Option.some.inj h2
      subst this
      rw [h] at hy2
      cases hy2
  rw [this]
theorem Tab.Inv.proc {T : Tab} (h : T.Inv) (f : Ent → Ent) (hid : ∀ x, (f x).id = x.id) (ht : ∀ x, (f x).task = x.task) (ids : List Int) (hok : ∀ x ∈ T.L, x.id ∈ ids → EOk T.wait (f x)) : Tab.Inv { T with L := FL.proc f T.L ids } := by
  refine h.map (fun x => if ids.contains x.id then f x else x) (fun x => by split <;> simp [hid]) (fun x => by split <;> simp [ht]) (fun x hx => ?_)
  split
  · rename_i e
    exact hok x hx (by simpa using e)
  · exact h.eok hx
end Go.FL
