/- Layer 21's laws as plain data: what a table does over many steps. No program stands here. -/
import Derived.Test.YtghoeecgmhcplaaPlay
set_option linter.unusedVariables false
set_option linter.unusedSimpArgs false
namespace Go.FL
open Go Go.RowKit

theorem Tab.Inv.eq_of_id {T : Tab} (h : T.Inv) {x y : Ent} (hx : x ∈ T.L) (hy : y ∈ T.L) (e : x.id = y.id) : x = y := by
  have h1 := find_of_pairwise (p := fun z : Ent => z.id == x.id) (h.ids.imp fun h ⟨h1, h2⟩ => by rw [beq_iff_eq] at h1 h2; omega) hx (by simp)
  have h2 := find_of_pairwise (p := fun z : Ent => z.id == x.id) (h.ids.imp fun h ⟨h1, h2⟩ => by rw [beq_iff_eq] at h1 h2; omega) hy (by simp [e])
  rw [h1] at h2; exact Option.some.inj h2
theorem Tab.Inv.get_of {T : Tab} (h : T.Inv) {x : Ent} (hx : x ∈ T.L) : T.get x.id = some x :=
  find_of_pairwise (p := fun z : Ent => z.id == x.id) (h.ids.imp fun h ⟨h1, h2⟩ => by rw [beq_iff_eq] at h1 h2; omega) hx (by simp)
theorem Tab.Inv.of_of {T : Tab} (h : T.Inv) {x : Ent} (hx : x ∈ T.L) : T.of x.task = some x :=
  find_of_pairwise (p := fun z : Ent => z.task == x.task) (h.apart.imp fun h ⟨h1, h2⟩ => h (by rw [beq_iff_eq.1 h1, beq_iff_eq.1 h2])) hx (by simp)
theorem Tab.get_mem {T : Tab} {id : Int} {x : Ent} (h : T.get id = some x) : x ∈ T.L ∧ x.id = id :=
  ⟨List.mem_of_find?_eq_some h, by simpa using List.find?_some h⟩
theorem Tab.of_mem {T : Tab} {id : Int} {x : Ent} (h : T.of id = some x) : x ∈ T.L ∧ x.task = id :=
  ⟨List.mem_of_find?_eq_some h, by simpa using List.find?_some h⟩
theorem mem_updE {L : List Ent} {id : Int} {f : Ent → Ent} {y : Ent} (h : y ∈ updE L id f) : ∃ x ∈ L, y = if x.id == id then f x else x := by
  unfold updE at h
  obtain ⟨x, hx, rfl⟩ := List.mem_map.1 h
  exact ⟨x, hx, rfl⟩

/-! ### the ticks -/
def Tab.Due (T : Tab) (n : Int) : Prop := ∀ x ∈ T.L, x.waits = true → x.left ≤ n
theorem Tab.Due.none {T : Tab} {n : Int} (h : ∀ x ∈ T.L, x.waits = false) : T.Due n := fun x hx hw => by rw [h x hx] at hw; cases hw
theorem drop_waits (x : Ent) : x.drop.waits = false := by
  unfold Ent.drop
  split
  · rfl
  · simpa using ‹¬ x.waits = true›
theorem Tab.drop_none (T : Tab) : ∀ x ∈ T.drop.L, x.waits = false := fun x hx => by
  obtain ⟨y, _, rfl⟩ := List.mem_map.1 hx
  exact drop_waits y
theorem Tab.Due.op {T : Tab} {n : Int} (h : T.Due n) (hI : T.Inv) (o : OpD) (h1 : 1 < o.do_) (h6 : o.do_ ≠ 6) : (T.op o).Due n := by
  unfold Tab.op
  rw [if_neg (by omega)]
  split
  · unfold Tab.send
    split
    · exact h
    · rename_i x hx
      intro y hy hw
      obtain ⟨z, hz, rfl⟩ := mem_updE hy
      split at hw
      · rename_i hid
        have hxm := List.mem_of_find?_eq_some hx
        have hzx := hI.eq_of_id hz hxm (by simpa using hid)
        subst hzx
        have hst := List.find?_some hx
        rw [if_pos hid]
        exact h z hz (by simp only [Ent.waits]; rw [hst]; rfl)
      · rename_i hid
        rw [if_neg hid]; exact h z hz hw
  · split
    · unfold Tab.reply
      split
      · exact h
      · split
        · exact h
        · rename_i x hx
          split
          · exact h
          · split
            · exact h
            · intro y hy hw
              obtain ⟨z, hz, rfl⟩ := mem_updE hy
              split at hw
              · simp [Ent.waits] at hw
              · rename_i hid
                rw [if_neg hid]; exact h z hz hw
    · split
      · unfold Tab.kill
        split
        · exact h
        · split
          · intro y hy hw
            obtain ⟨z, hz, rfl⟩ := mem_updE hy
            split at hw
            · simp [Ent.waits, Ent.gone] at hw
            · rename_i hid
              rw [if_neg hid]; exact h z hz hw
          · exact h
      · split
        · unfold Tab.rise
          split
          · exact h
          · exact .none (Tab.drop_none _)
        · split
          · exact .none (Tab.drop_none _)
          · split
            · unfold Tab.ended
              split
              · exact h
              · split
                · exact h
                · exact fun y hy hw => h y (List.mem_filter.1 hy).1 hw
            · exact h
theorem tick_waits {x : Ent} (h : x.tick.waits = true) : x.waits = true ∧ x.tick.left = x.left - 1 := by
  unfold Ent.tick at h ⊢
  split at h
  · rename_i hw
    split at h
    · simp [Ent.waits, Ent.gone] at h
    · rename_i hl
      rw [if_pos hw, if_neg hl]; exact ⟨hw, rfl⟩
  · exact absurd h ‹_›
theorem Tab.Due.tick {T : Tab} {n : Int} (h : T.Due n) : T.tick.Due (n - 1) := fun x hx hw => by
  obtain ⟨y, hy, rfl⟩ := List.mem_map.1 hx
  obtain ⟨h1, h2⟩ := tick_waits hw
  have := h y hy h1
  omega
theorem Tab.Due.over {T : Tab} (h : T.Due 0) (hI : T.Inv) : ∀ x ∈ T.L, x.waits = false := fun x hx => by
  cases hw : x.waits with
  | false => rfl
  | true => have := h x hx hw; have := (hI.left x hx hw).1; omega
theorem op_wait (T : Tab) (o : OpD) : (T.op o).wait = T.wait := by
  unfold Tab.op Tab.add Tab.send Tab.reply Tab.kill Tab.tick Tab.rise Tab.drop Tab.ended
  repeat' split
  all_goals rfl
theorem playT_wait (T : Tab) (l : List OpD) : (playT T l).wait = T.wait := by
  induction l generalizing T with
  | nil => rfl
  | cons o l ih => exact (ih (T.op o)).trans (op_wait T o)
theorem Tab.Inv.play {T : Tab} (h : T.Inv) (l : List OpD) (hl : ∀ o ∈ l, o.Wf) : (playT T l).Inv := by
  induction l generalizing T with
  | nil => exact h
  | cons o l ih => exact ih (h.op o (hl o (by simp))) fun x hx => hl x (by simp [hx])
theorem Tab.Inv.due {T : Tab} (h : T.Inv) : T.Due T.wait := fun x hx hw => (h.left x hx hw).2

/-! ### what has ended stays -/
theorem mem_updE_of {L : List Ent} {id : Int} {f : Ent → Ent} {x : Ent} (h : x ∈ L) (hne : x.id ≠ id) : x ∈ updE L id f :=
  List.mem_map.2 ⟨x, h, by rw [if_neg (by simpa using hne)]⟩
theorem Tab.Inv.stays {T : Tab} (hI : T.Inv) {x : Ent} (hx : x ∈ T.L) (hw : x.waits = false) (o : OpD) (h9 : o.do_ ≠ 9) : x ∈ (T.op o).L := by
  unfold Tab.op
  split
  · unfold Tab.add
    split
    · exact hx
    · split
      · exact hx
      · split
        · exact hx
        · exact List.mem_append_left _ hx
  · split
    · unfold Tab.send
      split
      · exact hx
      · rename_i y hy
        refine mem_updE_of hx fun e => ?_
        have := hI.eq_of_id hx (List.mem_of_find?_eq_some hy) e
        subst this
        have hst := List.find?_some hy
        simp only [Ent.waits] at hw
        rw [hst] at hw; cases hw
    · split
      · unfold Tab.reply
        split
        · exact hx
        · split
          · exact hx
          · rename_i y hy
            obtain ⟨hym, hyi⟩ := Tab.get_mem hy
            split
            · exact hx
            · split
              · exact hx
              · refine mem_updE_of hx fun e => ?_
                have := hI.eq_of_id hx hym (e.trans hyi.symm)
                subst this
                have h2' : x.state = 2 := by omega
                simp [Ent.waits, h2'] at hw
      · split
        · unfold Tab.kill
          split
          · exact hx
          · rename_i y hy
            split
            · rename_i hyw
              refine mem_updE_of hx fun e => ?_
              have := hI.eq_of_id hx (Tab.of_mem hy).1 e
              subst this
              rw [hw] at hyw; cases hyw
            · exact hx
        · split
          · exact List.mem_map.2 ⟨x, hx, by unfold Ent.tick; rw [if_neg (by rw [hw]; decide)]⟩
          · split
            · unfold Tab.rise
              split
              · exact hx
              · exact List.mem_map.2 ⟨x, hx, by unfold Ent.drop; rw [if_neg (by rw [hw]; decide)]⟩
            · split
              · exact List.mem_map.2 ⟨x, hx, by unfold Ent.drop; rw [if_neg (by rw [hw]; decide)]⟩
              · exact hx
theorem Tab.Inv.stays_play {T : Tab} (hI : T.Inv) {x : Ent} (hx : x ∈ T.L) (hw : x.waits = false) (l : List OpD) (hl : ∀ o ∈ l, o.Wf ∧ o.do_ ≠ 9) : x ∈ (playT T l).L := by
  induction l generalizing T with
  | nil => exact hx
  | cons o l ih => exact ih (hI.op o (hl o (by simp)).1) (hI.stays hx hw o (hl o (by simp)).2) fun y hy => hl y (by simp [hy])
theorem Tab.Inv.ended_of {T : Tab} (hI : T.Inv) {x : Ent} (hx : x ∈ T.L) (hw : x.waits = false) : T.ended x.task = ({ T with L := T.L.filter (·.id != x.id) }, some x) := by
  unfold Tab.ended
  rw [hI.of_of hx]
  simp [hw]
theorem get_filter (T : Tab) (id : Int) : Tab.get { T with L := T.L.filter (·.id != id) } id = none := by
  unfold Tab.get
  rw [List.find?_eq_none]
  intro x hx
  have := (List.mem_filter.1 hx).2
  simpa using this
theorem Ent.waits_iff (x : Ent) : x.waits = true ↔ x.state = 1 ∨ x.state = 2 := by simp [Ent.waits]
theorem Tab.Inv.stops {T : Tab} (hI : T.Inv) {x : Ent} (hx : x ∈ T.L) : x.waits = false ↔ x.state = 3 ∨ x.state = 4 := by
  have := hI.states x hx
  rw [← Bool.not_eq_true, Ent.waits_iff]
  omega

/-! ### a new epoch -/
theorem find_map_id (f : Ent → Ent) (hf : ∀ x, (f x).id = x.id) (L : List Ent) (id : Int) : (L.map f).find? (·.id == id) = (L.find? (·.id == id)).map f := by
  rw [List.find?_map]
  have : ((fun x : Ent => x.id == id) ∘ f) = (fun x : Ent => x.id == id) := by funext x; simp [hf]
  rw [this]
theorem drop_id (x : Ent) : x.drop.id = x.id := by unfold Ent.drop Ent.gone; split <;> rfl
theorem rise_get {T : Tab} {id : Int} {x : Ent} (e : Int) (h : T.get id = some x) (hw : x.waits = true) : Tab.get (Tab.drop { T with epoch := e }) id = some (x.gone 7) := by
  unfold Tab.get Tab.drop
  show (T.L.map Ent.drop).find? (·.id == id) = _
  rw [find_map_id _ drop_id]
  have : T.L.find? (·.id == id) = some x := h
  rw [this]
  simp [Ent.drop, hw]
theorem playI_len (T : Tab) (l : List OpD) : (playI T (l.take 200)).length ≤ 200 := by
  have := playI_le T (l.take 200); have := List.length_take_le 200 l; omega
end Go.FL
