/- The table of calls that wait, as plain data: its steps over a list of entries by rising IDs. No program stands here. -/
import Derived.Test.YtghoeecgmhcplaaBase
set_option linter.unusedVariables false
open Go.RowKit
namespace Go.FL

structure Ent where
  id : Int
  task : Int
  state : Int
  left : Int
  ok : Int
  ov : Int
  deriving DecidableEq
def Ent.zero : Ent := ⟨0, 0, 0, 0, 0, 0⟩
def Ent.waits (x : Ent) : Bool := x.state == 1 || x.state == 2
def Ent.gone (x : Ent) (k : Int) : Ent := { x with state := 4, ok := k, ov := 0 }

structure Tab where
  size : Int
  wait : Int
  next : Int
  epoch : Int
  L : List Ent

/-- the entry of an ID is changed -/
def updE (L : List Ent) (id : Int) (f : Ent → Ent) : List Ent := L.map fun x => if x.id == id then f x else x
def Tab.of (T : Tab) (task : Int) : Option Ent := T.L.find? (·.task == task)
def Tab.get (T : Tab) (id : Int) : Option Ent := T.L.find? (·.id == id)
def Tab.add (T : Tab) (task : Int) : Tab × Int × Int :=
  if task < 1 ∨ 4 < task then (T, 0, 1)
  else if (T.of task).isSome then (T, 0, 21)
  else if T.size ≤ T.L.length ∨ T.next = 18446744073709551615 then (T, 0, 16)
  else ({ T with next := T.next + 1, L := T.L ++ [⟨T.next, task, 1, T.wait, 0, 0⟩] }, T.next, 0)
def Tab.send (T : Tab) : Tab × Option Ent :=
  match T.L.find? (·.state == 1) with
  | none => (T, none)
  | some x => ({ T with L := updE T.L x.id fun y => { y with state := 2 } }, some { x with state := 2 })
def Tab.valid (T : Tab) (id : Int) : Bool := match T.get id with
  | none => false
  | some x => x.state == 2
def Tab.reply (T : Tab) (epoch id k v : Int) : Tab × Int :=
  if epoch ≠ T.epoch then (T, 22)
  else match T.get id with
  | none => (T, 17)
  | some x => if x.state ≠ 2 then (T, 18) else if k < 1 ∨ 3 < k then (T, 1)
    else ({ T with L := updE T.L id fun y => { y with state := 3, ok := k, ov := v } }, 0)
def Tab.kill (T : Tab) (task : Int) : Tab × Bool := match T.of task with
  | none => (T, false)
  | some x => if x.waits then ({ T with L := updE T.L x.id fun y => y.gone 4 }, true) else (T, false)
/-- one entry at a tick -/
def Ent.tick (x : Ent) : Ent := if x.waits then (if x.left - 1 = 0 then { x with left := 0 }.gone 6 else { x with left := x.left - 1 }) else x
def Tab.tick (T : Tab) : Tab := { T with L := T.L.map Ent.tick }
def Tab.late (T : Tab) : List Int := (T.L.filter fun x => x.waits && x.left == 1).map Ent.id
def Ent.drop (x : Ent) : Ent := if x.waits then x.gone 7 else x
def Tab.drop (T : Tab) : Tab := { T with L := T.L.map Ent.drop }
def Tab.rise (T : Tab) (epoch : Int) : Tab × Int := if epoch ≤ T.epoch then (T, 22) else ({ T with epoch := epoch }.drop, 0)
def Tab.ended (T : Tab) (task : Int) : Tab × Option Ent := match T.of task with
  | none => (T, none)
  | some x => if x.waits then (T, none) else ({ T with L := T.L.filter (·.id != x.id) }, some x)

/-- What always holds of a table that New has made and these steps have changed. -/
structure Tab.Inv (T : Tab) : Prop where
  size1 : 1 ≤ T.size
  size8 : T.size ≤ 8
  wait1 : 1 ≤ T.wait
  wait2 : T.wait ≤ 1000
  next0 : 0 ≤ T.next
  next1 : T.next ≤ 18446744073709551615
  ep0 : 0 ≤ T.epoch
  ep1 : T.epoch ≤ 18446744073709551615
  len : (T.L.length : Int) ≤ T.size
  ids : T.L.Pairwise (fun x y => x.id < y.id)
  low : ∀ x ∈ T.L, 0 ≤ x.id ∧ x.id < T.next
  tasks : ∀ x ∈ T.L, 1 ≤ x.task ∧ x.task ≤ 4
  apart : T.L.Pairwise (fun x y => x.task ≠ y.task)
  states : ∀ x ∈ T.L, 1 ≤ x.state ∧ x.state ≤ 4
  left : ∀ x ∈ T.L, x.waits = true → 1 ≤ x.left ∧ x.left ≤ T.wait
  outs : ∀ x ∈ T.L, (x.waits = true → x.ok = 0 ∧ x.ov = 0) ∧ (x.waits = false → 1 ≤ x.ok ∧ x.ok ≤ 7 ∧ x.ok ≠ 5)
  done : ∀ x ∈ T.L, (x.state = 3 → x.ok ≤ 3) ∧ (x.state = 4 → 4 ≤ x.ok ∧ x.ov = 0)

/-! ### The same, with the place of each entry in memory -/
structure PE where
  p : Nat
  b : Nat
  x : Ent
def PE.kv (e : PE) : KV := ⟨e.x.id, .pointer (some ⟨e.p, 0, none⟩), e.b⟩
@[go_sem] theorem PE.kv_key (e : PE) : e.kv.key = e.x.id := rfl
@[go_sem] theorem PE.kv_val (e : PE) : e.kv.val = .pointer (some ⟨e.p, 0, none⟩) := rfl
@[go_sem] theorem PE.kv_born (e : PE) : e.kv.born = e.b := rfl
structure RTab where
  size : Int
  wait : Int
  next : Int
  epoch : Int
  L : List PE
  clock : Nat
def RTab.abs (R : RTab) : Tab := ⟨R.size, R.wait, R.next, R.epoch, R.L.map PE.x⟩
def entCells (x : Ent) : Array Value := #[.int .u64 x.id, .int .i64 x.task, .int .i64 x.state, .int .i64 x.left, .int .i64 x.ok, .int .i64 x.ov]
def tabCells (R : RTab) (mb : Nat) : Array Value := #[.int .i64 R.size, .int .i64 R.wait, .int .u64 R.next, .int .u64 R.epoch, .map (some mb)]
attribute [go_sem] entCells tabCells
structure TabAt (tT tE : TypeId) (w : World) (a mb : Nat) (R : RTab) : Prop where
  tb : w.heap[a]? = some (.cells (tabCells R mb) tT (0, 0))
  mp : IMap w mb .u64 (R.L.map PE.kv) R.clock
  es : ∀ e ∈ R.L, w.heap[e.p]? = some (.cells (entCells e.x) tE (0, 0))
  nd : (R.L.map PE.p).Nodup
  inv : R.abs.Inv
/-- the blocks of a table -/
def RTab.foot (R : RTab) (a mb : Nat) (k : Nat) : Prop := k = a ∨ k = mb ∨ ∃ e ∈ R.L, e.p = k
theorem TabAt.of_same {tT tE : TypeId} {w w' : World} {a mb : Nat} {R : RTab} (h : TabAt tT tE w a mb R) (hs : ∀ k, R.foot a mb k → w'.heap[k]? = w.heap[k]?) : TabAt tT tE w' a mb R :=
  ⟨(hs a (.inl rfl)).trans h.tb, h.mp.of_block (hs mb (.inr (.inl rfl))), fun e he => (hs e.p (.inr (.inr ⟨e, he, rfl⟩))).trans (h.es e he), h.nd, h.inv⟩
theorem TabAt.lt {tT tE : TypeId} {w : World} {a mb : Nat} {R : RTab} (h : TabAt tT tE w a mb R) {k : Nat} (hk : R.foot a mb k) : k < w.heap.size := by
  rcases hk with rfl | rfl | ⟨e, he, rfl⟩
  · exact lt_of_heap h.tb
  · exact h.mp.lt
  · exact lt_of_heap (h.es e he)
theorem TabAt.of_mod {tT tE : TypeId} {F : Nat → Prop} {w w' : World} {a mb : Nat} {R : RTab} (h : TabAt tT tE w a mb R) (hm : Mod F w w') (hF : ∀ k, R.foot a mb k → ¬ F k) : TabAt tT tE w' a mb R :=
  h.of_same fun k hk => hm.block k (h.lt hk) (hF k hk)
theorem TabAt.of_below {tT tE : TypeId} {B : Nat} {w w' : World} {a mb : Nat} {R : RTab} (h : TabAt tT tE w a mb R) (hb : Below B w w') (hB : w.heap.size ≤ B) : TabAt tT tE w' a mb R :=
  h.of_same fun k hk => hb.block k (Nat.lt_of_lt_of_le (h.lt hk) hB)
theorem TabAt.ne_map {tT tE : TypeId} {w : World} {a mb : Nat} {R : RTab} (h : TabAt tT tE w a mb R) {e : PE} (he : e ∈ R.L) : e.p ≠ mb := by
  intro q
  have h1 := h.mp.blk
  have h2 := h.es e he
  rw [q, h1] at h2
  cases h2
theorem TabAt.ne_tab {tT tE : TypeId} {w : World} {a mb : Nat} {R : RTab} (h : TabAt tT tE w a mb R) : a ≠ mb := by
  intro q
  have h1 := h.mp.blk
  have h2 := h.tb
  rw [q, h1] at h2
  cases h2
theorem TabAt.ne_ent {tT tE : TypeId} {w : World} {a mb : Nat} {R : RTab} (h : TabAt tT tE w a mb R) (hne : tT ≠ tE) {e : PE} (he : e ∈ R.L) : e.p ≠ a := by
  intro q
  have h1 := h.tb
  have h2 := h.es e he
  rw [q, h1] at h2
  simp only [Option.some.injEq, Obj.cells.injEq] at h2
  exact hne h2.2.1
theorem find_of_pairwise {α : Type} {p : α → Bool} {L : List α} (h : L.Pairwise fun x y => ¬ (p x = true ∧ p y = true)) {e : α} (he : e ∈ L) (hp : p e = true) : L.find? p = some e := by
  induction L with
  | nil => cases he
  | cons x L ih =>
    rw [List.pairwise_cons] at h
    rw [List.find?_cons]
    cases hx : p x with
    | true =>
      rcases List.mem_cons.1 he with rfl | he'
      · rfl
      · exact absurd ⟨hx, hp⟩ (h.1 e he')
    | false =>
      rcases List.mem_cons.1 he with rfl | he'
      · rw [hx] at hp; cases hp
      · exact ih h.2 he'
theorem TabAt.find_task {tT tE : TypeId} {w : World} {a mb : Nat} {R : RTab} (h : TabAt tT tE w a mb R) {e : PE} (he : e ∈ R.L) {task : Int} (ht : (e.x.task == task) = true) : R.L.find? (·.x.task == task) = some e := by
  have hp := h.inv.apart
  simp only [RTab.abs, List.pairwise_map] at hp
  exact find_of_pairwise (hp.imp fun h ⟨h1, h2⟩ => h (by rw [beq_iff_eq.1 h1, beq_iff_eq.1 h2])) he ht
theorem TabAt.find_id {tT tE : TypeId} {w : World} {a mb : Nat} {R : RTab} (h : TabAt tT tE w a mb R) {e : PE} (he : e ∈ R.L) {id : Int} (ht : (e.x.id == id) = true) : R.L.find? (·.x.id == id) = some e := by
  have hp := h.inv.ids
  simp only [RTab.abs, List.pairwise_map] at hp
  exact find_of_pairwise (hp.imp fun h ⟨h1, h2⟩ => by rw [beq_iff_eq] at h1 h2; omega) he ht
theorem look_kv (L : List PE) (id : Int) : lookI (L.map PE.kv) id = (L.find? (·.x.id == id)).map fun e => .pointer (some ⟨e.p, 0, none⟩) := by
  unfold lookI
  rw [List.find?_map]
  cases h : L.find? ((fun x : KV => x.key == id) ∘ PE.kv) with
  | none =>
    have : L.find? (·.x.id == id) = none := h
    simp [this]
  | some e =>
    have : L.find? (·.x.id == id) = some e := h
    simp [this, PE.kv]
/-- an entry is taken out -/
def RTab.del (R : RTab) (id : Int) : RTab := { R with L := R.L.filter (·.x.id != id) }
theorem RTab.del_abs (R : RTab) (id : Int) : (R.del id).abs = { R.abs with L := R.abs.L.filter (·.id != id) } := by
  simp only [RTab.del, RTab.abs, List.filter_map]; rfl
theorem TabAt.del {tT tE : TypeId} {w w' : World} {a mb : Nat} {R : RTab} (h : TabAt tT tE w a mb R) (hne : tT ≠ tE) {id : Int} (hm : IMap w' mb .u64 ((R.L.map PE.kv).filter (·.key != id)) R.clock) (ho : ∀ k, k < w.heap.size → k ≠ mb → w'.heap[k]? = w.heap[k]?) (hinv : (R.del id).abs.Inv) : TabAt tT tE w' a mb (R.del id) :=
  ⟨(ho a (lt_of_heap h.tb) h.ne_tab).trans h.tb, by rw [List.filter_map] at hm; exact hm, fun e he => (ho e.p (lt_of_heap (h.es e (List.mem_filter.1 he).1)) (h.ne_map (List.mem_filter.1 he).1)).trans (h.es e (List.mem_filter.1 he).1), (List.filter_sublist.map _).nodup h.nd, hinv⟩
end Go.FL
