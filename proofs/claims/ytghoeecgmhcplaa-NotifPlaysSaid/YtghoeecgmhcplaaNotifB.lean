/- Walks through notif: Get, Valid, Epoch, Len, New, Reply, Kill, Ended. -/
import Derived.Test.YtghoeecgmhcplaaNotifA
set_option linter.unusedVariables false
set_option linter.unusedSimpArgs false
namespace Go.Proofs.Ytghoeecgmhcplaa
open Go Go.RowKit Go.FL

theorem abs_get (R : RTab) (id : Int) : R.abs.get id = (R.L.find? (·.x.id == id)).map PE.x := by
  simp only [Tab.get, RTab.abs, List.find?_map]; rfl
theorem abs_of (R : RTab) (t : Int) : R.abs.of t = (R.L.find? (·.x.task == t)).map PE.x := by
  simp only [Tab.of, RTab.abs, List.find?_map]; rfl
/-- what a look-up of an ID finds -/
theorem look_none {R : RTab} {id : Int} (h : R.L.find? (·.x.id == id) = none) : (lookI (R.L.map PE.kv) id).getD (.pointer none) = .pointer none ∧ (lookI (R.L.map PE.kv) id).isSome = false := by rw [look_kv, h]; exact ⟨rfl, rfl⟩
theorem look_some {R : RTab} {id : Int} {e : PE} (h : R.L.find? (·.x.id == id) = some e) : (lookI (R.L.map PE.kv) id).getD (.pointer none) = .pointer (some ⟨e.p, 0, none⟩) ∧ (lookI (R.L.map PE.kv) id).isSome = true := by rw [look_kv, h]; exact ⟨rfl, rfl⟩

/-- a Get's answer -/
def getOut (r : Option Ent) : Value := .tuple #[.agg (entCells (r.getD Ent.zero)), .bool r.isSome]

theorem get_any (a mb : Nat) (R : RTab) (id : Int) (w : World) (hT : TabAt' w a mb R) :
    Calls Try.prog 10 #[.pointer (some ⟨a, 0, none⟩), .int .u64 id] w fun e w' => e = .returned (getOut (R.abs.get id)) ∧ Below w.heap.size w w' := by
  have ha := lt_of_heap hT.tb
  have hmb := hT.mp.lt
  have c4 : w.cell? ⟨a, 4, none⟩ = some (.map (some mb)) := by rw [cell_of hT.tb]; rfl
  have hA := Lib.hid (abs_get R id)
  cases hf : R.L.find? (·.x.id == id) with
  | none =>
    have hl := look_none hf
    have hA' : Hid (R.abs.get id = none) := by show _ = _; rw [hA.out, hf]; rfl
    clear hA hf
    obtain ⟨hl1, hl2⟩ := hl
    have HL1 := Lib.hid hl1
    have HL2 := Lib.hid hl2
    clear hl1 hl2
    go_enter Try.func10, Try.ntmps10
    go_wp2_with (first
      | (at_lookup; refine wpList_lookup_i _ rfl _ _ 60 false rfl 29 64 .u64 Try.underlying60 Try.underlying29 _ (zeroPtr _) mb _ _ rfl (hT.mp.of_block (Below.heap_alloc _ _ _ hmb)) _ rfl (.pointer none) false HL1.out HL2.out ?_)
      | go_in)
    refine bodyPost_ret (v := .tuple #[.agg #[.int .u64 0, .int .i64 0, .int .i64 0, .int .i64 0, .int .i64 0, .int .i64 0], .bool false]) (by simp [results, Try.results10, go_sem]) rfl ?_
    rw [hA'.out]
    exact ⟨rfl, (Below.refl _ _).alloc (Nat.le_refl _) _⟩
  | some e =>
    have hl := look_some hf
    have hA' : Hid (R.abs.get id = some e.x) := by show _ = _; rw [hA.out, hf]; rfl
    have he := List.mem_of_find?_eq_some hf
    clear hA hf
    obtain ⟨hl1, hl2⟩ := hl
    have HL1 := Lib.hid hl1
    have HL2 := Lib.hid hl2
    clear hl1 hl2
    have hE := hT.es e he
    have hp := lt_of_heap hE
    have e0 : w.cell? ⟨e.p, 0, none⟩ = some (.int .u64 e.x.id) := by rw [cell_of hE]; rfl
    have e1 : w.cell? ⟨e.p, 1, none⟩ = some (.int .i64 e.x.task) := by rw [cell_of hE]; rfl
    have e2 : w.cell? ⟨e.p, 2, none⟩ = some (.int .i64 e.x.state) := by rw [cell_of hE]; rfl
    have e3 : w.cell? ⟨e.p, 3, none⟩ = some (.int .i64 e.x.left) := by rw [cell_of hE]; rfl
    have e4 : w.cell? ⟨e.p, 4, none⟩ = some (.int .i64 e.x.ok) := by rw [cell_of hE]; rfl
    have e5 : w.cell? ⟨e.p, 5, none⟩ = some (.int .i64 e.x.ov) := by rw [cell_of hE]; rfl
    go_enter Try.func10, Try.ntmps10
    go_wp2_with (first
      | (at_lookup; refine wpList_lookup_i _ rfl _ _ 60 false rfl 29 64 .u64 Try.underlying60 Try.underlying29 _ (zeroPtr _) mb _ _ rfl (hT.mp.of_block (Below.heap_alloc _ _ _ hmb)) _ rfl (.pointer (some ⟨e.p, 0, none⟩)) true HL1.out HL2.out ?_)
      | go_in)
    refine bodyPost_ret (v := .tuple #[.agg (entCells e.x), .bool true]) (by simp [results, Try.results10, go_sem]) rfl ?_
    rw [hA'.out]
    exact ⟨rfl, (Below.refl _ _).alloc (Nat.le_refl _) _⟩

theorem valid_any (a mb : Nat) (R : RTab) (id : Int) (w : World) (hT : TabAt' w a mb R) :
    Calls Try.prog 16 #[.pointer (some ⟨a, 0, none⟩), .int .u64 id] w fun e w' => e = .returned (.bool (R.abs.valid id)) ∧ w = w' := by
  have ha := lt_of_heap hT.tb
  have hmb := hT.mp.lt
  have c4 : w.cell? ⟨a, 4, none⟩ = some (.map (some mb)) := by rw [cell_of hT.tb]; rfl
  cases hf : R.L.find? (·.x.id == id) with
  | none =>
    have hA' : Hid (R.abs.valid id = false) := by show _ = _; rw [Tab.valid, abs_get, hf]; rfl
    obtain ⟨hl1, hl2⟩ := look_none hf
    have HL1 := Lib.hid hl1
    have HL2 := Lib.hid hl2
    clear hl1 hl2 hf
    go_enter Try.func16, Try.ntmps16
    go_wp2_with (first
      | (at_lookup; refine wpList_lookup_i _ rfl _ _ 60 false rfl 29 64 .u64 Try.underlying60 Try.underlying29 _ (zeroPtr _) mb _ _ rfl hT.mp _ rfl (.pointer none) false HL1.out HL2.out ?_)
      | go_in)
    go_ret
    rw [hA'.out]
    exact ⟨rfl, rfl⟩
  | some e =>
    have hA' : Hid (R.abs.valid id = (e.x.state == 2)) := by show _ = _; rw [Tab.valid, abs_get, hf]; rfl
    have he := List.mem_of_find?_eq_some hf
    obtain ⟨hl1, hl2⟩ := look_some hf
    have HL1 := Lib.hid hl1
    have HL2 := Lib.hid hl2
    clear hl1 hl2 hf
    have hE := hT.es e he
    have hp := lt_of_heap hE
    have e2 : w.cell? ⟨e.p, 2, none⟩ = some (.int .i64 e.x.state) := by rw [cell_of hE]; rfl
    go_enter Try.func16, Try.ntmps16
    go_wp2_with (first
      | (at_lookup; refine wpList_lookup_i _ rfl _ _ 60 false rfl 29 64 .u64 Try.underlying60 Try.underlying29 _ (zeroPtr _) mb _ _ rfl hT.mp _ rfl (.pointer (some ⟨e.p, 0, none⟩)) true HL1.out HL2.out ?_)
      | go_in)
    go_ret
    rw [hA'.out]
    exact ⟨rfl, rfl⟩

theorem epoch_any (a mb : Nat) (R : RTab) (w : World) (hT : TabAt' w a mb R) :
    Calls Try.prog 13 #[.pointer (some ⟨a, 0, none⟩)] w fun e w' => e = .returned (.int .u64 R.epoch) ∧ w = w' := by
  have c3 : w.cell? ⟨a, 3, none⟩ = some (.int .u64 R.epoch) := by rw [cell_of hT.tb]; rfl
  go_enter Try.func13, Try.ntmps13
  go_wp2
  go_ret
  exact ⟨rfl, rfl⟩

theorem len_any (a mb : Nat) (R : RTab) (w : World) (hT : TabAt' w a mb R) :
    Calls Try.prog 19 #[.pointer (some ⟨a, 0, none⟩)] w fun e w' => e = .returned (.int .i64 R.L.length) ∧ w = w' := by
  have c4 : w.cell? ⟨a, 4, none⟩ = some (.map (some mb)) := by rw [cell_of hT.tb]; rfl
  have hl := run_len_i (P := Try.prog) (ty := 3) Try.underlying60 hT.mp
  rw [List.length_map] at hl
  go_enter Try.func19, Try.ntmps19
  go_wp2
  go_ret
  exact ⟨rfl, rfl⟩
end Go.Proofs.Ytghoeecgmhcplaa
