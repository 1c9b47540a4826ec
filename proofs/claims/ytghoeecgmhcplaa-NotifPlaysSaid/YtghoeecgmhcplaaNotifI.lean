/- The arguments of layer 21's laws, opened: two numbers; a slice of ops. -/
import Derived.Test.YtghoeecgmhcplaaNotifR
import Derived.OpenShut
import Derived.Deep.Slices
set_option linter.unusedVariables false
set_option linter.unusedSimpArgs false
namespace Go.Proofs.Ytghoeecgmhcplaa
open Go Go.RowKit Go.FL Go.ChangeShapes Go.WideShapes Go.Deep

/-- two numbers -/
theorem open_pair {H : Type} {enc : TypeId × Value → H} {P : Program} {w : World} {base b0 : Nat} {spare : Nat → Bool} {held : Bool} {t e : TypeId} {k : IntKind} {v : Value} {d : DataW H} {ps : List MemPlace} (ht : P.underlying t = some (.array 2 e)) (he : P.underlying e = some (.int k)) (hc : P.cellsOf t = 2) (ce : P.cellsOf e = 1)
    (hval : Value.okWide P w .any b0 t v) (hd : DataW.Trod enc P w base spare held t v d ps) : ∃ x y, v = .agg #[.int k x, .int k y] ∧ ps = [] := by
  simp only [Value.okWide, ht] at hval
  obtain ⟨⟨cs⟩, rfl, hs, _⟩ := hval
  rw [hc] at hs
  obtain ⟨fuel, hf⟩ := hd
  obtain ⟨xs, m, rfl, hx, _, hxl, hxs⟩ := DataW.trod_array ht hf
  match cs, hs with
  | [u0, u1], _ =>
    match xs, hxl with
    | [q0, q1], _ =>
      have h0 := hxs 0 (by omega)
      have h1 := hxs 1 (by omega)
      simp [ce, Value.cells] at h0 h1
      obtain ⟨n0, e0, f0, _⟩ := DataW.trod_int he h0
      obtain ⟨n1, e1, f1, _⟩ := DataW.trod_int he h1
      cases e0; cases e1
      refine ⟨n0, n1, rfl, ?_⟩
      simp at hx
      rw [hx.2, f0, f1]; rfl
/-- one op, from its cells -/
theorem open_op {H : Type} {enc : TypeId × Value → H} {w : World} {base fuel : Nat} {spare : Nat → Bool} {held : Bool} {cs : List Value} {x : DataW H × List MemPlace} (h : DataW.trod enc Try.prog w base spare held fuel 40 cs = some x) :
    ∃ o : OpD, cs = opCells o ∧ o.Wf := by
  have c3 : Try.prog.cellsOf 3 = 1 := by kernel_rfl
  have c29 : Try.prog.cellsOf 29 = 1 := by kernel_rfl
  have c34 : Try.prog.cellsOf 34 = 2 := by kernel_rfl
  have c40 : Try.prog.cellsOf 40 = 5 := by kernel_rfl
  obtain ⟨xs, n, rfl, _, hl, hxl, hf⟩ := DataW.trod_struct Try.underlying40 h
  rw [c40] at hl
  match cs, hl with
  | [u0, u1, u2, u3, u4], _ =>
    match xs, hxl with
    | [q0, q1, q2, q3], _ =>
      have g0 := hf 0 _ rfl
      have g1 := hf 1 _ rfl
      have g2 := hf 2 _ rfl
      have g3 := hf 3 _ rfl
      simp [c3, c29, c34] at g0 g1 g2 g3
      obtain ⟨n0, e0, _, _⟩ := DataW.trod_int Try.underlying3 g0
      obtain ⟨n1, e1, _, _⟩ := DataW.trod_int Try.underlying3 g1
      obtain ⟨n2, e2, _, wf2⟩ := DataW.trod_int Try.underlying29 g2
      obtain ⟨ys, m, rfl, _, _, hyl, hg⟩ := DataW.trod_struct Try.underlying34 g3
      match ys, hyl with
      | [y0, y1], _ =>
        have k0 := hg 0 _ rfl
        have k1 := hg 1 _ rfl
        simp [c3] at k0 k1
        obtain ⟨n3, e3, _, _⟩ := DataW.trod_int Try.underlying3 k0
        obtain ⟨n4, e4, _, _⟩ := DataW.trod_int Try.underlying3 k1
        cases e0; cases e1; cases e2; cases e3; cases e4
        refine ⟨⟨n0, n1, n2, n3, n4⟩, rfl, ?_⟩
        simp only [Lit.wf, Bool.and_eq_true, decide_eq_true_eq] at wf2
        have h1 : IntKind.u64.min = 0 := rfl
        have h2 : IntKind.u64.max = 18446744073709551615 := rfl
        simp only [OpD.Wf]
        omega
/-- a slice of ops -/
theorem open_ops {H : Type} {enc : TypeId × Value → H} {W : World} {spare : Nat → Bool} {held : Bool} {A : Option Addr} {len cap : Nat} {d : DataW H} {ps : List MemPlace} (h : DataW.Trod enc Try.prog W 0 spare held 23 (.slice A len cap) d ps) :
    ∃ ops : List OpD, OpsAt W A ops ∧ ops.length = len ∧ len ≤ cap ∧ len ≤ 9223372036854775807 ∧ ∀ o ∈ ops, o.Wf := by
  have c40 : Try.prog.cellsOf 40 = 5 := by kernel_rfl
  obtain ⟨fuel, hf⟩ := h
  rcases open_slice Try.underlying23 hf with ⟨hcs, _⟩ | ⟨a, l, c, m, n, D, Pl, hcs, _, hl, hm, hmm, _, hx⟩
  · simp [Value.cells] at hcs
    obtain ⟨rfl, rfl, rfl⟩ := hcs
    exact ⟨[], SlAt.nil _ _ _, rfl, Nat.le_refl _, by omega, by simp⟩
  · simp [Value.cells] at hcs
    obtain ⟨rfl, rfl, rfl⟩ := hcs
    have hlm : len ≤ m := by rw [hmm]; split <;> omega
    have each : ∀ i, i < len → ∃ o : OpD, o.Wf ∧ ∀ j v, (opCells o)[j]? = some v → W.cell? ((a.add (i * 5)).add j) = some v := by
      intro i hi
      obtain ⟨cs', h1, h2⟩ := hx i (by omega)
      rw [c40] at h1
      obtain ⟨_, hlen, hcell⟩ := World.cells?_some h1
      obtain ⟨o, rfl, ho⟩ := open_op h2
      refine ⟨o, ho, fun j v hj => ?_⟩
      rw [hcell j (by have := (List.getElem?_eq_some_iff.1 hj).1; simpa [opCells] using this), hj]
    have : Inhabited OpD := ⟨⟨0, 0, 0, 0, 0⟩⟩
    obtain ⟨f, hF⟩ := choose_lt each
    refine ⟨(List.range len).map f, ?_, by simp, hl, by simp only [maxLen] at hm; omega, ?_⟩
    · intro i cs hi
      rw [List.getElem?_map, List.getElem?_map] at hi
      by_cases hil : i < len
      · rw [List.getElem?_range hil] at hi
        have : opCells (f i) = cs := by simpa using hi
        subst this
        obtain ⟨hwf, hc⟩ := hF i hil
        refine ⟨rfl, ?_⟩
        have hc0 := (hF 0 (by omega)).2 0 _ rfl
        obtain ⟨b, off, spot⟩ := a
        have hspot : spot = none := by simpa [Addr.add] using World.cell?_spot hc0
        subst hspot
        refine ⟨b, off, rfl, fun j v hj => ?_⟩
        have := hc j v hj
        rw [add_add, add_plain] at this
        exact this
      · rw [List.getElem?_eq_none (by simpa using Nat.le_of_not_lt hil)] at hi
        cases hi
    · intro o ho
      obtain ⟨i, hi, rfl⟩ := List.mem_map.1 ho
      exact (hF i (List.mem_range.1 hi)).1
end Go.Proofs.Ytghoeecgmhcplaa
