/- fairleadlaw21.does at any op. -/
import Derived.Test.YtghoeecgmhcplaaDoesA
import Derived.Test.YtghoeecgmhcplaaDoesB
import Derived.Test.YtghoeecgmhcplaaDoesC
import Derived.Test.YtghoeecgmhcplaaDoesD
import Derived.Test.YtghoeecgmhcplaaDoesE
import Derived.Test.YtghoeecgmhcplaaPlay
set_option linter.unusedVariables false
set_option linter.unusedSimpArgs false
namespace Go.Proofs.Ytghoeecgmhcplaa
open Go Go.RowKit Go.FL

theorem does_any {w0 w : World} {a mb r : Nat} {bs : List (Nat × Array Value × TypeId)} {T : Tab} (h : PS w0 a mb r bs T T w) (o : OpD) (ho : o.Wf) :
    Calls Try.prog 18 #[.pointer (some ⟨a, 0, none⟩), .pointer (some ⟨r, 0, none⟩), .agg #[.int .i64 o.do_, .int .i64 o.n, .int .u64 o.id, .int .i64 o.ok, .int .i64 o.ov]] w fun e w' => e = .returned (.bool true) ∧ PS w0 a mb r bs (T.op o) (T.op o) w' := by
  obtain ⟨d, n, id, ok, ov⟩ := o
  dsimp only
  by_cases e0 : d = 0
  · subst e0; exact does_add0 h n id ok ov
  by_cases e1 : d = 1
  · subst e1; exact does_add1 h n id ok ov
  by_cases e2 : d = 2
  · subst e2
    cases hq : T.send.2 with
    | none => exact does_send2_none h n id ok ov hq
    | some x => exact does_send2_some h n id ok ov x hq
  by_cases e3 : d = 3
  · subst e3
    cases hq : T.send.2 with
    | none => exact does_send3_none h n id ok ov hq
    | some x => exact does_send3_some h n id ok ov x hq
  by_cases e4 : d = 4
  · subst e4; exact does_reply h n id ok ov
  by_cases e5 : d = 5
  · subst e5; exact does_kill h n id ok ov
  by_cases e6 : d = 6
  · subst e6; exact does_tick h n id ok ov
  by_cases e7 : d = 7
  · subst e7; exact does_rise h n id ok ov ho.1 ho.2
  by_cases e8 : d = 8
  · subst e8; exact does_drop h n id ok ov
  by_cases e9 : d = 9
  · subst e9
    cases hq : (T.ended n).2 with
    | none => exact does_ended_none h n id ok ov hq
    | some x => exact does_ended_some h n id ok ov x hq
  have hop : T.op ⟨d, n, id, ok, ov⟩ = T := by simp [Tab.op, e0, e1, e2, e3, e4, e5, e6, e7, e8, e9]
  rw [hop]
  by_cases e10 : d = 10
  · subst e10
    cases hq : T.get id with
    | none => exact does_valid_none h n id ok ov hq
    | some x => exact does_valid_some h n id ok ov x hq
  · exact does_else h d n id ok ov (by omega)
end Go.Proofs.Ytghoeecgmhcplaa
