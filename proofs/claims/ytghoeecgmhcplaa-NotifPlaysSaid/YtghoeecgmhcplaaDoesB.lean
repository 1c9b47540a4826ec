/- Walk through fairleadlaw21.does (Kill). Printed by wip/tools/gen_does.py. -/
import Derived.Test.YtghoeecgmhcplaaPair
import Derived.BigQuiet
import Derived.Deep.QuietTactic
import Derived.Deep.RegionHeld3
set_option linter.unusedVariables false
set_option linter.unusedSimpArgs false
namespace Go.Proofs.Ytghoeecgmhcplaa
open Go Go.RowKit Go.FL

set_option maxRecDepth 100000 in
set_option maxHeartbeats 3200000 in
theorem does_kill {w0 w : World} {a mb r : Nat} {bs : List (Nat × Array Value × TypeId)} {T : Tab} (h : PS w0 a mb r bs T T w) (n id ok ov : Int) :
    Calls Try.prog 18 #[.pointer (some ⟨a, 0, none⟩), .pointer (some ⟨r, 0, none⟩), .agg #[.int .i64 5, .int .i64 n, .int .u64 id, .int .i64 ok, .int .i64 ov]] w fun e w' => e = .returned (.bool true) ∧ PS w0 a mb r bs (T.kill n).1 (T.kill n).1 w' := by
  have h0 := h.push #[.int .i64 5, .int .i64 n, .int .u64 id, .int .i64 ok, .int .i64 ov] 40
  have c1 := fun w1 (h1 : PS w0 a mb r ((w.heap.size, #[.int .i64 5, .int .i64 n, .int .u64 id, .int .i64 ok, .int .i64 ov], 40) :: bs) T T w1) => tkill_ps h1 n
  have c2 := fun w1 (h1 : PS w0 a mb r ((w.heap.size, #[.int .i64 5, .int .i64 n, .int .u64 id, .int .i64 ok, .int .i64 ov], 40) :: bs) (T.kill n).1 T w1) => rkill_ps h1 n
  have d1 := fun w1 (h1 : PS w0 a mb r ((w.heap.size, #[.int .i64 5, .int .i64 n, .int .u64 id, .int .i64 ok, .int .i64 ov], 40) :: bs) T T w1) => rkill_ps h1 n
  have d2 := fun w1 (h1 : PS w0 a mb r ((w.heap.size, #[.int .i64 5, .int .i64 n, .int .u64 id, .int .i64 ok, .int .i64 ov], 40) :: bs) T (T.kill n).1 w1) => tkill_ps h1 n
  have h0' : PS w0 a mb r ((w.heap.size, #[.int .i64 5, .int .i64 n, .int .u64 id, .int .i64 ok, .int .i64 ov], 40) :: bs) T T (w.alloc (.cells #[.int .i64 5, .int .i64 n, .int .u64 id, .int .i64 ok, .int .i64 ov] 40)).drew := h0.below (Below.refl _ _).drew
  generalize T.kill n = q at c1 c2 d1 d2 ⊢
  have C1 := Lib.hid c1
  have C2 := Lib.hid c2
  have D1 := Lib.hid d1
  have D2 := Lib.hid d2
  have H0 := Lib.hid h0'
  clear h h0 h0' c1 c2 d1 d2
  go_enter Try.func18, Try.ntmps18
  go_wp2_with fail
  go_region_held3 (fun w' => w'.cell? ⟨w.heap.size, 1, none⟩ = some (.int .i64 n)) (first | go_keep | exact k11 | exact k21)
    (first
      | (go_at_call 22; refine (C1.out _ H0.out).mono ?_; rintro e1 w1 ⟨rfl, h1⟩; have k11 : w1.cell? ⟨w.heap.size, 1, none⟩ = some (.int .i64 n) := (by rw [cell_of (h1.kept (x := (w.heap.size, _, _)) (List.mem_cons_self ..))]; rfl); have H1 := Lib.hid h1; clear h1)
      | (go_at_call 31; refine (C2.out _ H1.out).mono ?_; rintro e2 w2 ⟨rfl, h2⟩; have k21 : w2.cell? ⟨w.heap.size, 1, none⟩ = some (.int .i64 n) := (by rw [cell_of (h2.kept (x := (w.heap.size, _, _)) (List.mem_cons_self ..))]; rfl); have H2 := Lib.hid h2; clear h2)
      | (go_at_call 31; refine (D1.out _ H0.out).mono ?_; rintro e1 w1 ⟨rfl, h1⟩; have k11 : w1.cell? ⟨w.heap.size, 1, none⟩ = some (.int .i64 n) := (by rw [cell_of (h1.kept (x := (w.heap.size, _, _)) (List.mem_cons_self ..))]; rfl); have H1 := Lib.hid h1; clear h1)
      | (go_at_call 22; refine (D2.out _ H1.out).mono ?_; rintro e2 w2 ⟨rfl, h2⟩; have k21 : w2.cell? ⟨w.heap.size, 1, none⟩ = some (.int .i64 n) := (by rw [cell_of (h2.kept (x := (w.heap.size, _, _)) (List.mem_cons_self ..))]; rfl); have H2 := Lib.hid h2; clear h2))
  all_goals
    clear C1 C2 D1 D2
    go_wp2
    go_ret
    exact ⟨by simp, H2.out.less (fun x hx => List.mem_cons_of_mem _ hx)⟩

end Go.Proofs.Ytghoeecgmhcplaa
