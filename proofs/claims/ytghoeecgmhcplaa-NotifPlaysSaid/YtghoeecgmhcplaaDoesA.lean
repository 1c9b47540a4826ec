/- Walk through fairleadlaw21.does (Add, Send, Ended, Drop, the others). Printed by wip/tools/gen_does.py. -/
import Derived.Test.YtghoeecgmhcplaaPair
import Derived.BigQuiet
import Derived.Deep.QuietTactic
set_option linter.unusedVariables false
set_option linter.unusedSimpArgs false
namespace Go.Proofs.Ytghoeecgmhcplaa
open Go Go.RowKit Go.FL

set_option maxRecDepth 100000 in
set_option maxHeartbeats 3200000 in
theorem does_add0 {w0 w : World} {a mb r : Nat} {bs : List (Nat × Array Value × TypeId)} {T : Tab} (h : PS w0 a mb r bs T T w) (n id ok ov : Int) :
    Calls Try.prog 18 #[.pointer (some ⟨a, 0, none⟩), .pointer (some ⟨r, 0, none⟩), .agg #[.int .i64 0, .int .i64 n, .int .u64 id, .int .i64 ok, .int .i64 ov]] w fun e w' => e = .returned (.bool true) ∧ PS w0 a mb r bs (T.add n).1 (T.add n).1 w' := by
  have h0 := h.push #[.int .i64 0, .int .i64 n, .int .u64 id, .int .i64 ok, .int .i64 ov] 40
  have c1 := tadd_ps h0 n
  have c2 := fun w1 (h1 : PS w0 a mb r ((w.heap.size, #[.int .i64 0, .int .i64 n, .int .u64 id, .int .i64 ok, .int .i64 ov], 40) :: bs) (T.add n).1 T w1) => radd_ps h1 n
  generalize T.add n = q at c1 c2 ⊢
  clear h h0
  go_enter Try.func18, Try.ntmps18
  go_wp2_with (first
    | (go_at_call 20; refine c1.mono ?_; clear c1; rintro e1 w1 ⟨rfl, h1⟩; have hb1 := h1.kept (x := (w.heap.size, _, _)) (List.mem_cons_self ..); have hc1 := cells_of hb1; have hl1 := lt_of_heap hb1)
    | (go_at_call 28; refine (c2 _ h1).mono ?_; clear c2; rintro e2 w2 ⟨rfl, h2⟩))
  go_ret
  exact ⟨by simp, h2.less (fun x hx => List.mem_cons_of_mem _ hx)⟩

set_option maxRecDepth 100000 in
set_option maxHeartbeats 3200000 in
theorem does_add1 {w0 w : World} {a mb r : Nat} {bs : List (Nat × Array Value × TypeId)} {T : Tab} (h : PS w0 a mb r bs T T w) (n id ok ov : Int) :
    Calls Try.prog 18 #[.pointer (some ⟨a, 0, none⟩), .pointer (some ⟨r, 0, none⟩), .agg #[.int .i64 1, .int .i64 n, .int .u64 id, .int .i64 ok, .int .i64 ov]] w fun e w' => e = .returned (.bool true) ∧ PS w0 a mb r bs (T.add n).1 (T.add n).1 w' := by
  have h0 := h.push #[.int .i64 1, .int .i64 n, .int .u64 id, .int .i64 ok, .int .i64 ov] 40
  have c1 := tadd_ps h0 n
  have c2 := fun w1 (h1 : PS w0 a mb r ((w.heap.size, #[.int .i64 1, .int .i64 n, .int .u64 id, .int .i64 ok, .int .i64 ov], 40) :: bs) (T.add n).1 T w1) => radd_ps h1 n
  generalize T.add n = q at c1 c2 ⊢
  clear h h0
  go_enter Try.func18, Try.ntmps18
  go_wp2_with (first
    | (go_at_call 20; refine c1.mono ?_; clear c1; rintro e1 w1 ⟨rfl, h1⟩; have hb1 := h1.kept (x := (w.heap.size, _, _)) (List.mem_cons_self ..); have hc1 := cells_of hb1; have hl1 := lt_of_heap hb1)
    | (go_at_call 28; refine (c2 _ h1).mono ?_; clear c2; rintro e2 w2 ⟨rfl, h2⟩))
  go_ret
  exact ⟨by simp, h2.less (fun x hx => List.mem_cons_of_mem _ hx)⟩

set_option maxRecDepth 100000 in
set_option maxHeartbeats 3200000 in
theorem does_drop {w0 w : World} {a mb r : Nat} {bs : List (Nat × Array Value × TypeId)} {T : Tab} (h : PS w0 a mb r bs T T w) (n id ok ov : Int) :
    Calls Try.prog 18 #[.pointer (some ⟨a, 0, none⟩), .pointer (some ⟨r, 0, none⟩), .agg #[.int .i64 8, .int .i64 n, .int .u64 id, .int .i64 ok, .int .i64 ov]] w fun e w' => e = .returned (.bool true) ∧ PS w0 a mb r bs T.drop T.drop w' := by
  have h0 := h.push #[.int .i64 8, .int .i64 n, .int .u64 id, .int .i64 ok, .int .i64 ov] 40
  have c1 := tdrop_ps h0
  have c2 := fun w1 (h1 : PS w0 a mb r ((w.heap.size, #[.int .i64 8, .int .i64 n, .int .u64 id, .int .i64 ok, .int .i64 ov], 40) :: bs) T.drop T w1) => rdrop_ps h1
  generalize T.drop = q at c1 c2 ⊢
  clear h h0
  go_enter Try.func18, Try.ntmps18
  go_wp2_with (first
    | (go_at_call 23; refine c1.mono ?_; clear c1; rintro e1 w1 ⟨rfl, h1⟩; have hb1 := h1.kept (x := (w.heap.size, _, _)) (List.mem_cons_self ..); have hc1 := cells_of hb1; have hl1 := lt_of_heap hb1)
    | (go_at_call 35; refine (c2 _ h1).mono ?_; clear c2; rintro e2 w2 ⟨rfl, h2⟩))
  go_ret
  exact ⟨by simp, h2.less (fun x hx => List.mem_cons_of_mem _ hx)⟩

set_option maxRecDepth 100000 in
set_option maxHeartbeats 3200000 in
theorem does_send2_none {w0 w : World} {a mb r : Nat} {bs : List (Nat × Array Value × TypeId)} {T : Tab} (h : PS w0 a mb r bs T T w) (n id ok ov : Int) (hq : T.send.2 = none) :
    Calls Try.prog 18 #[.pointer (some ⟨a, 0, none⟩), .pointer (some ⟨r, 0, none⟩), .agg #[.int .i64 2, .int .i64 n, .int .u64 id, .int .i64 ok, .int .i64 ov]] w fun e w' => e = .returned (.bool true) ∧ PS w0 a mb r bs T.send.1 T.send.1 w' := by
  have h0 := h.push #[.int .i64 2, .int .i64 n, .int .u64 id, .int .i64 ok, .int .i64 ov] 40
  have c1 : Calls Try.prog 21 #[.pointer (some ⟨a, 0, none⟩)] (w.alloc (.cells #[.int .i64 2, .int .i64 n, .int .u64 id, .int .i64 ok, .int .i64 ov] 40)) fun e w' => e = .returned (.tuple #[.agg #[.int .u64 0, .int .i64 0, .int .i64 0, .int .i64 0, .int .i64 0, .int .i64 0], .bool false]) ∧ PS w0 a mb r ((w.heap.size, #[.int .i64 2, .int .i64 n, .int .u64 id, .int .i64 ok, .int .i64 ov], 40) :: bs) T.send.1 T w' := by have := tsend_ps h0; rw [hq] at this; exact this
  have c2 : ∀ (bs' : List (Nat × Array Value × TypeId)) w1, PS w0 a mb r bs' T.send.1 T w1 → Calls Try.prog 29 #[.pointer (some ⟨r, 0, none⟩)] w1 fun e w' => e = .returned (.tuple #[.agg #[.int .u64 0, .int .i64 0, .int .i64 0, .int .i64 0, .int .i64 0, .int .i64 0], .bool false]) ∧ PS w0 a mb r bs' T.send.1 T.send.1 w' := fun bs' w1 h1 => by have := rsend_ps h1; rw [hq] at this; exact this
  clear hq h h0
  generalize T.send.1 = T2 at c1 c2 ⊢
  go_enter Try.func18, Try.ntmps18
  go_wp2_with (first
    | (go_at_call 21; refine c1.mono ?_; clear c1; rintro e1 w1 ⟨rfl, h1⟩; have hb1 := h1.kept (x := (w.heap.size, _, _)) (List.mem_cons_self ..); have hc1 := cells_of hb1; have hl1 := lt_of_heap hb1)
    | (go_at_call 29; refine (c2 _ _ (h1.push #[.int .u64 0, .int .i64 0, .int .i64 0, .int .i64 0, .int .i64 0, .int .i64 0] 36)).mono ?_; clear c2; rintro e2 w2 ⟨rfl, h2⟩; have hb2 := h2.kept (x := (w1.heap.size, _, _)) (List.mem_cons_self ..); have hc2 := cells_of hb2; have hl2 := lt_of_heap hb2))
  go_ret
  exact ⟨by simp, (h2.alloc _).less (fun x hx => List.mem_cons_of_mem _ (List.mem_cons_of_mem _ hx))⟩

set_option maxRecDepth 100000 in
set_option maxHeartbeats 3200000 in
theorem does_send2_some {w0 w : World} {a mb r : Nat} {bs : List (Nat × Array Value × TypeId)} {T : Tab} (h : PS w0 a mb r bs T T w) (n id ok ov : Int) (x : Ent) (hq : T.send.2 = some x) :
    Calls Try.prog 18 #[.pointer (some ⟨a, 0, none⟩), .pointer (some ⟨r, 0, none⟩), .agg #[.int .i64 2, .int .i64 n, .int .u64 id, .int .i64 ok, .int .i64 ov]] w fun e w' => e = .returned (.bool true) ∧ PS w0 a mb r bs T.send.1 T.send.1 w' := by
  have h0 := h.push #[.int .i64 2, .int .i64 n, .int .u64 id, .int .i64 ok, .int .i64 ov] 40
  have c1 : Calls Try.prog 21 #[.pointer (some ⟨a, 0, none⟩)] (w.alloc (.cells #[.int .i64 2, .int .i64 n, .int .u64 id, .int .i64 ok, .int .i64 ov] 40)) fun e w' => e = .returned (.tuple #[.agg #[.int .u64 x.id, .int .i64 x.task, .int .i64 x.state, .int .i64 x.left, .int .i64 x.ok, .int .i64 x.ov], .bool true]) ∧ PS w0 a mb r ((w.heap.size, #[.int .i64 2, .int .i64 n, .int .u64 id, .int .i64 ok, .int .i64 ov], 40) :: bs) T.send.1 T w' := by have := tsend_ps h0; rw [hq] at this; exact this
  have c2 : ∀ (bs' : List (Nat × Array Value × TypeId)) w1, PS w0 a mb r bs' T.send.1 T w1 → Calls Try.prog 29 #[.pointer (some ⟨r, 0, none⟩)] w1 fun e w' => e = .returned (.tuple #[.agg #[.int .u64 x.id, .int .i64 x.task, .int .i64 x.state, .int .i64 x.left, .int .i64 x.ok, .int .i64 x.ov], .bool true]) ∧ PS w0 a mb r bs' T.send.1 T.send.1 w' := fun bs' w1 h1 => by have := rsend_ps h1; rw [hq] at this; exact this
  clear hq h h0
  generalize T.send.1 = T2 at c1 c2 ⊢
  go_enter Try.func18, Try.ntmps18
  go_wp2_with (first
    | (go_at_call 21; refine c1.mono ?_; clear c1; rintro e1 w1 ⟨rfl, h1⟩; have hb1 := h1.kept (x := (w.heap.size, _, _)) (List.mem_cons_self ..); have hc1 := cells_of hb1; have hl1 := lt_of_heap hb1)
    | (go_at_call 29; refine (c2 _ _ (h1.push #[.int .u64 x.id, .int .i64 x.task, .int .i64 x.state, .int .i64 x.left, .int .i64 x.ok, .int .i64 x.ov] 36)).mono ?_; clear c2; rintro e2 w2 ⟨rfl, h2⟩; have hb2 := h2.kept (x := (w1.heap.size, _, _)) (List.mem_cons_self ..); have hc2 := cells_of hb2; have hl2 := lt_of_heap hb2))
  go_ret
  exact ⟨by simp, (h2.alloc _).less (fun x hx => List.mem_cons_of_mem _ (List.mem_cons_of_mem _ hx))⟩

set_option maxRecDepth 100000 in
set_option maxHeartbeats 3200000 in
theorem does_send3_none {w0 w : World} {a mb r : Nat} {bs : List (Nat × Array Value × TypeId)} {T : Tab} (h : PS w0 a mb r bs T T w) (n id ok ov : Int) (hq : T.send.2 = none) :
    Calls Try.prog 18 #[.pointer (some ⟨a, 0, none⟩), .pointer (some ⟨r, 0, none⟩), .agg #[.int .i64 3, .int .i64 n, .int .u64 id, .int .i64 ok, .int .i64 ov]] w fun e w' => e = .returned (.bool true) ∧ PS w0 a mb r bs T.send.1 T.send.1 w' := by
  have h0 := h.push #[.int .i64 3, .int .i64 n, .int .u64 id, .int .i64 ok, .int .i64 ov] 40
  have c1 : Calls Try.prog 21 #[.pointer (some ⟨a, 0, none⟩)] (w.alloc (.cells #[.int .i64 3, .int .i64 n, .int .u64 id, .int .i64 ok, .int .i64 ov] 40)) fun e w' => e = .returned (.tuple #[.agg #[.int .u64 0, .int .i64 0, .int .i64 0, .int .i64 0, .int .i64 0, .int .i64 0], .bool false]) ∧ PS w0 a mb r ((w.heap.size, #[.int .i64 3, .int .i64 n, .int .u64 id, .int .i64 ok, .int .i64 ov], 40) :: bs) T.send.1 T w' := by have := tsend_ps h0; rw [hq] at this; exact this
  have c2 : ∀ (bs' : List (Nat × Array Value × TypeId)) w1, PS w0 a mb r bs' T.send.1 T w1 → Calls Try.prog 29 #[.pointer (some ⟨r, 0, none⟩)] w1 fun e w' => e = .returned (.tuple #[.agg #[.int .u64 0, .int .i64 0, .int .i64 0, .int .i64 0, .int .i64 0, .int .i64 0], .bool false]) ∧ PS w0 a mb r bs' T.send.1 T.send.1 w' := fun bs' w1 h1 => by have := rsend_ps h1; rw [hq] at this; exact this
  clear hq h h0
  generalize T.send.1 = T2 at c1 c2 ⊢
  go_enter Try.func18, Try.ntmps18
  go_wp2_with (first
    | (go_at_call 21; refine c1.mono ?_; clear c1; rintro e1 w1 ⟨rfl, h1⟩; have hb1 := h1.kept (x := (w.heap.size, _, _)) (List.mem_cons_self ..); have hc1 := cells_of hb1; have hl1 := lt_of_heap hb1)
    | (go_at_call 29; refine (c2 _ _ (h1.push #[.int .u64 0, .int .i64 0, .int .i64 0, .int .i64 0, .int .i64 0, .int .i64 0] 36)).mono ?_; clear c2; rintro e2 w2 ⟨rfl, h2⟩; have hb2 := h2.kept (x := (w1.heap.size, _, _)) (List.mem_cons_self ..); have hc2 := cells_of hb2; have hl2 := lt_of_heap hb2))
  go_ret
  exact ⟨by simp, (h2.alloc _).less (fun x hx => List.mem_cons_of_mem _ (List.mem_cons_of_mem _ hx))⟩

set_option maxRecDepth 100000 in
set_option maxHeartbeats 3200000 in
theorem does_send3_some {w0 w : World} {a mb r : Nat} {bs : List (Nat × Array Value × TypeId)} {T : Tab} (h : PS w0 a mb r bs T T w) (n id ok ov : Int) (x : Ent) (hq : T.send.2 = some x) :
    Calls Try.prog 18 #[.pointer (some ⟨a, 0, none⟩), .pointer (some ⟨r, 0, none⟩), .agg #[.int .i64 3, .int .i64 n, .int .u64 id, .int .i64 ok, .int .i64 ov]] w fun e w' => e = .returned (.bool true) ∧ PS w0 a mb r bs T.send.1 T.send.1 w' := by
  have h0 := h.push #[.int .i64 3, .int .i64 n, .int .u64 id, .int .i64 ok, .int .i64 ov] 40
  have c1 : Calls Try.prog 21 #[.pointer (some ⟨a, 0, none⟩)] (w.alloc (.cells #[.int .i64 3, .int .i64 n, .int .u64 id, .int .i64 ok, .int .i64 ov] 40)) fun e w' => e = .returned (.tuple #[.agg #[.int .u64 x.id, .int .i64 x.task, .int .i64 x.state, .int .i64 x.left, .int .i64 x.ok, .int .i64 x.ov], .bool true]) ∧ PS w0 a mb r ((w.heap.size, #[.int .i64 3, .int .i64 n, .int .u64 id, .int .i64 ok, .int .i64 ov], 40) :: bs) T.send.1 T w' := by have := tsend_ps h0; rw [hq] at this; exact this
  have c2 : ∀ (bs' : List (Nat × Array Value × TypeId)) w1, PS w0 a mb r bs' T.send.1 T w1 → Calls Try.prog 29 #[.pointer (some ⟨r, 0, none⟩)] w1 fun e w' => e = .returned (.tuple #[.agg #[.int .u64 x.id, .int .i64 x.task, .int .i64 x.state, .int .i64 x.left, .int .i64 x.ok, .int .i64 x.ov], .bool true]) ∧ PS w0 a mb r bs' T.send.1 T.send.1 w' := fun bs' w1 h1 => by have := rsend_ps h1; rw [hq] at this; exact this
  clear hq h h0
  generalize T.send.1 = T2 at c1 c2 ⊢
  go_enter Try.func18, Try.ntmps18
  go_wp2_with (first
    | (go_at_call 21; refine c1.mono ?_; clear c1; rintro e1 w1 ⟨rfl, h1⟩; have hb1 := h1.kept (x := (w.heap.size, _, _)) (List.mem_cons_self ..); have hc1 := cells_of hb1; have hl1 := lt_of_heap hb1)
    | (go_at_call 29; refine (c2 _ _ (h1.push #[.int .u64 x.id, .int .i64 x.task, .int .i64 x.state, .int .i64 x.left, .int .i64 x.ok, .int .i64 x.ov] 36)).mono ?_; clear c2; rintro e2 w2 ⟨rfl, h2⟩; have hb2 := h2.kept (x := (w1.heap.size, _, _)) (List.mem_cons_self ..); have hc2 := cells_of hb2; have hl2 := lt_of_heap hb2))
  go_ret
  exact ⟨by simp, (h2.alloc _).less (fun x hx => List.mem_cons_of_mem _ (List.mem_cons_of_mem _ hx))⟩

set_option maxRecDepth 100000 in
set_option maxHeartbeats 3200000 in
theorem does_ended_none {w0 w : World} {a mb r : Nat} {bs : List (Nat × Array Value × TypeId)} {T : Tab} (h : PS w0 a mb r bs T T w) (n id ok ov : Int) (hq : (T.ended n).2 = none) :
    Calls Try.prog 18 #[.pointer (some ⟨a, 0, none⟩), .pointer (some ⟨r, 0, none⟩), .agg #[.int .i64 9, .int .i64 n, .int .u64 id, .int .i64 ok, .int .i64 ov]] w fun e w' => e = .returned (.bool true) ∧ PS w0 a mb r bs (T.ended n).1 (T.ended n).1 w' := by
  have h0 := h.push #[.int .i64 9, .int .i64 n, .int .u64 id, .int .i64 ok, .int .i64 ov] 40
  have c1 : Calls Try.prog 11 #[.pointer (some ⟨a, 0, none⟩), .int .i64 n] (w.alloc (.cells #[.int .i64 9, .int .i64 n, .int .u64 id, .int .i64 ok, .int .i64 ov] 40)) fun e w' => e = .returned (.tuple #[.agg #[.int .u64 0, .int .i64 0, .int .i64 0, .int .i64 0, .int .i64 0, .int .i64 0], .bool false]) ∧ PS w0 a mb r ((w.heap.size, #[.int .i64 9, .int .i64 n, .int .u64 id, .int .i64 ok, .int .i64 ov], 40) :: bs) (T.ended n).1 T w' := by have := tended_ps h0 n; rw [hq] at this; exact this
  have c2 : ∀ (bs' : List (Nat × Array Value × TypeId)) w1, PS w0 a mb r bs' (T.ended n).1 T w1 → Calls Try.prog 36 #[.pointer (some ⟨r, 0, none⟩), .int .i64 n] w1 fun e w' => e = .returned (.tuple #[.agg #[.int .u64 0, .int .i64 0, .int .i64 0, .int .i64 0, .int .i64 0, .int .i64 0], .bool false]) ∧ PS w0 a mb r bs' (T.ended n).1 (T.ended n).1 w' := fun bs' w1 h1 => by have := rended_ps h1 n; rw [hq] at this; exact this
  clear hq h h0
  generalize (T.ended n).1 = T2 at c1 c2 ⊢
  go_enter Try.func18, Try.ntmps18
  go_wp2_with (first
    | (go_at_call 11; refine c1.mono ?_; clear c1; rintro e1 w1 ⟨rfl, h1⟩; have hb1 := h1.kept (x := (w.heap.size, _, _)) (List.mem_cons_self ..); have hc1 := cells_of hb1; have hl1 := lt_of_heap hb1)
    | (go_at_call 36; refine (c2 _ _ (h1.push #[.int .u64 0, .int .i64 0, .int .i64 0, .int .i64 0, .int .i64 0, .int .i64 0] 36)).mono ?_; clear c2; rintro e2 w2 ⟨rfl, h2⟩; have hb2 := h2.kept (x := (w1.heap.size, _, _)) (List.mem_cons_self ..); have hc2 := cells_of hb2; have hl2 := lt_of_heap hb2))
  go_ret
  exact ⟨by simp, (h2.alloc _).less (fun x hx => List.mem_cons_of_mem _ (List.mem_cons_of_mem _ hx))⟩

set_option maxRecDepth 100000 in
set_option maxHeartbeats 3200000 in
theorem does_ended_some {w0 w : World} {a mb r : Nat} {bs : List (Nat × Array Value × TypeId)} {T : Tab} (h : PS w0 a mb r bs T T w) (n id ok ov : Int) (x : Ent) (hq : (T.ended n).2 = some x) :
    Calls Try.prog 18 #[.pointer (some ⟨a, 0, none⟩), .pointer (some ⟨r, 0, none⟩), .agg #[.int .i64 9, .int .i64 n, .int .u64 id, .int .i64 ok, .int .i64 ov]] w fun e w' => e = .returned (.bool true) ∧ PS w0 a mb r bs (T.ended n).1 (T.ended n).1 w' := by
  have h0 := h.push #[.int .i64 9, .int .i64 n, .int .u64 id, .int .i64 ok, .int .i64 ov] 40
  have c1 : Calls Try.prog 11 #[.pointer (some ⟨a, 0, none⟩), .int .i64 n] (w.alloc (.cells #[.int .i64 9, .int .i64 n, .int .u64 id, .int .i64 ok, .int .i64 ov] 40)) fun e w' => e = .returned (.tuple #[.agg #[.int .u64 x.id, .int .i64 x.task, .int .i64 x.state, .int .i64 x.left, .int .i64 x.ok, .int .i64 x.ov], .bool true]) ∧ PS w0 a mb r ((w.heap.size, #[.int .i64 9, .int .i64 n, .int .u64 id, .int .i64 ok, .int .i64 ov], 40) :: bs) (T.ended n).1 T w' := by have := tended_ps h0 n; rw [hq] at this; exact this
  have c2 : ∀ (bs' : List (Nat × Array Value × TypeId)) w1, PS w0 a mb r bs' (T.ended n).1 T w1 → Calls Try.prog 36 #[.pointer (some ⟨r, 0, none⟩), .int .i64 n] w1 fun e w' => e = .returned (.tuple #[.agg #[.int .u64 x.id, .int .i64 x.task, .int .i64 x.state, .int .i64 x.left, .int .i64 x.ok, .int .i64 x.ov], .bool true]) ∧ PS w0 a mb r bs' (T.ended n).1 (T.ended n).1 w' := fun bs' w1 h1 => by have := rended_ps h1 n; rw [hq] at this; exact this
  clear hq h h0
  generalize (T.ended n).1 = T2 at c1 c2 ⊢
  go_enter Try.func18, Try.ntmps18
  go_wp2_with (first
    | (go_at_call 11; refine c1.mono ?_; clear c1; rintro e1 w1 ⟨rfl, h1⟩; have hb1 := h1.kept (x := (w.heap.size, _, _)) (List.mem_cons_self ..); have hc1 := cells_of hb1; have hl1 := lt_of_heap hb1)
    | (go_at_call 36; refine (c2 _ _ (h1.push #[.int .u64 x.id, .int .i64 x.task, .int .i64 x.state, .int .i64 x.left, .int .i64 x.ok, .int .i64 x.ov] 36)).mono ?_; clear c2; rintro e2 w2 ⟨rfl, h2⟩; have hb2 := h2.kept (x := (w1.heap.size, _, _)) (List.mem_cons_self ..); have hc2 := cells_of hb2; have hl2 := lt_of_heap hb2))
  go_ret
  exact ⟨by simp, (h2.alloc _).less (fun x hx => List.mem_cons_of_mem _ (List.mem_cons_of_mem _ hx))⟩

set_option maxRecDepth 100000 in
set_option maxHeartbeats 3200000 in
theorem does_else {w0 w : World} {a mb r : Nat} {bs : List (Nat × Array Value × TypeId)} {T : Tab} (h : PS w0 a mb r bs T T w) (d n id ok ov : Int) (hd : d < 0 ∨ 10 < d) :
    Calls Try.prog 18 #[.pointer (some ⟨a, 0, none⟩), .pointer (some ⟨r, 0, none⟩), .agg #[.int .i64 d, .int .i64 n, .int .u64 id, .int .i64 ok, .int .i64 ov]] w fun e w' => e = .returned (.bool true) ∧ PS w0 a mb r bs T T w' := by
  have h0 := h.push #[.int .i64 d, .int .i64 n, .int .u64 id, .int .i64 ok, .int .i64 ov] 40
  have e0 : (d == 0) = false := by simp; omega
  have e1 : (d == 1) = false := by simp; omega
  have e2 : (d == 2) = false := by simp; omega
  have e3 : (d == 3) = false := by simp; omega
  have e4 : (d == 4) = false := by simp; omega
  have e5 : (d == 5) = false := by simp; omega
  have e6 : (d == 6) = false := by simp; omega
  have e7 : (d == 7) = false := by simp; omega
  have e8 : (d == 8) = false := by simp; omega
  have e9 : (d == 9) = false := by simp; omega
  have e10 : (d == 10) = false := by simp; omega
  clear hd
  go_enter Try.func18, Try.ntmps18
  go_wp2
  go_ret
  exact ⟨rfl, h0.less (fun x hx => List.mem_cons_of_mem _ hx)⟩

end Go.Proofs.Ytghoeecgmhcplaa
