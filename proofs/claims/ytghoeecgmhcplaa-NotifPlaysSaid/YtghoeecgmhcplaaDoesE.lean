/- Walk through fairleadlaw21.does (Tick, Valid). -/
import Derived.Test.YtghoeecgmhcplaaPair
import Derived.BigQuiet
import Derived.Deep.QuietTactic
import Derived.Deep.RegionHeld3
set_option linter.unusedVariables false
set_option linter.unusedSimpArgs false
namespace Go.Proofs.Ytghoeecgmhcplaa
open Go Go.RowKit Go.FL

/-- rows of numbers stay -/
def KeepU (w w' : World) : Prop := ∀ base v n xs, w.ownsRow base 29 1 v n xs → w'.ownsRow base 29 1 v n xs
theorem ttick_u {w0 w : World} {a mb r : Nat} {bs : List (Nat × Array Value × TypeId)} {Tt Tr : Tab} (h : PS w0 a mb r bs Tt Tr w) : Calls Try.prog 12 #[.pointer (some ⟨a, 0, none⟩)] w fun e w' => ((∃ v, e = .returned v ∧ w'.ownsRow w.heap.size 29 1 v Tt.late.length (Tt.late.map (Value.int .u64))) ∧ KeepU w w') ∧ PS w0 a mb r bs Tt.tick Tr w' :=
  h.tab h.iT.tick fun R h1 h2 => by
    have := tick_any a mb R w h1
    rw [h2] at this
    exact this.mono fun e w' ⟨hq, hto⟩ => ⟨⟨hq, fun base v n xs ho => own_mod ho hto.2 fun k hk => h1.not_own ho (by decide) (by decide) k hk⟩, hto⟩
theorem rtick_u {w0 w : World} {a mb r : Nat} {bs : List (Nat × Array Value × TypeId)} {Tt Tr : Tab} (h : PS w0 a mb r bs Tt Tr w) : Calls Try.prog 33 #[.pointer (some ⟨r, 0, none⟩)] w fun e w' => ((∃ v, e = .returned v ∧ w'.ownsRow w.heap.size 29 1 v Tr.late.length (Tr.late.map (Value.int .u64))) ∧ KeepU w w') ∧ PS w0 a mb r bs Tt Tr.tick w' :=
  h.ref h.iR.tick fun v0 h1 => by
    refine (rtick_any r v0 Tr w h1 h.iR).mono fun e w' ⟨hq, hto⟩ => ⟨⟨hq, fun base v n xs ho => own_mod ho hto.2 fun k hk hf => ?_⟩, hto⟩
    rcases hf with rfl | hf
    · exact own_ne ho h1.rb (by decide) k hk rfl
    · rcases h1.row.2 with ⟨rfl, _⟩ | ⟨g, cap, cur, rfl, _, hg, _⟩
      · simp [Value.ownBlock] at hf
      · have : g = k := by simpa [Value.ownBlock] using hf
        subst this
        exact own_ne ho hg (by decide) g hk rfl
theorem late_le {T : Tab} (h : T.Inv) : T.late.length ≤ 8 := by
  unfold Tab.late
  rw [List.length_map]
  have := List.length_filter_le (fun x : Ent => x.waits && x.left == 1) T.L
  have := h.len
  have := h.size8
  omega

set_option maxRecDepth 100000 in
set_option maxHeartbeats 3200000 in
theorem does_tick {w0 w : World} {a mb r : Nat} {bs : List (Nat × Array Value × TypeId)} {T : Tab} (h : PS w0 a mb r bs T T w) (n id ok ov : Int) :
    Calls Try.prog 18 #[.pointer (some ⟨a, 0, none⟩), .pointer (some ⟨r, 0, none⟩), .agg #[.int .i64 6, .int .i64 n, .int .u64 id, .int .i64 ok, .int .i64 ov]] w fun e w' => e = .returned (.bool true) ∧ PS w0 a mb r bs T.tick T.tick w' := by
  have c1 := fun w1 (h1 : PS w0 a mb r bs T T w1) => ttick_u h1
  have c2 := fun w1 (h1 : PS w0 a mb r bs T.tick T w1) => rtick_u h1
  have d1 := fun w1 (h1 : PS w0 a mb r bs T T w1) => rtick_u h1
  have d2 := fun w1 (h1 : PS w0 a mb r bs T T.tick w1) => ttick_u h1
  have h0' : PS w0 a mb r bs T T (w.alloc (.cells #[.int .i64 6, .int .i64 n, .int .u64 id, .int .i64 ok, .int .i64 ov] 40)) := h.alloc _
  have hl8 := late_le h.iT
  generalize T.tick = T2 at c1 c2 d1 d2 ⊢
  generalize T.late = l at c1 c2 d1 d2 hl8
  have C1 := Lib.hid c1
  have C2 := Lib.hid c2
  have D1 := Lib.hid d1
  have D2 := Lib.hid d2
  have H0 := Lib.hid h0'
  have HL := Lib.hid hl8
  clear h h0' c1 c2 d1 d2 hl8
  go_enter Try.func18, Try.ntmps18
  go_wp2_with (first
    | (go_at_call 12; refine (C1.out _ H0.out).mono ?_; rintro e1 w1 ⟨⟨⟨v1, rfl, hv1⟩, hu1⟩, h1⟩; have V1 := Lib.hid hv1; have H1 := Lib.hid h1; clear h1 hv1 hu1)
    | (go_at_call 33; refine (C2.out _ H1.out).mono ?_; rintro e2 w2 ⟨⟨⟨v2, rfl, hv2⟩, hu2⟩, h2⟩; have V12 := Lib.hid (hu2 _ _ _ _ V1.out); have V2 := Lib.hid hv2; have H2 := Lib.hid h2; clear h2 hv2 hu2)
    | (go_at_call 33; refine (D1.out _ H0.out).mono ?_; rintro e1 w1 ⟨⟨⟨v1, rfl, hv1⟩, hu1⟩, h1⟩; have V1 := Lib.hid hv1; have H1 := Lib.hid h1; clear h1 hv1 hu1)
    | (go_at_call 12; refine (D2.out _ H1.out).mono ?_; rintro e2 w2 ⟨⟨⟨v2, rfl, hv2⟩, hu2⟩, h2⟩; have V12 := Lib.hid (hu2 _ _ _ _ V1.out); have V2 := Lib.hid hv2; have H2 := Lib.hid h2; clear h2 hv2 hu2)
    | (go_at_call 32; refine (rsame_any v1 v2 l _ _ _ V12.out V2.out HL.out).mono ?_; rintro e3 w3 ⟨rfl, hb3⟩)
    | (go_at_call 32; refine (rsame_any v2 v1 l _ _ _ V2.out V12.out HL.out).mono ?_; rintro e3 w3 ⟨rfl, hb3⟩))
  all_goals
    clear C1 C2 D1 D2
    go_wp2
    go_ret
    exact ⟨rfl, H2.out.below hb3⟩

set_option maxRecDepth 100000 in
set_option maxHeartbeats 3200000 in
theorem does_valid_none {w0 w : World} {a mb r : Nat} {bs : List (Nat × Array Value × TypeId)} {T : Tab} (h : PS w0 a mb r bs T T w) (n id ok ov : Int) (hq : T.get id = none) :
    Calls Try.prog 18 #[.pointer (some ⟨a, 0, none⟩), .pointer (some ⟨r, 0, none⟩), .agg #[.int .i64 10, .int .i64 n, .int .u64 id, .int .i64 ok, .int .i64 ov]] w fun e w' => e = .returned (.bool true) ∧ PS w0 a mb r bs T T w' := by
  have h0 := h.push #[.int .i64 10, .int .i64 n, .int .u64 id, .int .i64 ok, .int .i64 ov] 40
  have c1 : Calls Try.prog 37 #[.pointer (some ⟨r, 0, none⟩), .int .u64 id] (w.alloc (.cells #[.int .i64 10, .int .i64 n, .int .u64 id, .int .i64 ok, .int .i64 ov] 40)) fun e w' => e = .returned (.tuple #[.agg #[.int .u64 0, .int .i64 0, .int .i64 0, .int .i64 0, .int .i64 0, .int .i64 0], .bool false]) ∧ Below (w.alloc (.cells #[.int .i64 10, .int .i64 n, .int .u64 id, .int .i64 ok, .int .i64 ov] 40)).heap.size (w.alloc (.cells #[.int .i64 10, .int .i64 n, .int .u64 id, .int .i64 ok, .int .i64 ov] 40)) w' := by have := rget_ps h0 id; rw [hq] at this; exact this
  have hvf : T.valid id = false := by simp [Tab.valid, hq]
  have H0 := Lib.hid h0
  have HV := Lib.hid hvf
  clear h h0 hq hvf
  go_enter Try.func18, Try.ntmps18
  go_wp2_with (first
    | (go_at_call 37; refine c1.mono ?_; clear c1; rintro e1 w1 ⟨rfl, hb1⟩; have h1 := H0.out.below hb1; have hx1 := h1.kept (x := (w.heap.size, _, _)) (List.mem_cons_self ..); have hc1 := cells_of hx1; have hl1 := lt_of_heap hx1; have H1 := Lib.hid h1; clear h1 hx1)
    | (go_at_call 16; refine (HV.out ▸ tvalid_ps (H1.out.alloc _) id).mono ?_; rintro e2 w2 ⟨rfl, rfl⟩))
  go_ret
  exact ⟨rfl, (H1.out.alloc _).less (fun x hx => List.mem_cons_of_mem _ hx)⟩

set_option maxRecDepth 100000 in
set_option maxHeartbeats 3200000 in
theorem does_valid_some {w0 w : World} {a mb r : Nat} {bs : List (Nat × Array Value × TypeId)} {T : Tab} (h : PS w0 a mb r bs T T w) (n id ok ov : Int) (x : Ent) (hq : T.get id = some x) :
    Calls Try.prog 18 #[.pointer (some ⟨a, 0, none⟩), .pointer (some ⟨r, 0, none⟩), .agg #[.int .i64 10, .int .i64 n, .int .u64 id, .int .i64 ok, .int .i64 ov]] w fun e w' => e = .returned (.bool true) ∧ PS w0 a mb r bs T T w' := by
  have h0 := h.push #[.int .i64 10, .int .i64 n, .int .u64 id, .int .i64 ok, .int .i64 ov] 40
  have c1 : Calls Try.prog 37 #[.pointer (some ⟨r, 0, none⟩), .int .u64 id] (w.alloc (.cells #[.int .i64 10, .int .i64 n, .int .u64 id, .int .i64 ok, .int .i64 ov] 40)) fun e w' => e = .returned (.tuple #[.agg #[.int .u64 x.id, .int .i64 x.task, .int .i64 x.state, .int .i64 x.left, .int .i64 x.ok, .int .i64 x.ov], .bool true]) ∧ Below (w.alloc (.cells #[.int .i64 10, .int .i64 n, .int .u64 id, .int .i64 ok, .int .i64 ov] 40)).heap.size (w.alloc (.cells #[.int .i64 10, .int .i64 n, .int .u64 id, .int .i64 ok, .int .i64 ov] 40)) w' := by have := rget_ps h0 id; rw [hq] at this; exact this
  have hvf : T.valid id = (x.state == 2) := by simp [Tab.valid, hq]
  have H0 := Lib.hid h0
  have HV := Lib.hid hvf
  clear h h0 hq hvf
  go_enter Try.func18, Try.ntmps18
  go_wp2_with (first
    | (go_at_call 37; refine c1.mono ?_; clear c1; rintro e1 w1 ⟨rfl, hb1⟩; have h1 := H0.out.below hb1; have hx1 := h1.kept (x := (w.heap.size, _, _)) (List.mem_cons_self ..); have hc1 := cells_of hx1; have hl1 := lt_of_heap hx1; have H1 := Lib.hid h1; clear h1 hx1)
    | (go_at_call 16; refine (HV.out ▸ tvalid_ps (H1.out.alloc _) id).mono ?_; rintro e2 w2 ⟨rfl, rfl⟩))
  go_ret
  exact ⟨by simp, (H1.out.alloc _).less (fun x hx => List.mem_cons_of_mem _ hx)⟩
end Go.Proofs.Ytghoeecgmhcplaa
