/- Both tables side by side: the program's and the reference's; the calls of each by it. -/
import Derived.Test.YtghoeecgmhcplaaNotifR
import Derived.Test.YtghoeecgmhcplaaRefC
import Derived.Test.YtghoeecgmhcplaaRefD
import Derived.Test.YtghoeecgmhcplaaRefE
import Derived.Test.YtghoeecgmhcplaaRefG
import Derived.Test.YtghoeecgmhcplaaRefN
set_option linter.unusedVariables false
set_option linter.unusedSimpArgs false
namespace Go.Proofs.Ytghoeecgmhcplaa
open Go Go.RowKit Go.FL

/-- both tables, made since w0, apart from each other and from the blocks bs, of which it is known what they hold -/
structure PS (w0 : World) (a mb r : Nat) (bs : List (Nat × Array Value × TypeId)) (Tt Tr : Tab) (w : World) : Prop where
  ex : ∃ (R : RTab) (v : Value), TabAt' w a mb R ∧ R.abs = Tt ∧ RefAt' w r v Tr ∧ (∀ k, R.foot a mb k → ¬ refF r v k) ∧ (∀ k, R.foot a mb k → w0.heap.size ≤ k) ∧ (∀ k, refF r v k → w0.heap.size ≤ k) ∧
    ∀ x ∈ bs, w.heap[x.1]? = some (.cells x.2.1 x.2.2 (0, 0)) ∧ ¬ R.foot a mb x.1 ∧ ¬ refF r v x.1
  bel : Below w0.heap.size w0 w
  iT : Tt.Inv
  iR : Tr.Inv
theorem PS.kept {w0 w : World} {a mb r : Nat} {bs : List (Nat × Array Value × TypeId)} {Tt Tr : Tab} (h : PS w0 a mb r bs Tt Tr w) {x : Nat × Array Value × TypeId} (hx : x ∈ bs) : w.heap[x.1]? = some (.cells x.2.1 x.2.2 (0, 0)) := by
  obtain ⟨R, v, h1, h2, h3, h4, h5, h6, h7⟩ := h.ex
  exact (h7 x hx).1
theorem PS.less {w0 w : World} {a mb r : Nat} {bs bs' : List (Nat × Array Value × TypeId)} {Tt Tr : Tab} (h : PS w0 a mb r bs Tt Tr w) (hb : ∀ x ∈ bs', x ∈ bs) : PS w0 a mb r bs' Tt Tr w := by
  obtain ⟨R, v, h1, h2, h3, h4, h5, h6, h7⟩ := h.ex
  exact ⟨⟨R, v, h1, h2, h3, h4, h5, h6, fun x hx => h7 x (hb x hx)⟩, h.bel, h.iT, h.iR⟩
theorem PS.below {w0 w w' : World} {a mb r : Nat} {bs : List (Nat × Array Value × TypeId)} {Tt Tr : Tab} (h : PS w0 a mb r bs Tt Tr w) (hb : Below w.heap.size w w') : PS w0 a mb r bs Tt Tr w' := by
  obtain ⟨R, v, h1, h2, h3, h4, h5, h6, h7⟩ := h.ex
  exact ⟨⟨R, v, h1.of_below hb (Nat.le_refl _), h2, h3.of_below hb, h4, h5, h6, fun x hx => ⟨(hb.block _ (lt_of_heap (h7 x hx).1)).trans (h7 x hx).1, (h7 x hx).2⟩⟩, h.bel.trans (hb.mono h.bel.size), h.iT, h.iR⟩
theorem PS.alloc {w0 w : World} {a mb r : Nat} {bs : List (Nat × Array Value × TypeId)} {Tt Tr : Tab} (h : PS w0 a mb r bs Tt Tr w) (o : Obj) : PS w0 a mb r bs Tt Tr (w.alloc o) := h.below (below_box _ _)
theorem PS.push {w0 w : World} {a mb r : Nat} {bs : List (Nat × Array Value × TypeId)} {Tt Tr : Tab} (h : PS w0 a mb r bs Tt Tr w) (C : Array Value) (t : TypeId) : PS w0 a mb r ((w.heap.size, C, t) :: bs) Tt Tr (w.alloc (.cells C t)) := by
  have h' := h.alloc (.cells C t)
  obtain ⟨R, v, h1, h2, h3, h4, h5, h6, h7⟩ := h.ex
  refine ⟨⟨R, v, h1.of_below (below_box _ _) (Nat.le_refl _), h2, h3.of_below (below_box _ _), h4, h5, h6, fun x hx => ?_⟩, h'.bel, h.iT, h.iR⟩
  rcases List.mem_cons.1 hx with rfl | hx
  · exact ⟨heap_alloc_new w _, fun hf => Nat.lt_irrefl _ (h1.lt hf), fun hf => Nat.lt_irrefl _ (h3.low hf)⟩
  · exact ⟨(Below.heap_alloc _ _ _ (lt_of_heap (h7 x hx).1)).trans (h7 x hx).1, (h7 x hx).2⟩
theorem PS.len8 {w0 w : World} {a mb r : Nat} {bs : List (Nat × Array Value × TypeId)} {Tt Tr : Tab} (h : PS w0 a mb r bs Tt Tr w) : Tr.L.length ≤ 8 := by have := h.iR.len; have := h.iR.size8; omega
/-- a step of the program's table -/
theorem PS.tab {w0 w : World} {a mb r : Nat} {bs : List (Nat × Array Value × TypeId)} {Tt Tr T' : Tab} (h : PS w0 a mb r bs Tt Tr w) {f : Nat} {args : Array Value} {Q : Ending → World → Prop} (hi : T'.Inv)
    (hc : ∀ R, TabAt' w a mb R → R.abs = Tt → Calls Try.prog f args w fun e w' => Q e w' ∧ TabTo' w a mb R T' w') :
    Calls Try.prog f args w fun e w' => Q e w' ∧ PS w0 a mb r bs T' Tr w' := by
  obtain ⟨R, v, h1, h2, h3, h4, h5, h6, h7⟩ := h.ex
  refine (hc R h1 h2).mono ?_
  rintro e w' ⟨hq, ⟨R', k1, k2, k3⟩, hm⟩
  have hlow : ∀ k, R'.foot a mb k → w0.heap.size ≤ k := fun k hk => by
    rcases k3 k hk with h | h'
    · exact h5 k h
    · exact Nat.le_trans h.bel.size h'
  refine ⟨hq, ⟨R', v, k1, k2, h3.of_mod hm (fun k hk hf => h4 k hf hk), fun k hk hf => ?_, hlow, h6, fun x hx => ?_⟩, h.bel.trans (hm.below h.bel.size h5), hi, h.iR⟩
  · rcases k3 k hk with h' | h'
    · exact h4 k h' hf
    · have := h3.low hf; omega
  · obtain ⟨g1, g2, g3⟩ := h7 x hx
    have hl := lt_of_heap g1
    refine ⟨(hm.block _ hl g2).trans g1, fun hf => ?_, g3⟩
    rcases k3 _ hf with h' | h'
    · exact g2 h'
    · omega
/-- a step of the reference's -/
theorem PS.ref {w0 w : World} {a mb r : Nat} {bs : List (Nat × Array Value × TypeId)} {Tt Tr T' : Tab} (h : PS w0 a mb r bs Tt Tr w) {f : Nat} {args : Array Value} {Q : Ending → World → Prop} (hi : T'.Inv)
    (hc : ∀ v, RefAt' w r v Tr → Calls Try.prog f args w fun e w' => Q e w' ∧ RefTo' w r v T' w') :
    Calls Try.prog f args w fun e w' => Q e w' ∧ PS w0 a mb r bs Tt T' w' := by
  obtain ⟨R, v, h1, h2, h3, h4, h5, h6, h7⟩ := h.ex
  refine (hc v h3).mono ?_
  rintro e w' ⟨hq, ⟨v', k1, k3⟩, hm⟩
  refine ⟨hq, ⟨R, v', h1.of_mod hm (fun k hk hf => h4 k hk hf), h2, k1, fun k hk hf => ?_, h5, fun k hk => ?_, fun x hx => ?_⟩, h.bel.trans (hm.below h.bel.size h6), h.iT, hi⟩
  · rcases hf with rfl | hf
    · exact h4 _ hk (.inl rfl)
    · rcases k3 k hf with h' | h'
      · exact h4 k hk (.inr h')
      · have := h1.lt hk; omega
  · rcases hk with rfl | hk
    · exact h6 _ (.inl rfl)
    · rcases k3 k hk with h' | h'
      · exact h6 k (.inr h')
      · exact Nat.le_trans h.bel.size h'
  · obtain ⟨g1, g2, g3⟩ := h7 x hx
    have hl := lt_of_heap g1
    refine ⟨(hm.block _ hl g3).trans g1, g2, fun hf => ?_⟩
    rcases hf with hf | hf
    · exact g3 (.inl hf)
    · rcases k3 _ hf with h' | h'
      · exact g3 (.inr h')
      · omega
section
variable {w0 w : World} {a mb r : Nat} {bs : List (Nat × Array Value × TypeId)} {Tt Tr : Tab} (h : PS w0 a mb r bs Tt Tr w)
include h
theorem tadd_ps (task : Int) : Calls Try.prog 20 #[.pointer (some ⟨a, 0, none⟩), .int .i64 task] w fun e w' => e = .returned (.tuple #[.int .u64 (Tt.add task).2.1, .int .i64 (Tt.add task).2.2]) ∧ PS w0 a mb r bs (Tt.add task).1 Tr w' :=
  h.tab (h.iT.add task) fun R h1 h2 => by have := add_any a mb R task w h1; rw [h2] at this; exact this
theorem radd_ps (task : Int) : Calls Try.prog 28 #[.pointer (some ⟨r, 0, none⟩), .int .i64 task] w fun e w' => e = .returned (.tuple #[.int .u64 (Tr.add task).2.1, .int .i64 (Tr.add task).2.2]) ∧ PS w0 a mb r bs Tt (Tr.add task).1 w' :=
  h.ref (h.iR.add task) fun v h1 => radd_any r v Tr task w h1 h.iR _ rfl
theorem tsend_ps : Calls Try.prog 21 #[.pointer (some ⟨a, 0, none⟩)] w fun e w' => e = .returned (getOut Tt.send.2) ∧ PS w0 a mb r bs Tt.send.1 Tr w' :=
  h.tab h.iT.send fun R h1 h2 => by have := send_any a mb R w h1; rw [h2] at this; exact this
theorem rsend_ps : Calls Try.prog 29 #[.pointer (some ⟨r, 0, none⟩)] w fun e w' => e = .returned (getOut Tr.send.2) ∧ PS w0 a mb r bs Tt Tr.send.1 w' :=
  h.ref h.iR.send fun v h1 => rsend_any r v Tr w h1 h.len8 h.iR.ids _ rfl
theorem treply_ps (ep id k o : Int) : Calls Try.prog 15 #[.pointer (some ⟨a, 0, none⟩), .int .u64 ep, .int .u64 id, .agg #[.int .i64 k, .int .i64 o]] w fun e w' => e = .returned (.int .i64 (Tt.reply ep id k o).2) ∧ PS w0 a mb r bs (Tt.reply ep id k o).1 Tr w' :=
  h.tab (h.iT.reply ep id k o) fun R h1 h2 => by have := reply_any a mb R ep id k o w h1; rw [h2] at this; exact this
theorem rreply_ps (ep id k o : Int) : Calls Try.prog 30 #[.pointer (some ⟨r, 0, none⟩), .int .u64 ep, .int .u64 id, .agg #[.int .i64 k, .int .i64 o]] w fun e w' => e = .returned (.int .i64 (Tr.reply ep id k o).2) ∧ PS w0 a mb r bs Tt (Tr.reply ep id k o).1 w' :=
  h.ref (h.iR.reply ep id k o) fun v h1 => rreply_any r v Tr ep id k o w h1 h.len8 h.iR.ids _ rfl
theorem tkill_ps (task : Int) : Calls Try.prog 22 #[.pointer (some ⟨a, 0, none⟩), .int .i64 task] w fun e w' => e = .returned (.bool (Tt.kill task).2) ∧ PS w0 a mb r bs (Tt.kill task).1 Tr w' :=
  h.tab (h.iT.kill task) fun R h1 h2 => by have := kill_any a mb R task w h1; rw [h2] at this; exact this
theorem rkill_ps (task : Int) : Calls Try.prog 31 #[.pointer (some ⟨r, 0, none⟩), .int .i64 task] w fun e w' => e = .returned (.bool (Tr.kill task).2) ∧ PS w0 a mb r bs Tt (Tr.kill task).1 w' :=
  h.ref (h.iR.kill task) fun v h1 => rkill_any r v Tr task w h1 h.len8 h.iR.ids _ rfl
theorem tdrop_ps : Calls Try.prog 23 #[.pointer (some ⟨a, 0, none⟩)] w fun e w' => e = .returned (.tuple #[]) ∧ PS w0 a mb r bs Tt.drop Tr w' :=
  h.tab h.iT.drop fun R h1 h2 => by have := drop_any a mb R w h1; rw [h2] at this; exact this
theorem rdrop_ps : Calls Try.prog 35 #[.pointer (some ⟨r, 0, none⟩)] w fun e w' => e = .returned (.tuple #[]) ∧ PS w0 a mb r bs Tt Tr.drop w' :=
  h.ref h.iR.drop fun v h1 => rdrop_any r v Tr w h1 h.len8
theorem trise_ps (ep : Int) (e0 : 0 ≤ ep) (e1 : ep ≤ 18446744073709551615) : Calls Try.prog 14 #[.pointer (some ⟨a, 0, none⟩), .int .u64 ep] w fun e w' => e = .returned (.int .i64 (Tt.rise ep).2) ∧ PS w0 a mb r bs (Tt.rise ep).1 Tr w' :=
  h.tab (h.iT.rise ep e1) fun R h1 h2 => by have := rise_any a mb R ep w h1 e0 e1; rw [h2] at this; exact this
theorem rrise_ps (ep : Int) (e1 : ep ≤ 18446744073709551615) : Calls Try.prog 34 #[.pointer (some ⟨r, 0, none⟩), .int .u64 ep] w fun e w' => e = .returned (.int .i64 (Tr.rise ep).2) ∧ PS w0 a mb r bs Tt (Tr.rise ep).1 w' :=
  h.ref (h.iR.rise ep e1) fun v h1 => rrise_any r v Tr ep w h1 h.len8 _ rfl
theorem tended_ps (task : Int) : Calls Try.prog 11 #[.pointer (some ⟨a, 0, none⟩), .int .i64 task] w fun e w' => e = .returned (getOut (Tt.ended task).2) ∧ PS w0 a mb r bs (Tt.ended task).1 Tr w' :=
  h.tab (h.iT.ended task) fun R h1 h2 => by have := ended_any a mb R task w h1; rw [h2] at this; exact this
theorem rended_ps (task : Int) : Calls Try.prog 36 #[.pointer (some ⟨r, 0, none⟩), .int .i64 task] w fun e w' => e = .returned (getOut (Tr.ended task).2) ∧ PS w0 a mb r bs Tt (Tr.ended task).1 w' :=
  h.ref (h.iR.ended task) fun v h1 => rended_any r v Tr task w h1 h.len8 h.iR.ids h.iR.apart _ rfl
theorem ttick_ps : Calls Try.prog 12 #[.pointer (some ⟨a, 0, none⟩)] w fun e w' => (∃ v, e = .returned v ∧ w'.ownsRow w.heap.size 29 1 v Tt.late.length (Tt.late.map (Value.int .u64))) ∧ PS w0 a mb r bs Tt.tick Tr w' :=
  h.tab h.iT.tick fun R h1 h2 => by have := tick_any a mb R w h1; rw [h2] at this; exact this
theorem rtick_ps : Calls Try.prog 33 #[.pointer (some ⟨r, 0, none⟩)] w fun e w' => (∃ v, e = .returned v ∧ w'.ownsRow w.heap.size 29 1 v Tr.late.length (Tr.late.map (Value.int .u64))) ∧ PS w0 a mb r bs Tt Tr.tick w' :=
  h.ref h.iR.tick fun v h1 => rtick_any r v Tr w h1 h.iR
theorem tget_ps (id : Int) : Calls Try.prog 10 #[.pointer (some ⟨a, 0, none⟩), .int .u64 id] w fun e w' => e = .returned (getOut (Tt.get id)) ∧ Below w.heap.size w w' := by
  obtain ⟨R, v, h1, h2, h3, h4, h5, h6, h7⟩ := h.ex
  have := get_any a mb R id w h1
  rw [h2] at this
  exact this
theorem rget_ps (id : Int) : Calls Try.prog 37 #[.pointer (some ⟨r, 0, none⟩), .int .u64 id] w fun e w' => e = .returned (getOut (Tr.get id)) ∧ Below w.heap.size w w' := by
  obtain ⟨R, v, h1, h2, h3, h4, h5, h6, h7⟩ := h.ex
  exact rget_any r v Tr id w h3 h.len8 _ rfl
theorem tvalid_ps (id : Int) : Calls Try.prog 16 #[.pointer (some ⟨a, 0, none⟩), .int .u64 id] w fun e w' => e = .returned (.bool (Tt.valid id)) ∧ w = w' := by
  obtain ⟨R, v, h1, h2, h3, h4, h5, h6, h7⟩ := h.ex
  have := valid_any a mb R id w h1
  rw [h2] at this
  exact this
theorem tlen_ps : Calls Try.prog 19 #[.pointer (some ⟨a, 0, none⟩)] w fun e w' => e = .returned (.int .i64 Tt.L.length) ∧ w = w' := by
  obtain ⟨R, v, h1, h2, h3, h4, h5, h6, h7⟩ := h.ex
  have := len_any a mb R w h1
  have e : Tt.L.length = R.L.length := by rw [← h2]; simp [RTab.abs]
  rw [e]
  exact this
theorem tepoch_ps : Calls Try.prog 13 #[.pointer (some ⟨a, 0, none⟩)] w fun e w' => e = .returned (.int .u64 Tt.epoch) ∧ w = w' := by
  obtain ⟨R, v, h1, h2, h3, h4, h5, h6, h7⟩ := h.ex
  have := epoch_any a mb R w h1
  have e : Tt.epoch = R.epoch := by rw [← h2]; rfl
  rw [e]
  exact this
end
end Go.Proofs.Ytghoeecgmhcplaa
