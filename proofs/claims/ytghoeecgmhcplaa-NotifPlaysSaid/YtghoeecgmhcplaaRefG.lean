/- Walks through the reference's methods: Ended. -/
import Derived.Test.YtghoeecgmhcplaaRefB
import Derived.Deep.RegionLaw
import Derived.Maps.AppendAt
import Derived.IntWalk
import Derived.Deep.DeepCutAuto
set_option linter.unusedVariables false
set_option linter.unusedSimpArgs false
namespace Go.FL
open Go Go.RowKit

/-- an append to a row of the call's own, at a step of a region that draws -/
theorem step_append_own {P : Program} {ops : Array Oper} {o : Oper} {a : Act} {w : World} {K : Act → World → Prop} {Q : Exit → Act → World → Prop} {E : Prop} (hgd : o.guard = none) (s x : Operand) (t : TypeId)
    (ho : o.op = .call { callee := .builtin .append, args := #[s, x], argTypes := #[t, t] })
    (base : Nat) (e : TypeId) (z : Value) (size bytes : Nat) (ht : P.underlying t = some (.slice e)) (hinfo : (P.info? e).map (fun i => (i.zero, i.size, i.bytes)) = some (some z, size, bytes)) (hzs : z.cells.size = size) (hsz : 0 < size)
    (v : Value) (n : Nat) (xs : List Value) (hs : a.eval s = v) (hown : w.ownsRow base e size v n xs)
    (ad : Addr) (m c : Nat) (news : List Value) (hx : a.eval x = .slice (some ad) m c) (hl : news.length = m * size) (hnews : ∀ j u, news[j]? = some u → w.cell? (ad.add j) = some u) (h1 : ∀ u ∈ news, u.oneCell' = true)
    (h63 : n + m ≤ maxLen) (hbytes : (n + m) * bytes ≤ 140737488355328) (hbase : base ≤ w.heap.size)
    (h : ∀ v' w', w'.ownsRow base e size v' (n + m) (xs ++ news) → w.grownBy w' v.ownBlock → (v'.ownBlock = v.ownBlock ∨ v'.ownBlock = some w.heap.size) → K (a.put o.dst v') w') :
    if Region.wanted o (yielded ops a.tmps) = true then Oper.wp P o a w K Q else E := by
  obtain ⟨i, hi, hzz⟩ := Option.map_eq_some_iff.1 hinfo
  simp only [Prod.mk.injEq] at hzz
  obtain ⟨hz, hsize, hby⟩ := hzz
  rw [if_pos (by simp [Region.wanted, hgd])]
  obtain ⟨v', w', hrun, h2, h3, _, h5⟩ := run_append_own_at (P := P) w base t o.type e i z size bytes ht hi hz hsize hby hzs hsz v n xs hown ad m c news hl hnews h1 h63 hbytes hbase
  unfold Oper.wp
  simp [execOp, ho, resolve, invoke, builtin, hs, hx, hrun, Result.andThen]
  exact h _ _ h2 h3 h5

theorem own_cells {w : World} {base g n c : Nat} {e : TypeId} {size : Nat} {xs : List Value} (h : w.ownsRow base e size (.slice (some ⟨g, 0, none⟩) n c) n xs) (j : Nat) (u : Value) (hj : xs[j]? = some u) : w.cell? ⟨g, j, none⟩ = some u := by
  rcases h.2 with ⟨hv, _⟩ | ⟨g', cap, cur, hv, _, hg, _, _, _, ht⟩
  · cases hv
  · cases hv
    rw [cell_of hg, ← Array.getElem?_toList]
    rw [← ht, List.getElem?_take] at hj
    split at hj
    · exact hj
    · cases hj
theorem own_cap {w : World} {base g n c : Nat} {e : TypeId} {size : Nat} {xs : List Value} (h : w.ownsRow base e size (.slice (some ⟨g, 0, none⟩) n c) n xs) : n ≤ c ∧ c ≤ maxLen := by
  rcases h.2 with ⟨hv, _⟩ | ⟨g', cap, cur, hv, _, hg, h1, h2, _, ht⟩
  · cases hv
  · cases hv; exact ⟨h1, h2⟩
theorem flat_len (L : List Ent) : (L.map entR).flatten.length = L.length * 6 := by
  induction L with
  | nil => rfl
  | cons x L ih => simp only [List.map_cons, List.flatten_cons, List.length_append, ih, List.length_cons]; simp [entR]; omega
theorem flat_one {L : List Ent} : ∀ u ∈ (L.map entR).flatten, u.oneCell' = true := by
  intro u hu
  rw [List.mem_flatten] at hu
  obtain ⟨l, hl, hu⟩ := hu
  obtain ⟨x, _, rfl⟩ := List.mem_map.1 hl
  simp only [entR, List.mem_cons, List.mem_nil_iff, or_false] at hu
  rcases hu with rfl | rfl | rfl | rfl | rfl | rfl <;> rfl
theorem flat_take (L : List Ent) (i j : Nat) (u : Value) (h : ((L.take i).map entR).flatten[j]? = some u) : (L.map entR).flatten[j]? = some u := by
  have e : (L.map entR).flatten = ((L.take i).map entR).flatten ++ ((L.drop i).map entR).flatten := by rw [← List.flatten_append, ← List.map_append, List.take_append_drop]
  rw [e, List.getElem?_append_left (List.getElem?_eq_some_iff.1 h).1]; exact h
theorem flat_drop (L : List Ent) (i j : Nat) (u : Value) (hi : i ≤ L.length) (h : ((L.drop i).map entR).flatten[j]? = some u) : (L.map entR).flatten[i * 6 + j]? = some u := by
  have e : (L.map entR).flatten = ((L.take i).map entR).flatten ++ ((L.drop i).map entR).flatten := by rw [← List.flatten_append, ← List.map_append, List.take_append_drop]
  have hl : ((L.take i).map entR).flatten.length = i * 6 := by rw [flat_len, List.length_take]; congr 1; omega
  rw [e, List.getElem?_append_right (by omega), hl, show i * 6 + j - i * 6 = j from by omega]; exact h
/-- one entry is taken out -/
theorem drop_one {L : List Ent} {i : Nat} {x : Ent} (hp : L.Pairwise fun x y => x.id < y.id) (hi : L[i]? = some x) : L.take i ++ L.drop (i + 1) = L.filter (·.id != x.id) := by
  induction L generalizing i with
  | nil => simp at hi
  | cons z L ih =>
    rw [List.pairwise_cons] at hp
    cases i with
    | zero =>
      have : z = x := by simpa using hi
      subst this
      simp only [List.take_zero, List.nil_append, List.drop_succ_cons, List.drop_zero, List.filter_cons, bne_self_eq_false, Bool.false_eq_true, if_false]
      symm
      rw [List.filter_eq_self]
      intro y hy
      have := hp.1 y hy
      simp; omega
    | succ i =>
      have hi' : L[i]? = some x := by simpa using hi
      have hlt := hp.1 x (List.mem_of_getElem? hi')
      simp only [List.take_succ_cons, List.cons_append, List.drop_succ_cons, List.filter_cons]
      rw [if_pos (by simp; omega), ih hp.2 hi']
end Go.FL
namespace Go.Proofs.Ytghoeecgmhcplaa
open Go Go.RowKit Go.FL Go.WideShapes

theorem info_entG : (Try.prog.info? 36).map (fun i => (i.zero, i.size, i.bytes)) = some (some (.agg #[.int .u64 0, .int .i64 0, .int .i64 0, .int .i64 0, .int .i64 0, .int .i64 0]), 6, 48) := by kernel_rfl

theorem empty_own {w2 W : World} (h : W.heap = (w2.alloc (.cells #[] 36)).heap) : W.ownsRow 0 36 6 (.slice (some ⟨w2.heap.size, 0, none⟩) 0 0) 0 [] :=
  ⟨rfl, .inr ⟨w2.heap.size, 0, #[], rfl, Nat.zero_le _, by rw [h]; exact heap_alloc_new w2 _, Nat.le_refl _, Nat.zero_le _, rfl, rfl⟩⟩
theorem news_take {w2 W : World} {r g n c i : Nat} {T : Tab} (h : RefAt' w2 r (.slice (some ⟨g, 0, none⟩) n c) T) (hn : T.L.length = n) (hW : W.heap[g]? = w2.heap[g]?) : ∀ j u, ((T.L.take i).map entR).flatten[j]? = some u → W.cell? ((⟨g, 0, none⟩ : Addr).add j) = some u := by
  intro j u hj
  have h1 := h.row
  rw [hn] at h1
  have := own_cells h1 j u (flat_take _ _ _ _ hj)
  rw [add_plain, Nat.zero_add, ← this]
  exact World.cell?_of_block hW
theorem news_drop {w2 W : World} {r g n c i : Nat} {T : Tab} (h : RefAt' w2 r (.slice (some ⟨g, 0, none⟩) n c) T) (hn : T.L.length = n) (hi : i ≤ n) (hW : W.heap[g]? = w2.heap[g]?) : ∀ j u, ((T.L.drop i).map entR).flatten[j]? = some u → W.cell? ((⟨g, i * 6, none⟩ : Addr).add j) = some u := by
  intro j u hj
  have h1 := h.row
  rw [hn] at h1
  have := own_cells h1 _ u (flat_drop _ _ _ _ (by omega) hj)
  rw [add_plain, ← this]
  exact World.cell?_of_block hW

theorem grown_keep {w2 W w1 : World} {o : Obj} {row : Option Nat} (hW : W.heap = (w2.alloc o).heap) (hg : W.grownBy w1 row) (hrow : ∀ k, row = some k → w2.heap.size ≤ k) : ∀ k, k < w2.heap.size → w1.heap[k]? = w2.heap[k]? := by
  intro k hk
  rw [hg.block k (by rw [hW]; simp; omega) (fun e => by have := hrow k e.symm; omega), hW]
  exact Below.heap_alloc _ _ _ hk
theorem grown_keep0 (w2 : World) (o : Obj) {W w1 : World} {v1 : Value} (hg : W.grownBy w1 (Value.slice (some ⟨w2.heap.size, 0, none⟩) 0 0).ownBlock) (hW : W.heap = (w2.alloc o).heap) (hat : v1.ownBlock = (Value.slice (some ⟨w2.heap.size, 0, none⟩) 0 0).ownBlock ∨ v1.ownBlock = some W.heap.size) :
    (∀ k, k < w2.heap.size → w1.heap[k]? = w2.heap[k]?) ∧ (∀ k, v1.ownBlock = some k → w2.heap.size ≤ k) ∧ w2.heap.size ≤ w1.heap.size ∧ (W.os = w2.os → W.tape = w2.tape → W.output = w2.output → w1.os = w2.os ∧ w1.tape = w2.tape ∧ w1.output = w2.output) := by
  have hsz : W.heap.size = w2.heap.size + 1 := by rw [hW]; simp
  refine ⟨grown_keep hW hg (fun k e => ?_), fun k e => ?_, ?_, fun a b c => ⟨hg.os.trans a, hg.tape.trans b, hg.output.trans c⟩⟩
  · simp [Value.ownBlock] at e; omega
  · rcases hat with h | h <;> rw [e] at h <;> simp [Value.ownBlock] at h <;> omega
  · have := hg.size; omega
theorem grown_keep2 {w2 w1 w3 : World} {row : Option Nat} (h1 : ∀ k, k < w2.heap.size → w1.heap[k]? = w2.heap[k]?) (hs : w2.heap.size ≤ w1.heap.size) (hg : w1.grownBy w3 row) (hrow : ∀ k, row = some k → w2.heap.size ≤ k) : ∀ k, k < w2.heap.size → w3.heap[k]? = w2.heap[k]? := by
  intro k hk
  rw [hg.block k (by omega) (fun e => by have := hrow k e.symm; omega)]
  exact h1 k hk

theorem rended_row {w2 w1 w3 : World} {r g n c m c3 : Nat} {A3 : Option Addr} {v1 : Value} {T : Tab} {L1 L2 : List Ent} (h : RefAt' w2 r (.slice (some ⟨g, 0, none⟩) n c) T) (hk : ∀ k, k < w2.heap.size → w3.heap[k]? = w2.heap[k]?) (hown0 : w3.ownsRow 0 36 6 (.slice A3 m c3) m ((L1.map entR).flatten ++ (L2.map entR).flatten)) (hm : (L1 ++ L2).length = m)
    (hv1 : ∀ k, v1.ownBlock = some k → w2.heap.size ≤ k) (hs : w2.heap.size ≤ w1.heap.size) (hg : w1.grownBy w3 v1.ownBlock) (ho : w1.os = w2.os ∧ w1.tape = w2.tape ∧ w1.output = w2.output) (hat : (Value.slice A3 m c3).ownBlock = v1.ownBlock ∨ (Value.slice A3 m c3).ownBlock = some w1.heap.size) :
    ∃ v', RefAt' (w3.setCell ⟨r, 0, none⟩ (.slice A3 m c3)) r v' { T with L := L1 ++ L2 } ∧ Mod (refF r (.slice (some ⟨g, 0, none⟩) n c)) w2 (w3.setCell ⟨r, 0, none⟩ (.slice A3 m c3)) ∧ (∀ k, v'.ownBlock = some k → w2.heap.size ≤ k) := by
  have hown : w3.ownsRow 0 36 6 (.slice A3 m c3) m ((L1 ++ L2).map entR).flatten := by rw [List.map_append, List.flatten_append]; exact hown0
  have hlow : ∀ k, (Value.slice A3 m c3).ownBlock = some k → w2.heap.size ≤ k := fun k e => by
    rcases hat with h | h
    · exact hv1 k (h ▸ e)
    · rw [e] at h
      have : k = w1.heap.size := by simpa using h
      omega
  have hb := (hk r h.lt).trans h.rb
  have hsz : w2.heap.size ≤ w3.heap.size := Nat.le_trans hs hg.size
  refine ⟨_, ⟨setCell_heap hb, ?_, h.ne⟩, ?_, hlow⟩
  · subst hm
    exact own_mod hown ((Mod.refl (· = r) w3).set (i := 0) (fun _ => rfl) _) (fun k e e2 => by have := hlow k e; have := h.lt; omega)
  · exact (⟨hg.os.trans ho.1, hg.tape.trans ho.2.1, hg.output.trans ho.2.2, hsz, fun k hk' _ => hk k hk'⟩ : Mod (refF r (.slice (some ⟨g, 0, none⟩) n c)) w2 w3).set (fun _ => .inl rfl) _

set_option maxRecDepth 100000 in
set_option maxHeartbeats 3200000 in
theorem rended_any (r : Nat) (v : Value) (T : Tab) (task : Int) (w : World) (h : RefAt' w r v T) (hl : T.L.length ≤ 8) (hp : T.L.Pairwise fun x y => x.id < y.id) (ha : T.L.Pairwise fun x y => x.task ≠ y.task) (q : Tab × Option Ent) (hq : T.ended task = q) :
    Calls Try.prog 36 #[.pointer (some ⟨r, 0, none⟩), .int .i64 task] w fun e w' => e = .returned (getOut q.2) ∧ RefTo' w r v q.1 w' := by
  have HQ := Lib.hid hq
  have HP := Lib.hid hp
  have HA := Lib.hid ha
  clear hq hp ha
  obtain ⟨A, c, rfl⟩ := h.slice
  have hr := h.lt
  have HH := Lib.hid h
  have HLOW := Lib.hid (fun k (hk : refF r (.slice A T.L.length c) k) => h.low hk)
  have hle := fstI_le (fun x => x.task == task && !x.waits) T.L
  obtain ⟨st, hst⟩ : ∃ st, fstI (fun x : Ent => x.task == task && !x.waits) T.L = st := ⟨_, rfl⟩
  obtain ⟨n, hn⟩ : ∃ n, T.L.length = n := ⟨_, rfl⟩
  rw [hst] at hle
  rw [hn] at hle hl HLOW
  rw [hn]
  have HST := Lib.hid hst
  have HN := Lib.hid hn
  have HL8 := Lib.hid hl
  have h0 := h.of_below (below_box w (.cells #[.int .u64 0, .int .i64 0, .int .i64 0, .int .i64 0, .int .i64 0, .int .i64 0] 36))
  rw [hn] at h0
  have H0 := Lib.hid h0
  clear hst hn h h0
  go_enter Try.func36, Try.ntmps36
  go_wp2
  have hsz0 : (w.alloc (.cells #[.int .u64 0, .int .i64 0, .int .i64 0, .int .i64 0, .int .i64 0, .int .i64 0] 36)).heap.size = w.heap.size + 1 := by simp
  have hnew0 := heap_alloc_new w (.cells #[.int .u64 0, .int .i64 0, .int .i64 0, .int .i64 0, .int .i64 0, .int .i64 0] 36)
  have hb0 := below_box w (.cells #[.int .u64 0, .int .i64 0, .int .i64 0, .int .i64 0, .int .i64 0, .int .i64 0] 36)
  have hw0 : ∃ w0, w0 = w.alloc (.cells #[.int .u64 0, .int .i64 0, .int .i64 0, .int .i64 0, .int .i64 0, .int .i64 0] 36) := ⟨_, rfl⟩
  obtain ⟨w0, hw0⟩ := hw0
  rw [← hw0] at H0 hsz0 hnew0 hb0 ⊢
  have HSZ0 := Lib.hid hsz0
  have HNEW0 := Lib.hid hnew0
  clear hw0 hsz0 hnew0
  go_loopw [6] (fun s wr => ∃ i : Nat, s = .int .i64 i ∧ i ≤ st ∧ Below w0.heap.size w0 wr) (fun s _ => n - (intOf s).toNat)
  case atStart => exact ⟨0, rfl, Nat.zero_le _, Below.refl _ _⟩
  case round =>
    obtain ⟨i, rfl, hi, hB⟩ := hrel
    have hR := H0.out.of_below hB
    have hc := cells_of hR.rb
    have hrr := hR.lt
    by_cases his : i < st
    · obtain ⟨x, hx, hp⟩ := fstI_before (by rw [HST.out]; exact his)
      have hin : (i : Int) < n := by omega
      obtain ⟨g, c', hv, hg, hgr, hfz, k0, k1, k2, k3, k4, k5⟩ := hR.elem hx
      rw [HN.out] at hv
      cases hv
      by_cases ht : x.task = task
      · have ht' : (x.task == task) = true := by simp [ht]
        have hw : x.waits = true := by simpa [ht'] using hp
        have hwc := fun w => rwaits_any x w true hw
        clear hx hR ht hw hp
        go_wp2_with (first
          | (go_at_call 42; refine (hwc _).mono ?_; clear hwc; rintro e1 w1 ⟨rfl, rfl⟩))
        exact ⟨⟨i + 1, by go_num, by omega, (hB.alloc hB.size _).alloc (by have := hB.size; simp; omega) _⟩, by simp [intOf]; omega⟩
      · have ht' : (x.task == task) = false := by simp [ht]
        clear hx hR ht hp
        go_wp2
        exact ⟨⟨i + 1, by go_num, by omega, hB.alloc hB.size _⟩, by simp [intOf]; omega⟩
    · obtain rfl : i = st := by omega
      by_cases hin : i < n
      · obtain ⟨x, hx, hp, hfd⟩ := fstI_at (p := fun x : Ent => x.task == task && !x.waits) (L := T.L) (by rw [HST.out, HN.out]; exact hin)
        rw [HST.out] at hx
        have hR' := hR
        obtain ⟨g, c', hv, hg, hgr, hfz, k0, k1, k2, k3, k4, k5⟩ := hR.elem hx
        rw [HN.out] at hv
        cases hv
        have hin' : (i : Int) < n := by omega
        have HG0 := Lib.hid (HLOW.out g (.inr rfl))
        have HX := Lib.hid hx
        have HF := Lib.hid hfd
        have ht' : (x.task == task) = true := by revert hp; cases (x.task == task) <;> simp
        have hw : x.waits = false := by simpa [ht'] using hp
        have hwc := fun w => rwaits_any x w false hw
        have HW := Lib.hid hw
        have HP1 := Lib.hid hp
        have HR := Lib.hid hR
        clear hx hR hR' hw hfd hp
        go_upto_region 6 with (first
          | (go_at_call 42; refine (hwc _).mono ?_; clear hwc; rintro e1 w1 ⟨rfl, rfl⟩))
        have hbX : Below wr.heap.size wr ((wr.alloc (.cells #[.int .u64 x.id, .int .i64 x.task, .int .i64 x.state, .int .i64 x.left, .int .i64 x.ok, .int .i64 x.ov] 36)).alloc (.cells #[.int .u64 x.id, .int .i64 x.task, .int .i64 x.state, .int .i64 x.left, .int .i64 x.ok, .int .i64 x.ov] 36)) := ((Below.refl _ wr).alloc (Nat.le_refl _) _).alloc (by simp) _
        have hx2 : ((wr.alloc (.cells #[.int .u64 x.id, .int .i64 x.task, .int .i64 x.state, .int .i64 x.left, .int .i64 x.ok, .int .i64 x.ov] 36)).alloc (.cells #[.int .u64 x.id, .int .i64 x.task, .int .i64 x.state, .int .i64 x.left, .int .i64 x.ok, .int .i64 x.ov] 36)).heap[wr.heap.size]? = some (.cells #[.int .u64 x.id, .int .i64 x.task, .int .i64 x.state, .int .i64 x.left, .int .i64 x.ok, .int .i64 x.ov] 36) := (Below.heap_alloc _ _ _ (by simp)).trans (heap_alloc_new wr _)
        have hR2 := HR.out.of_below hbX
        have hl0 : w.heap.size < w0.heap.size := by have := HSZ0.out; omega
        have hz2 := (hbX.block w.heap.size (Nat.lt_of_lt_of_le hl0 hB.size)).trans ((hB.block w.heap.size hl0).trans HNEW0.out)
        have hB2 := (hb0.trans (hB.mono hb0.size)).trans (hbX.mono (Nat.le_trans hb0.size hB.size))
        clear hc k0 k1 k2 k3 k4 k5 hfz hg hrr
        generalize ((wr.alloc (.cells #[.int .u64 x.id, .int .i64 x.task, .int .i64 x.state, .int .i64 x.left, .int .i64 x.ok, .int .i64 x.ov] 36)).alloc (.cells #[.int .u64 x.id, .int .i64 x.task, .int .i64 x.state, .int .i64 x.left, .int .i64 x.ok, .int .i64 x.ov] 36)) = w2 at hbX hx2 hR2 hz2 hB2 ⊢
        have hkx0 : w.heap.size < wr.heap.size := Nat.lt_of_lt_of_le hl0 hB.size
        generalize wr.heap.size = kx at hbX hx2 hkx0 ⊢
        have hkx1 := lt_of_heap hx2
        have HX2 := Lib.hid hx2
        have HZ2 := Lib.hid hz2
        clear hx2 hz2
        have hc2 := cells_of hR2.rb
        have hf2 := frees_of hR2.rb
        have hr2 := hR2.lt
        have hrow2 := hR2.row
        rw [HN.out] at hrow2
        have hcap := own_cap hrow2
        clear hrow2
        have hg2 : g < w2.heap.size := hR2.low (.inr rfl)
        have hnc : (n : Int) ≤ c := by omega
        have hic : (i : Int) + 1 ≤ c := by omega
        have hic' : (i : Int) ≤ c := by omega
        have hin1 : (i : Int) + 1 ≤ n := by omega
        have HR2 := Lib.hid hR2
        have HCAP := Lib.hid hcap
        have hrg : r ≠ g := fun e => hgr e.symm
        clear hR2 hcap hbX
        go_cut [] (fun wx => ∃ v', RefAt' wx r v' { T with L := T.L.take i ++ T.L.drop (i + 1) } ∧ Mod (refF r (.slice (some ⟨g, 0, none⟩) n c)) w2 wx ∧ (∀ k, v'.ownBlock = some k → w2.heap.size ≤ k))
        case first =>
          have cE : ∀ W : World, W.heap = (w2.alloc (.cells #[] 36)).heap → W.cell? ⟨r, 0, none⟩ = some (.slice (some ⟨g, 0, none⟩) n c) := fun W hW => (World.cell?_of_block (w := w2) (a := ⟨r, 0, none⟩) (by rw [hW]; exact Below.heap_alloc w2 _ _ hr2)).trans (by rw [cell_of HR2.out.rb]; rfl)
          have gE : ∀ W : World, W.heap = (w2.alloc (.cells #[] 36)).heap → W.heap[g]? = w2.heap[g]? := fun W hW => by rw [hW]; exact Below.heap_alloc w2 _ _ hg2
          have HcE := Lib.hid cE
          have HgE := Lib.hid gE
          clear cE gE
          have L1 := Lib.hid (show ((T.L.take i).map entR).flatten.length = i * 6 by rw [flat_len, List.length_take]; congr 1; have := HN.out; omega)
          have L2 := Lib.hid (show ((T.L.drop (i + 1)).map entR).flatten.length = (n - (i + 1)) * 6 by rw [flat_len, List.length_drop]; congr 1; have := HN.out; omega)
          have LM := Lib.hid (show (T.L.take i ++ T.L.drop (i + 1)).length = i + (n - (i + 1)) by simp only [List.length_append, List.length_take, List.length_drop]; have := HN.out; omega)
          have S1 := Lib.hid (show 0 + i ≤ maxLen by simp only [maxLen]; omega)
          have S2 := Lib.hid (show (0 + i) * 48 ≤ 140737488355328 by omega)
          have S3 := Lib.hid (show i + (n - (i + 1)) ≤ maxLen by simp only [maxLen]; omega)
          have S4 := Lib.hid (show (i + (n - (i + 1))) * 48 ≤ 140737488355328 by omega)
          have N1 := Lib.hid (fun (W : World) (hW : W.heap[g]? = w2.heap[g]?) => news_take (i := i) HR2.out HN.out hW)
          obtain ⟨ad0, hif, N2⟩ : ∃ ad0 : Addr, Hid ((if c = i + 1 then some (⟨g, 0, none⟩ : Addr) else some ⟨g, (i + 1) * 6, none⟩) = some ad0) ∧ Hid (∀ W : World, W.heap[g]? = w2.heap[g]? → ∀ j u, ((T.L.drop (i + 1)).map entR).flatten[j]? = some u → W.cell? (ad0.add j) = some u) := by
            by_cases hcc : c = i + 1
            · refine ⟨⟨g, 0, none⟩, Lib.hid (if_pos hcc), Lib.hid (fun W hW j u hu => ?_)⟩
              rw [List.drop_of_length_le (by have := HN.out; omega)] at hu
              simp at hu
            · exact ⟨_, Lib.hid (if_neg hcc), Lib.hid (fun W hW => news_drop (i := i + 1) HR2.out HN.out (by omega) hW)⟩
          have hd0 : w2.cell? ⟨r, 0, none⟩ = some (.slice (some ⟨g, 0, none⟩) n c) := by rw [cell_of HR2.out.rb]; rfl
          have hd1 : w2.frozen? ⟨r, 0, none⟩ = false := free_of HR2.out.rb 0
          have hi1 : (0 : Int) ≤ (i : Int) + 1 := by omega
          have hi2 : ((i : Int) + 1).toNat = i + 1 := by omega
          have hif := hif.out
          have hwr : IntKind.i64.wrap ((i : Int) + 1) = (i : Int) + 1 := IntWalk.i64_in _ (by omega)
          go_region_law (first
            | (refine step_append_own (by rfl) (.tmp 34) (.tmp 40) 32 (by rfl) 0 36 _ 6 48 Try.underlying32 info_entG rfl (by decide) (.slice (some ⟨w2.heap.size, 0, none⟩) 0 0) 0 [] (by rfl) (empty_own rfl) ⟨g, 0, none⟩ i c _ (by rfl) L1.out (N1.out _ (HgE.out _ rfl)) flat_one S1.out S2.out (Nat.zero_le _) ?_; intro v1 w1 hown1 hgrow1 hat1; have HK0 := Lib.hid (grown_keep0 w2 (.cells #[] 36) hgrow1 rfl hat1); have HK1 := Lib.hid HK0.out.1; have HOS := Lib.hid (HK0.out.2.2.2 rfl rfl rfl); have q1 := (World.cell?_of_block (a := ⟨r, 0, none⟩) (HK1.out r hr2)).trans hd0; have q2 := (World.frozen?_of_block (a := ⟨r, 0, none⟩) (HK1.out r hr2)).trans hd1; have HO1 := Lib.hid (show w1.ownsRow 0 36 6 v1 i ((T.L.take i).map entR).flatten by simpa using hown1); clear hown1 hgrow1 hat1)
            | (refine step_append_own (by rfl) (.tmp 41) (.tmp 48) 32 (by rfl) 0 36 _ 6 48 Try.underlying32 info_entG rfl (by decide) v1 i _ (by rfl) HO1.out ad0 (n - (i + 1)) (c - (i + 1)) _ (by rfl) L2.out (N2.out _ (HK1.out g hg2)) flat_one S3.out S4.out (Nat.zero_le _) ?_; intro v3 w3 hown3 hgrow3 hat3; obtain ⟨A3, c3, rfl⟩ := own_slice' hown3; have HAT3 := Lib.hid hat3; clear hat3; have HK3 := Lib.hid (grown_keep2 HK1.out HK0.out.2.2.1 hgrow3 HK0.out.2.1); have q3 := (World.cell?_of_block (a := ⟨r, 0, none⟩) (HK3.out r hr2)).trans hd0; have q4 := (World.frozen?_of_block (a := ⟨r, 0, none⟩) (HK3.out r hr2)).trans hd1; have HO3 := Lib.hid hown3; have HG3 := Lib.hid hgrow3; clear hown3 hgrow3))
          all_goals
            clear q1 q2 q3 q4 hwr hi1 hi2 hif hc2 hf2 hd0 hd1 hnc hic hic' hin1 hB2 L1 L2 S1 S2 S3 S4 N1 N2 HcE HgE hrg hgr HH HLOW HX HF HW HP1 HR H0
            have hfin := rended_row HR2.out HK3.out HO3.out LM.out HK0.out.2.1 HK0.out.2.2.1 HG3.out HOS.out HAT3.out
            have HFIN := Lib.hid hfin
            clear hfin
            go_wp2_with fail
            go_meet
            exact HFIN.out
        case rest =>
          obtain ⟨v4, hR4, hM4, hV4⟩ := hcut
          rename World => w4
          have hX4 := (hM4.block kx hkx1 (fun hf => by have := HLOW.out _ hf; omega)).trans HX2.out
          have hZ4 := (hM4.block w.heap.size (by omega) (fun hf => by have := HLOW.out _ hf; omega)).trans HZ2.out
          have cX := cells_of hX4
          have cZ := cells_of hZ4
          have fZ := frees_of hZ4
          have lX := lt_of_heap hX4
          have lZ := lt_of_heap hZ4
          have HR4 := Lib.hid hR4
          have HM4 := Lib.hid hM4
          clear hR4 hM4 hX4 hZ4 hc2 hf2
          go_wp2
          refine bodyPost_ret (v := .tuple #[.agg #[.int .u64 x.id, .int .i64 x.task, .int .i64 x.state, .int .i64 x.left, .int .i64 x.ok, .int .i64 x.ov], .bool true]) (by simp [results, Try.results36, go_sem, cX, cZ, fZ]) rfl ?_
          have he : q = ({ T with L := T.L.filter (·.id != x.id) }, some x) := by
            have hxm := List.mem_of_getElem? HX.out
            have hxt : x.task = task := by simpa using ht'
            have hof : T.of task = some x := find_of_pairwise (HA.out.imp fun h ⟨h1, h2⟩ => h (by rw [beq_iff_eq.1 h1, beq_iff_eq.1 h2])) hxm (by simpa using hxt)
            rw [← HQ.out, Tab.ended, hof]
            simp [HW.out]
          rw [he]
          refine ⟨rfl, ⟨_, ?_, fun k hk => .inr (Nat.le_trans hB2.size (hV4 k hk))⟩, ?_⟩
          rotate_left
          · have : Mod (refF r (.slice (some ⟨g, 0, none⟩) n c)) w w4 := (Mod.of_below hB2 _).trans HM4.out (fun _ _ h => h)
            repeat (refine Mod.set ?_ (fun h => absurd h (Nat.lt_irrefl _)) _)
            exact this
          · have h5 := HR4.out
            rw [drop_one HP.out HX.out] at h5
            have hne : r ≠ w.heap.size := by omega
            refine h5.of_mod (((((((Mod.refl (· = w.heap.size) w4).set (fun _ => rfl) _).set (fun _ => rfl) _).set (fun _ => rfl) _).set (fun _ => rfl) _).set (fun _ => rfl) _).set (fun _ => rfl) _) (fun k hk e => ?_)
            rcases hk with rfl | hk
            · exact hne e
            · have := hV4 k hk; have := hB2.size; omega
      · have hin' : ¬ (i : Int) < n := by omega
        have hfd := fstI_none (p := fun x : Ent => x.task == task && !x.waits) (L := T.L) (by rw [HST.out, HN.out]; exact hin)
        have HF := Lib.hid hfd
        have hl0 : w.heap.size < w0.heap.size := by have := HSZ0.out; omega
        have hz := (hB.block w.heap.size hl0).trans HNEW0.out
        have hcz := cells_of hz
        have hfz := frees_of hz
        have hlz := lt_of_heap hz
        clear hfd hR hz
        go_wp2
        refine bodyPost_ret (v := .tuple #[.agg #[.int .u64 0, .int .i64 0, .int .i64 0, .int .i64 0, .int .i64 0, .int .i64 0], .bool false]) (by simp [results, Try.results36, go_sem, hcz, hfz]) rfl ?_
        have he : q = (T, none) := by
          rw [← HQ.out, Tab.ended]
          cases hof : T.of task with
          | none => rfl
          | some y =>
            have hy := Tab.mem_of hof
            have h1 := List.find?_eq_none.1 HF.out y hy.1
            have : y.waits = true := by simpa [hy.2] using h1
            simp [this]
        rw [he]
        have hh := HH.out
        rw [HN.out] at hh
        exact ⟨rfl, RefTo.same hh (by (repeat (refine below_set ?_ (Nat.le_refl _) _)); exact hb0.trans (hB.mono hb0.size))⟩
end Go.Proofs.Ytghoeecgmhcplaa
