/- Walk through fairleadlaw21.NotifEnds. -/
import Derived.Test.YtghoeecgmhcplaaNotifR
import Derived.Test.YtghoeecgmhcplaaOwnN
set_option linter.unusedVariables false
set_option linter.unusedSimpArgs false
namespace Go.Proofs.Ytghoeecgmhcplaa
open Go Go.RowKit Go.FL

theorem info_ent : (Try.prog.info? 36).map (fun i => (i.zero, i.size, i.bytes)) = some (some (.agg #[.int .u64 0, .int .i64 0, .int .i64 0, .int .i64 0, .int .i64 0, .int .i64 0]), 6, 48) := by kernel_rfl
theorem info_op : (Try.prog.info? 40).map (fun i => (i.zero, i.size, i.bytes)) = some (some (.agg #[.int .i64 0, .int .i64 0, .int .u64 0, .int .i64 0, .int .i64 0]), 5, 40) := by kernel_rfl
def entL (x : Ent) : List Value := [.int .u64 x.id, .int .i64 x.task, .int .i64 x.state, .int .i64 x.left, .int .i64 x.ok, .int .i64 x.ov]

theorem was_cells {w : World} {base b off n c : Nat} {E : List Ent} (h : w.ownsRow base 36 6 (.slice (some ⟨b, off, none⟩) n c) n (E.map entL).flatten) (hn : E.length = n) {i : Nat} {x : Ent} (hi : E[i]? = some x) :
    w.cell? ⟨b, off + i * 6, none⟩ = some (.int .u64 x.id) ∧ w.cell? ⟨b, off + i * 6 + 1, none⟩ = some (.int .i64 x.task) ∧ w.cell? ⟨b, off + i * 6 + 2, none⟩ = some (.int .i64 x.state) ∧ w.cell? ⟨b, off + i * 6 + 3, none⟩ = some (.int .i64 x.left) ∧ w.cell? ⟨b, off + i * 6 + 4, none⟩ = some (.int .i64 x.ok) ∧ w.cell? ⟨b, off + i * 6 + 5, none⟩ = some (.int .i64 x.ov) := by
  have hs : SlAt w 6 (some ⟨b, off, none⟩) (E.map entL) := SlAt.of_owns h (by simpa using hn) (by intro cs hcs; obtain ⟨o, _, rfl⟩ := List.mem_map.1 hcs; rfl)
  obtain ⟨_, b', off', hA, hc⟩ := hs i (entL x) (by rw [List.getElem?_map, hi]; rfl)
  cases hA
  exact ⟨hc 0 _ rfl, by rw [Nat.add_assoc]; exact hc 1 _ rfl, by rw [Nat.add_assoc]; exact hc 2 _ rfl, by rw [Nat.add_assoc]; exact hc 3 _ rfl, by rw [Nat.add_assoc]; exact hc 4 _ rfl, by rw [Nat.add_assoc]; exact hc 5 _ rfl⟩

set_option maxRecDepth 100000 in
set_option maxHeartbeats 800000 in
theorem ends_walk (x0 x1 : Int) (A1 A2 : Option Addr) (c1 c2 : Nat) (l more : List OpD) (w : World) (hO1 : OpsAt w A1 l) (hO2 : OpsAt w A2 more) (hl1 : l.length ≤ 9223372036854775807) (hl2 : more.length ≤ 9223372036854775807) (hw1 : ∀ o ∈ l, o.Wf) (hw2 : ∀ o ∈ more, o.Wf) (hsz : more.length * 40 ≤ 140737488355328) :
    Calls Try.prog 3 #[.agg #[.int .i64 x0, .int .i64 x1], .slice A1 l.length c1, .slice A2 more.length c2] w fun e w' => e = .returned (.bool true) ∧ Below w.heap.size w w' := by
  have hB0 : Below w.heap.size w (w.alloc (.cells #[.int .i64 x0, .int .i64 x1] 22)) := (Below.refl _ w).alloc (Nat.le_refl _) _
  have hO1' : OpsAt (w.alloc (.cells #[.int .i64 x0, .int .i64 x1] 22)) A1 l := SlAt.of_below hO1 hB0 (Nat.le_refl _)
  have hO2' : OpsAt (w.alloc (.cells #[.int .i64 x0, .int .i64 x1] 22)) A2 more := SlAt.of_below hO2 hB0 (Nat.le_refl _)
  have haw := awake_any (w.alloc (.cells #[.int .i64 x0, .int .i64 x1] 22))
  by_cases hno : x0 < 1 ∨ 8 < x0 ∨ x1 < 1 ∨ 1000 < x1
  · clear hO1' hO2'
    go_enter Try.func3, Try.ntmps3
    go_wp2_with (first
      | (go_at_call 7; refine haw.mono ?_; clear haw; rintro e1 w1 ⟨rfl, hb1⟩; obtain ⟨hc1, hf1, hl1', -, -⟩ := own_alloc hb1)
      | (go_at_call 8; refine (new_no x0 x1 1 w1 hno).mono ?_; rintro e2 w2 ⟨rfl, rfl⟩))
    go_ret
    exact ⟨rfl, hB0.trans (hb1.mono hB0.size)⟩
  · go_enter Try.func3, Try.ntmps3
    go_wp2_with (first
      | (go_at_call 7; refine haw.mono ?_; clear haw; rintro e1 w1 ⟨rfl, hb1⟩; obtain ⟨hc1, hf1, hl1', -, -⟩ := own_alloc hb1)
      | (go_at_call 8; refine (new_ls x0 x1 1 _ w1 hb1 (by omega) (by omega) (by omega) (by omega) (by omega) (by omega)).mono ?_; rintro e2 w2 ⟨a, mb, rfl, hL2⟩)
      | (go_at_call 9; refine (play_ids hL2 A1 l.length c1 l hO1' rfl hl1 hw1).mono ?_; rintro e3 w3 ⟨vI, rfl, R3, hL3⟩))
    generalize playT (RTab.fresh x0 x1 1).abs (l.take 200) = T3 at hL3 ⊢
    generalize playI (RTab.fresh x0 x1 1).abs (l.take 200) = ids at hL3 ⊢
    clear hL2 hc1 hf1 hl1' hb1 hO1 hO1' hO2
    have HSZ := Lib.hid hsz
    clear hsz
    go_loopw [10, 11] (fun v10 v wr => ∃ (id : Nat) (E : List Ent), v = .int .u64 id ∧ 1 ≤ id ∧ id ≤ 201 ∧ E.length < id ∧ (∀ x ∈ E, x ∈ T3.L ∧ x.waits = false ∧ x.id < id) ∧ E.Pairwise (fun x y => x.id < y.id) ∧ Below w3.heap.size w3 wr ∧ wr.ownsRow w3.heap.size 36 6 v10 E.length (E.map entL).flatten) (fun _ v _ => 201 - (intOf v).toNat)
    case atStart => exact ⟨1, [], rfl, by omega, by omega, by simp, by simp, List.Pairwise.nil, Below.refl _ _, own_nil' _ _ _ _⟩
    case round =>
      obtain ⟨id, E, rfl, hi1, hi2, hE1, hE2, hE3, hB, hown⟩ := hrel
      have HE2 := Lib.hid hE2
      have HE3 := Lib.hid hE3
      clear hE2 hE3
      by_cases hid : id < 201
      · have hid' : (id : Int) < 201 := by omega
        have hL := hL3.below hB
        obtain ⟨r, hr⟩ : ∃ r, T3.get id = r := ⟨_, rfl⟩
        cases r with
        | none =>
          have hget := get_none hL id hr
          clear hr
          go_wp2_with (first
            | (go_at_call 10; refine hget.mono ?_; clear hget; rintro e4 w4 ⟨rfl, hb4⟩))
          exact ⟨⟨id + 1, E, by go_num, by omega, by omega, by omega, fun x hx => ⟨(HE2.out x hx).1, (HE2.out x hx).2.1, by have := (HE2.out x hx).2.2; omega⟩, HE3.out, (hB.trans (hb4.mono hB.size)).alloc (by have := hB.size; have := hb4.size; omega) _, own_mod (own_mod hown (Mod.of_below hb4 (fun _ => False)) (fun _ _ h => h)) (Mod.of_below ((Below.refl _ w4).alloc (Nat.le_refl _) _) (fun _ => False)) (fun _ _ h => h)⟩, by simp [intOf]; omega⟩
        | some x =>
          have hget := get_some hL id x hr
          obtain ⟨hxm, hxi⟩ := Tab.get_mem hr
          have HXI := Lib.hid hxi
          have hstop := hL.inv.stops hxm
          have HXM := Lib.hid hxm
          clear hr hxi hxm
          by_cases hx3 : x.state = 3
          · have hs1 : (x.state == 3) = true := by simp [hx3]
            have HXW : Hid (x.waits = false) := hstop.2 (.inl hx3)
            clear hx3 hstop
            go_wp2_with (first
              | (at_builtin; refine wpList_appN (g0 := w4.heap.size + 1) (World.size_alloc _ _) w3.heap.size rfl _ _ 32 36 _ 6 48 rfl Try.underlying32 info_ent rfl (by decide) (by decide) u10 E.length (E.map entL).flatten #[.int .u64 x.id, .int .i64 x.task, .int .i64 x.state, .int .i64 x.left, .int .i64 x.ok, .int .i64 x.ov] rfl rfl rfl (by simp [Value.oneCell']) hown4 (by have := hB.size; have := hb4.size; simp; omega) (by omega) ?_; intro v5 w5 ho5 hm5 hb5)
              | (go_at_call 10; refine hget.mono ?_; clear hget; rintro e4 w4 ⟨rfl, hb4⟩; have hown4 := own_mod (own_mod hown (Mod.of_below hb4 (fun _ => False)) (fun _ _ h => h)) (Mod.of_below ((Below.refl _ w4).alloc (Nat.le_refl _) (.cells #[.int .u64 x.id, .int .i64 x.task, .int .i64 x.state, .int .i64 x.left, .int .i64 x.ok, .int .i64 x.ov] 36)) (fun _ => False)) (fun _ _ h => h)))
            exact ⟨⟨id + 1, E ++ [x], by go_num, by omega, by omega, by simp; omega, by
              intro z hz
              rcases List.mem_append.1 hz with h | h
              · exact ⟨(HE2.out z h).1, (HE2.out z h).2.1, by have := (HE2.out z h).2.2; omega⟩
              · rw [List.mem_singleton.1 h]; exact ⟨HXM.out, HXW.out, by have := HXI.out; omega⟩, by
              refine List.pairwise_append.2 ⟨HE3.out, List.pairwise_singleton _ _, fun z hz y hy => ?_⟩
              rw [List.mem_singleton.1 hy]
              have := (HE2.out z hz).2.2; have := HXI.out; omega, ((hB.trans (hb4.mono hB.size)).alloc (by have := hB.size; have := hb4.size; omega) _).trans (hm5.below (by have := hB.size; have := hb4.size; simp; omega) (fun k hk => own_base' hown4 k hk)), by simpa [entL] using ho5⟩, by simp [intOf]; omega⟩
          · by_cases hx4 : x.state = 4
            · have hs1 : (x.state == 3) = false := by simp [hx3]
              have hs2 : (x.state == 4) = true := by simp [hx4]
              have HXW : Hid (x.waits = false) := hstop.2 (.inr hx4)
              clear hx3 hx4 hstop
              go_wp2_with (first
                | (at_builtin; refine wpList_appN (g0 := w4.heap.size + 1) (World.size_alloc _ _) w3.heap.size rfl _ _ 32 36 _ 6 48 rfl Try.underlying32 info_ent rfl (by decide) (by decide) u10 E.length (E.map entL).flatten #[.int .u64 x.id, .int .i64 x.task, .int .i64 x.state, .int .i64 x.left, .int .i64 x.ok, .int .i64 x.ov] rfl rfl rfl (by simp [Value.oneCell']) hown4 (by have := hB.size; have := hb4.size; simp; omega) (by omega) ?_; intro v5 w5 ho5 hm5 hb5)
                | (go_at_call 10; refine hget.mono ?_; clear hget; rintro e4 w4 ⟨rfl, hb4⟩; have hown4 := own_mod (own_mod hown (Mod.of_below hb4 (fun _ => False)) (fun _ _ h => h)) (Mod.of_below ((Below.refl _ w4).alloc (Nat.le_refl _) (.cells #[.int .u64 x.id, .int .i64 x.task, .int .i64 x.state, .int .i64 x.left, .int .i64 x.ok, .int .i64 x.ov] 36)) (fun _ => False)) (fun _ _ h => h)))
              exact ⟨⟨id + 1, E ++ [x], by go_num, by omega, by omega, by simp; omega, by
              intro z hz
              rcases List.mem_append.1 hz with h | h
              · exact ⟨(HE2.out z h).1, (HE2.out z h).2.1, by have := (HE2.out z h).2.2; omega⟩
              · rw [List.mem_singleton.1 h]; exact ⟨HXM.out, HXW.out, by have := HXI.out; omega⟩, by
              refine List.pairwise_append.2 ⟨HE3.out, List.pairwise_singleton _ _, fun z hz y hy => ?_⟩
              rw [List.mem_singleton.1 hy]
              have := (HE2.out z hz).2.2; have := HXI.out; omega, ((hB.trans (hb4.mono hB.size)).alloc (by have := hB.size; have := hb4.size; omega) _).trans (hm5.below (by have := hB.size; have := hb4.size; simp; omega) (fun k hk => own_base' hown4 k hk)), by simpa [entL] using ho5⟩, by simp [intOf]; omega⟩
            · have hs1 : (x.state == 3) = false := by simp [hx3]
              have hs2 : (x.state == 4) = false := by simp [hx4]
              clear hx3 hx4 hstop
              go_wp2_with (first
                | (go_at_call 10; refine hget.mono ?_; clear hget; rintro e4 w4 ⟨rfl, hb4⟩; have hown4 := own_mod (own_mod hown (Mod.of_below hb4 (fun _ => False)) (fun _ _ h => h)) (Mod.of_below ((Below.refl _ w4).alloc (Nat.le_refl _) (.cells #[.int .u64 x.id, .int .i64 x.task, .int .i64 x.state, .int .i64 x.left, .int .i64 x.ok, .int .i64 x.ov] 36)) (fun _ => False)) (fun _ _ h => h)))
              exact ⟨⟨id + 1, E, by go_num, by omega, by omega, by omega, fun x hx => ⟨(HE2.out x hx).1, (HE2.out x hx).2.1, by have := (HE2.out x hx).2.2; omega⟩, HE3.out, (hB.trans (hb4.mono hB.size)).alloc (by have := hB.size; have := hb4.size; omega) _, hown4⟩, by simp [intOf]; omega⟩
      · rename World => w5
        have hL5 := hL3.below hB
        obtain ⟨AE, cE, rfl⟩ := own_slice' hown
        have hElt : E.length < 202 := by omega
        have HEL := Lib.hid hElt
        have hid' : ¬ (id : Int) < 201 := by omega
        clear hElt hid hi1 hi2 hE1
        go_wp2_with fail
        go_loopw [14, 15] (fun v14 v wr => ∃ i : Nat, v = .int .i64 i ∧ i ≤ more.length ∧ Below w5.heap.size w5 wr ∧ wr.ownsRow w5.heap.size 40 5 v14 ((more.take i).filter (fun o => o.do_ != 9)).length (((more.take i).filter (fun o => o.do_ != 9)).map opCells).flatten) (fun _ v _ => more.length - (intOf v).toNat)
        case atStart => exact ⟨0, rfl, Nat.zero_le _, Below.refl _ _, own_nil' _ _ _ _⟩
        case round =>
          obtain ⟨i, rfl, hi, hB2, hown2⟩ := hrel
          have hsz2 := HSZ.out
          by_cases hil : i < more.length
          · obtain ⟨o, ho⟩ : ∃ o, more[i]? = some o := ⟨_, List.getElem?_eq_getElem hil⟩
            have hOr : OpsAt wr A2 more := SlAt.of_below hO2' (hL5.bel.trans (hB2.mono hL5.bel.size)) (Nat.le_refl _)
            obtain ⟨_, b, off, rfl, _⟩ := hOr i (opCells o) (by rw [List.getElem?_map, ho]; rfl)
            obtain ⟨k0, k1, k2, k3, k4⟩ := hOr.cells ho
            have hblt : b < wr.heap.size := cell_lt k0
            have hil' : (i : Int) < more.length := by omega
            have HTK : Hid ((more.take (i + 1)).filter (fun o => o.do_ != 9) = (more.take i).filter (fun o => o.do_ != 9) ++ (if o.do_ != 9 then [o] else [])) := by
              show _ = _
              rw [List.take_add_one, ho, List.filter_append]
              by_cases h : o.do_ = 9 <;> simp [h]
            have hrl : (((more.take i).filter (fun o => o.do_ != 9)).length + 1) * 40 ≤ 140737488355328 := by
              have h1 := List.length_filter_le (fun o : OpD => o.do_ != 9) (more.take i)
              have h2 := List.length_take_le i more
              omega
            have HRL := Lib.hid hrl
            clear hrl ho hsz2
            generalize (more.take i).filter (fun o => o.do_ != 9) = rs at hown2 HTK HRL
            obtain ⟨rn, hrn⟩ : ∃ rn, rn = rs.length := ⟨_, rfl⟩
            rw [← hrn] at hown2 HRL
            obtain ⟨d, n, oid, ok, ov⟩ := o
            dsimp only at k0 k1 k2 k3 k4
            by_cases h9 : d = 9
            · subst h9
              go_wp2_with fail
              exact ⟨⟨i + 1, by go_num, by omega, hB2, by rw [HTK.out]; simpa [← hrn] using hown2⟩, by simp [intOf]; omega⟩
            · have h9' : (d == 9) = false := by simp [h9]
              have H9 := Lib.hid h9
              clear h9
              go_wp2_with (first
                | (at_builtin; refine wpList_appN (g0 := wr.heap.size) rfl w5.heap.size rfl _ _ 23 40 _ 5 40 rfl Try.underlying23 info_op rfl (by decide) (by decide) u14 rn (rs.map opCells).flatten #[.int .i64 d, .int .i64 n, .int .u64 oid, .int .i64 ok, .int .i64 ov] rfl rfl rfl (by simp [Value.oneCell']) hown2 hB2.size (by exact HRL.out) ?_; intro v6 w6 ho6 hm6 hb6))
              exact ⟨⟨i + 1, by go_num, by omega, hB2.trans (hm6.below hB2.size (fun k hk => own_base' hown2 k hk)), by rw [HTK.out]; simpa [H9.out, opCells, ← hrn] using ho6⟩, by simp [intOf]; omega⟩
          · have hL6 := hL5.below hB2
            obtain ⟨AR, cR, rfl⟩ := own_slice' hown2
            have hmt : more.take i = more := List.take_of_length_le (by omega)
            rw [hmt] at hown2 ⊢
            have hrw : ∀ o ∈ more.filter (fun o => o.do_ != 9), o.Wf ∧ o.do_ ≠ 9 := fun o ho => ⟨hw2 o (List.mem_filter.1 ho).1, by simpa using (List.mem_filter.1 ho).2⟩
            have hrlen : (more.filter (fun o => o.do_ != 9)).length ≤ more.length := List.length_filter_le _ _
            generalize more.filter (fun o => o.do_ != 9) = rs at hown2 hrw hrlen ⊢
            have hOR : OpsAt wr AR rs := SlAt.of_owns hown2 (by simp) (by intro cs hcs; obtain ⟨o, _, rfl⟩ := List.mem_map.1 hcs; rfl)
            have hplay := play_any a mb R3 AR rs.length cR rs wr hL6.tab hOR rfl (by omega) (fun o ho => (hrw o ho).1) (fun b off hA _ => by subst hA; exact hL6.tab.not_own hown2 (by decide) (by decide) b rfl)
            have HRW := Lib.hid hrw
            clear hmt hrw hOR
            go_wp2_with (first
              | (go_at_call 9; refine hplay.mono ?_; clear hplay; rintro e7 w7 ⟨⟨v7, rfl, _⟩, hto⟩))
            obtain ⟨R7, hL7, hf7, hm7⟩ := hL6.next hto
            rw [hL3.abs] at hL7
            have hst : ∀ x ∈ E, x ∈ (playT T3 (rs.take 200)).L ∧ x.waits = false := fun x hx => ⟨hL3.inv.stays_play (HE2.out x hx).1 (HE2.out x hx).2.1 _ fun o ho => HRW.out o (List.mem_of_mem_take ho), (HE2.out x hx).2.1⟩
            have hownw := own_mod hown (Mod.of_below hB2 (fun _ => False)) (fun _ _ h => h)
            have hown7 := own_mod hownw hm7 (fun k hk hf => by have := own_base' hown k hk; have := hL3.tab.lt hf; omega)
            have hnf7 : ∀ k, (Value.slice AE E.length cE).ownBlock = some k → ¬ R7.foot a mb k := fun k hk hf => by
              have h1 := own_base' hown k hk
              have h2 := own_lt' hownw k hk
              rcases hf7 k hf with h | h
              · have := hL3.tab.lt h; omega
              · omega
            generalize playT T3 (rs.take 200) = T7 at hL7 hst
            clear hto hm7 hf7 hownw hown hown2 hL6 hL5
            go_wp2_with fail
            go_loopw [16] (fun v wr => ∃ (i : Nat) (R : RTab) (T : Tab), v = .int .i64 i ∧ i ≤ E.length ∧ LS (w.alloc (.cells #[.int .i64 x0, .int .i64 x1] 22)) a mb R T vI ids wr ∧ wr.ownsRow w3.heap.size 36 6 (.slice AE E.length cE) E.length (E.map entL).flatten ∧ (∀ k, (Value.slice AE E.length cE).ownBlock = some k → ¬ R.foot a mb k) ∧ ∀ (m : Nat) (x : Ent), i ≤ m → E[m]? = some x → x ∈ T.L ∧ x.waits = false) (fun v _ => E.length - (intOf v).toNat)
            case atStart => exact ⟨0, R7, T7, rfl, Nat.zero_le _, hL7, hown7, hnf7, fun m x _ hm => hst x (List.mem_of_getElem? hm)⟩
            case round =>
              clear hL7 hown7 hnf7 hst
              obtain ⟨i, R, T, rfl, hi, hL, hown, hnf, hst⟩ := hrel
              have hel := HEL.out
              by_cases hil : i < E.length
              · obtain ⟨x, hx⟩ : ∃ x, E[i]? = some x := ⟨_, List.getElem?_eq_getElem hil⟩
                obtain ⟨hxm, hxw⟩ := hst i x (Nat.le_refl _) hx
                have hne : AE ≠ none := by
                  rintro rfl
                  rcases hown.2 with ⟨_, h⟩ | ⟨g, cap, cur, hv, _⟩
                  · omega
                  · cases hv
                obtain ⟨⟨b, off, spot⟩, rfl⟩ := Option.ne_none_iff_exists'.1 hne
                have hspot : spot = none := by
                  rcases hown.2 with ⟨hv, _⟩ | ⟨g, cap, cur, hv, _⟩
                  · cases hv
                  · cases hv; rfl
                subst hspot
                have hil' : (i : Int) < E.length := by omega
                have HX := Lib.hid hx
                have HEND := Lib.hid (hL.inv.ended_of hxm hxw)
                have hget := get_some hL x.id x (hL.inv.get_of hxm)
                have HST := Lib.hid hst
                obtain ⟨k0, k1, k2, k3, k4, k5⟩ := was_cells hown rfl hx
                have hbl := own_lt' hown b rfl
                clear hx hst hxm hxw hne
                go_wp2_with (first
                  | (go_at_call 10; refine hget.mono ?_; clear hget; rintro e8 w8 ⟨rfl, hb8⟩; have hown8 := own_mod hown (Mod.of_below hb8 (fun _ => False)) (fun _ _ h => h); obtain ⟨m0, m1, m2, m3, m4, m5⟩ := was_cells hown8 rfl HX.out; have hbl8 := own_lt' hown8 b rfl)
                  | (go_at_call 11; refine Hid.out ?_))
                refine Lib.hid ?_
                refine (ended_some ((hL.below hb8).alloc (.cells #[.int .u64 x.id, .int .i64 x.task, .int .i64 x.state, .int .i64 x.left, .int .i64 x.ok, .int .i64 x.ov] 36)) x.task _ x HEND.out).mono ?_
                rintro e9 w9 ⟨rfl, R9, hL9, hf9, hm9⟩
                have hk8 : ¬ R.foot a mb w8.heap.size := fun h => Nat.lt_irrefl _ ((hL.below hb8).tab.lt h)
                have hx9 := (hm9.block w8.heap.size (by simp) hk8).trans (heap_alloc_new w8 (.cells #[.int .u64 x.id, .int .i64 x.task, .int .i64 x.state, .int .i64 x.left, .int .i64 x.ok, .int .i64 x.ov] 36))
                have hlx9 := lt_of_heap hx9
                have hc9 := cells_of hx9
                have hown8a := own_mod hown8 (Mod.of_below ((Below.refl _ w8).alloc (Nat.le_refl _) (.cells #[.int .u64 x.id, .int .i64 x.task, .int .i64 x.state, .int .i64 x.left, .int .i64 x.ok, .int .i64 x.ov] 36)) (fun _ => False)) (fun _ _ h => h)
                have hown9 := own_mod hown8a hm9 (fun k hk => hnf k hk)
                have hnf9 : ∀ k, (Value.slice (some ⟨b, off, none⟩) E.length cE).ownBlock = some k → ¬ R9.foot a mb k := fun k hk hf => by
                  rcases hf9 k hf with h | h
                  · exact hnf k hk h
                  · have h2 := own_lt' hown8a k hk; omega
                obtain ⟨p0, p1, p2, p3, p4, p5⟩ := was_cells hown9 rfl HX.out
                have hbl9 := own_lt' hown9 b rfl
                clear m0 m1 m2 m3 m4 m5 k0 k1 k2 k3 k4 k5
                go_wp2_with (first
                  | (go_at_call 10; refine Hid.out ?_))
                refine Lib.hid ?_
                have hL9a := hL9.alloc (.cells #[.int .u64 x.id, .int .i64 x.task, .int .i64 x.state, .int .i64 x.left, .int .i64 x.ok, .int .i64 x.ov] 36)
                refine (get_none hL9a x.id (get_filter T x.id)).mono ?_
                rintro e10 w10 ⟨rfl, hb10⟩
                obtain ⟨cz, fz, lz, -, -⟩ := own_alloc hb10
                have hx10 := (hb10.block w8.heap.size (by simp; omega)).trans ((Below.heap_alloc w9 (.cells #[.int .u64 x.id, .int .i64 x.task, .int .i64 x.state, .int .i64 x.left, .int .i64 x.ok, .int .i64 x.ov] 36) w8.heap.size hlx9).trans hx9)
                have hc10 := cells_of hx10
                have hlx10 := lt_of_heap hx10
                have hown10 := own_mod (own_mod hown9 (Mod.of_below ((Below.refl _ w9).alloc (Nat.le_refl _) (.cells #[.int .u64 x.id, .int .i64 x.task, .int .i64 x.state, .int .i64 x.left, .int .i64 x.ok, .int .i64 x.ov] 36)) (fun _ => False)) (fun _ _ h => h)) (Mod.of_below hb10 (fun _ => False)) (fun _ _ h => h)
                obtain ⟨q0, q1, q2, q3, q4, q5⟩ := was_cells hown10 rfl HX.out
                have hbl10 := own_lt' hown10 b rfl
                clear p0 p1 p2 p3 p4 p5 hc9
                go_wp2
                go_quiet (fail)
                go_wp2
                have hbZ : Below w10.heap.size w10 (w10.alloc (.cells #[.int .u64 0, .int .i64 0, .int .i64 0, .int .i64 0, .int .i64 0, .int .i64 0] 36)) := (Below.refl _ w10).alloc (Nat.le_refl _) _
                have hbN : ∀ nq, Below w10.heap.size w10 ((w10.alloc (.cells #[.int .u64 0, .int .i64 0, .int .i64 0, .int .i64 0, .int .i64 0, .int .i64 0] 36)).drewN nq) := fun nq => ⟨hbZ.os, hbZ.tape, hbZ.output, hbZ.size, hbZ.block⟩
                exact ⟨⟨i + 1, R9, { T with L := T.L.filter (·.id != x.id) }, by go_num, by omega, (hL9a.below hb10).below (hbN _), own_mod hown10 (Mod.of_below (hbN _) (fun _ => False)) (fun _ _ h => h), hnf9, fun m y hm hy => by
                  obtain ⟨h1, h2⟩ := HST.out m y (by omega) hy
                  refine ⟨List.mem_filter.2 ⟨h1, ?_⟩, h2⟩
                  obtain ⟨hl1, he1⟩ := List.getElem?_eq_some_iff.1 HX.out
                  obtain ⟨hl2, he2⟩ := List.getElem?_eq_some_iff.1 hy
                  have := List.pairwise_iff_getElem.1 HE3.out i m hl1 hl2 (by omega)
                  rw [he1, he2] at this
                  simp; omega⟩, by simp [intOf]; omega⟩
              · go_wp2
                go_ret
                exact ⟨rfl, hB0.trans (hL.bel.mono hB0.size)⟩
end Go.Proofs.Ytghoeecgmhcplaa
