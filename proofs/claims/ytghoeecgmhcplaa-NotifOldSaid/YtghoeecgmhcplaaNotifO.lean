/- Walk through fairleadlaw21.NotifOld. -/
import Derived.Test.YtghoeecgmhcplaaNotifR
set_option linter.unusedVariables false
set_option linter.unusedSimpArgs false
namespace Go.Proofs.Ytghoeecgmhcplaa
open Go Go.RowKit Go.FL

theorem ls_cell {w0 w : World} {a mb : Nat} {R : RTab} {T : Tab} {g n c : Nat} {ids : List Int} (h : LS w0 a mb R T (.slice (some ⟨g, 0, none⟩) n c) ids w) {j : Nat} (hj : j < ids.length) {id : Int} (hid : id = ids.getD j 0) : w.cell? ⟨g, j, none⟩ = some (.int .u64 id) ∧ g < w.heap.size := by
  obtain ⟨g', cap, hv, _, _, hrow⟩ := RowAt.of_owns h.own (by omega)
  cases hv
  subst hid
  exact ⟨hrow.cell hj, hrow.lt⟩

set_option maxRecDepth 100000 in
set_option maxHeartbeats 1600000 in
theorem old_walk (x0 x1 ep : Int) (A1 : Option Addr) (c1 : Nat) (l : List OpD) (w : World) (hO1 : OpsAt w A1 l) (hl1 : l.length ≤ 9223372036854775807) (hw1 : ∀ o ∈ l, o.Wf) (he0 : 0 ≤ ep) (he1 : ep ≤ 18446744073709551615) :
    Calls Try.prog 5 #[.agg #[.int .i64 x0, .int .i64 x1], .slice A1 l.length c1, .int .u64 ep] w fun e w' => e = .returned (.bool true) ∧ Below w.heap.size w w' := by
  have hB0 : Below w.heap.size w (w.alloc (.cells #[.int .i64 x0, .int .i64 x1] 22)) := (Below.refl _ w).alloc (Nat.le_refl _) _
  have hO1' : OpsAt (w.alloc (.cells #[.int .i64 x0, .int .i64 x1] 22)) A1 l := SlAt.of_below hO1 hB0 (Nat.le_refl _)
  have haw := awake_any (w.alloc (.cells #[.int .i64 x0, .int .i64 x1] 22))
  by_cases hno : x0 < 1 ∨ 8 < x0 ∨ x1 < 1 ∨ 1000 < x1
  · clear hO1'
    go_enter Try.func5, Try.ntmps5
    go_wp2_with (first
      | (go_at_call 7; refine haw.mono ?_; clear haw; rintro e1 w1 ⟨rfl, hb1⟩; obtain ⟨hc1, hf1, hl1', -, -⟩ := own_alloc hb1)
      | (go_at_call 8; refine (new_no x0 x1 1 w1 hno).mono ?_; rintro e2 w2 ⟨rfl, rfl⟩))
    go_ret
    exact ⟨rfl, hB0.trans (hb1.mono hB0.size)⟩
  · have HE : Hid (ep ≤ 18446744073709551615) := he1
    clear he1
    go_enter Try.func5, Try.ntmps5
    go_wp2_with (first
      | (go_at_call 7; refine haw.mono ?_; clear haw; rintro e1 w1 ⟨rfl, hb1⟩; obtain ⟨hc1, hf1, hl1', -, -⟩ := own_alloc hb1)
      | (go_at_call 8; refine (new_ls x0 x1 1 _ w1 hb1 (by omega) (by omega) (by omega) (by omega) (by omega) (by omega)).mono ?_; rintro e2 w2 ⟨a, mb, rfl, hL2⟩)
      | (go_at_call 9; refine (play_ids hL2 A1 l.length c1 l hO1' rfl hl1 hw1).mono ?_; rintro e3 w3 ⟨vI, rfl, R3, hL3⟩)
      | (go_at_call 13; refine (epoch_ls hL3 _ rfl).mono ?_; rintro e4 w4 ⟨rfl, rfl⟩))
    obtain ⟨AI, cI, rfl⟩ := own_slice' hL3.own
    generalize playT (RTab.fresh x0 x1 1).abs (l.take 200) = T3 at hL3 ⊢
    have hil := playI_len (RTab.fresh x0 x1 1).abs l
    generalize playI (RTab.fresh x0 x1 1).abs (l.take 200) = ids at hL3 hil ⊢
    clear hL2 hc1 hf1 hl1' hb1 hO1 hO1'
    have HIL := Lib.hid hil
    clear hil
    go_loopw [12, 13] (fun v12 v wr => ∃ (j : Nat) (W : List Int), v = .int .i64 j ∧ j ≤ ids.length ∧ W.length ≤ j ∧ (∀ id ∈ W, ∃ x, T3.get id = some x ∧ x.waits = true) ∧ Below w3.heap.size w3 wr ∧ wr.ownsRow w3.heap.size 29 1 v12 W.length (W.map (Value.int .u64))) (fun _ v _ => ids.length - (intOf v).toNat)
    case atStart => exact ⟨0, [], rfl, Nat.zero_le _, Nat.zero_le _, by simp, Below.refl _ _, own_nil' _ _ _ _⟩
    case round =>
      obtain ⟨j, W, rfl, hj, hWj, hW, hB, hown⟩ := hrel
      have hil2 := HIL.out
      by_cases hjl : j < ids.length
      · have hL := hL3.below hB
        obtain ⟨g, cap, hv, hg, hcap, hrow⟩ := RowAt.of_owns hL.own (by omega)
        cases hv
        have hcl := hrow.cell hjl
        have hgl := hrow.lt
        obtain ⟨id, hid⟩ : ∃ id, id = ids.getD j 0 := ⟨_, rfl⟩
        rw [← hid] at hcl
        obtain ⟨r, hr⟩ : ∃ r, T3.get id = r := ⟨_, rfl⟩
        have hjl' : (j : Int) < ids.length := by omega
        have hid' := Lib.hid hid
        clear hid
        cases r with
        | none =>
          have hget := get_none hL id hr
          clear hr
          go_wp2_with (first
            | (go_at_call 10; refine hget.mono ?_; clear hget; rintro e4 w4 ⟨rfl, hb4⟩))
          exact ⟨⟨j + 1, W, by go_num, by omega, by omega, hW, (hB.trans (hb4.mono hB.size)).alloc (by have := hB.size; have := hb4.size; omega) _, own_mod (own_mod hown (Mod.of_below hb4 (fun _ => False)) (fun _ _ h => h)) (Mod.of_below ((Below.refl _ w4).alloc (Nat.le_refl _) _) (fun _ => False)) (fun _ _ h => h)⟩, by simp [intOf]; omega⟩
        | some x =>
          have hget := get_some hL id x hr
          have HR := Lib.hid hr
          have HW := Lib.hid hW
          clear hr hW
          by_cases hx1 : x.state = 1
          · have hs1 : (x.state == 1) = true := by simp [hx1]
            have HXW : Hid (x.waits = true) := (Ent.waits_iff x).2 (.inl hx1)
            clear hx1
            go_wp2_with (first
              | (at_builtin; refine wpList_app1g (g0 := w4.heap.size + 1) (World.size_alloc _ _) w3.heap.size rfl _ _ 30 29 _ 8 rfl Try.underlying30 info_u64 rfl (by decide) u12 (W.map (Value.int .u64)) (.int .u64 id) rfl rfl rfl (by rw [List.length_map]; exact hown4) (by have := hB.size; have := hb4.size; simp; omega) (by rw [List.length_map]; omega) ?_; intro v5 w5 ho5 hm5 hb5)
              | (go_at_call 10; refine hget.mono ?_; clear hget; rintro e4 w4 ⟨rfl, hb4⟩; have hown4 := own_mod (own_mod hown (Mod.of_below hb4 (fun _ => False)) (fun _ _ h => h)) (Mod.of_below ((Below.refl _ w4).alloc (Nat.le_refl _) (.cells #[.int .u64 x.id, .int .i64 x.task, .int .i64 x.state, .int .i64 x.left, .int .i64 x.ok, .int .i64 x.ov] 36)) (fun _ => False)) (fun _ _ h => h); have hcl4 := (hb4.cell (p := ⟨g, j, none⟩) hgl).trans hcl; have hgl4 := Nat.lt_of_lt_of_le hgl hb4.size))
            exact ⟨⟨j + 1, W ++ [id], by go_num, by omega, by simp; omega, by
              intro z hz
              rcases List.mem_append.1 hz with h | h
              · exact HW.out z h
              · rw [List.mem_singleton.1 h]; exact ⟨x, HR.out, HXW.out⟩, ((hB.trans (hb4.mono hB.size)).alloc (by have := hB.size; have := hb4.size; omega) _).trans (hm5.below (by have := hB.size; have := hb4.size; simp; omega) (fun k hk => own_base' hown4 k hk)), by simpa using ho5⟩, by simp [intOf]; omega⟩
          · by_cases hx2 : x.state = 2
            · have hs1 : (x.state == 1) = false := by simp [hx1]
              have hs2 : (x.state == 2) = true := by simp [hx2]
              have HXW : Hid (x.waits = true) := (Ent.waits_iff x).2 (.inr hx2)
              clear hx1 hx2
              go_wp2_with (first
                | (at_builtin; refine wpList_app1g (g0 := w4.heap.size + 1) (World.size_alloc _ _) w3.heap.size rfl _ _ 30 29 _ 8 rfl Try.underlying30 info_u64 rfl (by decide) u12 (W.map (Value.int .u64)) (.int .u64 id) rfl rfl rfl (by rw [List.length_map]; exact hown4) (by have := hB.size; have := hb4.size; simp; omega) (by rw [List.length_map]; omega) ?_; intro v5 w5 ho5 hm5 hb5)
                | (go_at_call 10; refine hget.mono ?_; clear hget; rintro e4 w4 ⟨rfl, hb4⟩; have hown4 := own_mod (own_mod hown (Mod.of_below hb4 (fun _ => False)) (fun _ _ h => h)) (Mod.of_below ((Below.refl _ w4).alloc (Nat.le_refl _) (.cells #[.int .u64 x.id, .int .i64 x.task, .int .i64 x.state, .int .i64 x.left, .int .i64 x.ok, .int .i64 x.ov] 36)) (fun _ => False)) (fun _ _ h => h); have hcl4 := (hb4.cell (p := ⟨g, j, none⟩) hgl).trans hcl; have hgl4 := Nat.lt_of_lt_of_le hgl hb4.size))
              exact ⟨⟨j + 1, W ++ [id], by go_num, by omega, by simp; omega, by
              intro z hz
              rcases List.mem_append.1 hz with h | h
              · exact HW.out z h
              · rw [List.mem_singleton.1 h]; exact ⟨x, HR.out, HXW.out⟩, ((hB.trans (hb4.mono hB.size)).alloc (by have := hB.size; have := hb4.size; omega) _).trans (hm5.below (by have := hB.size; have := hb4.size; simp; omega) (fun k hk => own_base' hown4 k hk)), by simpa using ho5⟩, by simp [intOf]; omega⟩
            · have hs1 : (x.state == 1) = false := by simp [hx1]
              have hs2 : (x.state == 2) = false := by simp [hx2]
              clear hx1 hx2
              go_wp2_with (first
                | (go_at_call 10; refine hget.mono ?_; clear hget; rintro e4 w4 ⟨rfl, hb4⟩; have hown4 := own_mod (own_mod hown (Mod.of_below hb4 (fun _ => False)) (fun _ _ h => h)) (Mod.of_below ((Below.refl _ w4).alloc (Nat.le_refl _) (.cells #[.int .u64 x.id, .int .i64 x.task, .int .i64 x.state, .int .i64 x.left, .int .i64 x.ok, .int .i64 x.ov] 36)) (fun _ => False)) (fun _ _ h => h); have hcl4 := (hb4.cell (p := ⟨g, j, none⟩) hgl).trans hcl; have hgl4 := Nat.lt_of_lt_of_le hgl hb4.size))
              exact ⟨⟨j + 1, W, by go_num, by omega, by omega, HW.out, (hB.trans (hb4.mono hB.size)).alloc (by have := hB.size; have := hb4.size; omega) _, hown4⟩, by simp [intOf]; omega⟩
      · have hL0 := hL3.below hB
        obtain ⟨AW, cW, rfl⟩ := own_slice' hown
        have hL : LS (w.alloc (.cells #[.int .i64 x0, .int .i64 x1] 22)) a mb R3 T3 (.slice AW W.length cW) W wr := ⟨hL0.tab, hL0.abs, hL0.low, hL0.bel, own_mono hown hL3.bel.size⟩
        have HW := Lib.hid hW
        have hWl : Hid (W.length ≤ 200) := by show _ ≤ _; omega
        clear hW hL0
        by_cases hle : ep ≤ T3.epoch
        · have hri : T3.rise ep = (T3, 22) := by unfold Tab.rise; rw [if_pos hle]
          have HRI := Lib.hid hri
          clear hri
          go_wp2_with (first
            | (go_at_call 14; refine (rise_ls hL ep T3 22 HRI.out he0 HE.out).mono ?_; rintro e5 w5 ⟨rfl, R5, hL5⟩)
            | (go_at_call 13; refine (epoch_ls hL5 _ rfl).mono ?_; rintro e6 w6 ⟨rfl, rfl⟩))
          go_ret
          exact ⟨rfl, hB0.trans (hL5.bel.mono hB0.size)⟩
        · have hri : T3.rise ep = (Tab.drop { T3 with epoch := ep }, 0) := by unfold Tab.rise; rw [if_neg hle]
          have HRI := Lib.hid hri
          clear hri
          go_wp2_with (first
            | (go_at_call 14; refine (rise_ls hL ep (Tab.drop { T3 with epoch := ep }) 0 HRI.out he0 HE.out).mono ?_; rintro e5 w5 ⟨rfl, R5, hL5⟩)
            | (go_at_call 13; refine (epoch_ls hL5 ep rfl).mono ?_; rintro e6 w6 ⟨rfl, rfl⟩))
          have hne : Hid (T3.epoch ≠ ep) := by show _ ≠ _; omega
          have hlow : Hid (w3.heap.size ≤ w3.heap.size) := Nat.le_refl _
          clear hL hB hown hle hL3
          go_loopw [17] (fun v wr => ∃ (j : Nat) (R : RTab), v = .int .i64 j ∧ j ≤ W.length ∧ LS (w.alloc (.cells #[.int .i64 x0, .int .i64 x1] 22)) a mb R (Tab.drop { T3 with epoch := ep }) (.slice AW W.length cW) W wr) (fun v _ => W.length - (intOf v).toNat)
          case atStart => exact ⟨0, R5, rfl, Nat.zero_le _, hL5⟩
          case round =>
            clear hL5
            obtain ⟨j, R, rfl, hj, hL⟩ := hrel
            have hWl2 := hWl.out
            by_cases hjl : j < W.length
            · obtain ⟨g, cap, hv, hg, hcap, hrow⟩ := RowAt.of_owns hL.own (by omega)
              cases hv
              have hcl := hrow.cell hjl
              have hgl := hrow.lt
              obtain ⟨id, hid⟩ : ∃ id, id = W.getD j 0 := ⟨_, rfl⟩
              rw [← hid] at hcl
              have hidW : id ∈ W := by rw [hid, List.getD_eq_getElem?_getD, List.getElem?_eq_getElem hjl]; exact List.getElem_mem hjl
              obtain ⟨x, hr, hxw⟩ := HW.out id hidW
              have hr2 := rise_get ep hr hxw
              have hxid := (Tab.get_mem hr).2
              have hjl' : (j : Int) < W.length := by omega
              have hrep1 : Hid ((Tab.drop { T3 with epoch := ep }).reply T3.epoch id 1 0 = (Tab.drop { T3 with epoch := ep }, 22)) := by
                show _ = _; unfold Tab.reply; rw [if_pos (show T3.epoch ≠ (Tab.drop { T3 with epoch := ep }).epoch from hne.out)]
              have hrep2 : Hid ((Tab.drop { T3 with epoch := ep }).reply ep id 1 0 = (Tab.drop { T3 with epoch := ep }, 18)) := by
                show _ = _; unfold Tab.reply; rw [if_neg (by simp [Tab.drop]), hr2]; simp [Ent.gone]
              have hval : Hid ((Tab.drop { T3 with epoch := ep }).valid id = false) := by
                show _ = _; unfold Tab.valid; rw [hr2]; rfl
              have hget : ∀ (w' : World) (R' : RTab), LS (w.alloc (.cells #[.int .i64 x0, .int .i64 x1] 22)) a mb R' (Tab.drop { T3 with epoch := ep }) (.slice (some ⟨g, 0, none⟩) W.length cW) W w' → Calls Try.prog 10 #[.pointer (some ⟨a, 0, none⟩), .int .u64 id] w' fun e w2 => e = .returned (.tuple #[.agg #[.int .u64 id, .int .i64 x.task, .int .i64 4, .int .i64 x.left, .int .i64 7, .int .i64 0], .bool true]) ∧ Below w'.heap.size w' w2 := by
                intro w' R' h'
                have := get_some h' id (x.gone 7) hr2
                rw [show (x.gone 7).id = id from hxid] at this
                exact this
              have HGET := Lib.hid hget
              have HIDJ := Lib.hid hid
              clear hid hr hr2 hxid hxw hget
              go_wp2_with (first
                | (go_at_call 10; refine (HGET.out _ _ hL).mono ?_; rintro e6 w6 ⟨rfl, hb6⟩; have hcl6 := (hb6.cell (p := ⟨g, j, none⟩) hgl).trans hcl; have hgl6 := Nat.lt_of_lt_of_le hgl hb6.size)
                | (go_at_call 15; refine Hid.out ?_))
              refine Lib.hid ?_
              refine (reply_ls ((hL.below hb6).alloc (.cells #[.int .u64 id, .int .i64 x.task, .int .i64 4, .int .i64 x.left, .int .i64 7, .int .i64 0] 36)) T3.epoch id 1 0 _ 22 hrep1.out).mono ?_
              rintro e7 w7 ⟨rfl, R7, hL7, hf7, hm7⟩
              obtain ⟨hcl7, hgl7⟩ := ls_cell hL7 hjl HIDJ.out
              have hk6 : ¬ R.foot a mb w6.heap.size := fun h => Nat.lt_irrefl _ ((hL.below hb6).tab.lt h)
              have hx7 := (hm7.block w6.heap.size (by simp) hk6).trans (heap_alloc_new w6 (.cells #[.int .u64 id, .int .i64 x.task, .int .i64 4, .int .i64 x.left, .int .i64 7, .int .i64 0] 36))
              have hlx7 := lt_of_heap hx7
              clear hcl hgl hrow hcl6 hgl6
              go_wp2_with (first
                | (go_at_call 15; refine Hid.out ?_))
              refine Lib.hid ?_
              refine (reply_ls hL7 ep id 1 0 _ 18 hrep2.out).mono ?_
              rintro e8 w8 ⟨rfl, R8, hL8, hf8, hm8⟩
              obtain ⟨hcl8, hgl8⟩ := ls_cell hL8 hjl HIDJ.out
              have hx8 := (hm8.block w6.heap.size hlx7 (fun h => (hf7 _ h).elim hk6 (by simp))).trans hx7
              have hlx8 := lt_of_heap hx8
              clear hcl7 hgl7
              go_wp2_with (first
                | (go_at_call 10; refine Hid.out ?_))
              refine Lib.hid ?_
              refine (HGET.out _ _ hL8).mono ?_
              rintro e9 w9 ⟨rfl, hb9⟩
              have hL9 := hL8.below hb9
              obtain ⟨hcl9, hgl9⟩ := ls_cell hL9 hjl HIDJ.out
              have hx9 := (hb9.block w6.heap.size hlx8).trans hx8
              have hc9 := cells_of hx9
              have hlx9 := lt_of_heap hx9
              clear hcl8 hgl8
              go_wp2_with (first
                | (go_at_call 16; refine (valid_ls (hL9.alloc _) id false hval.out).mono ?_; rintro e10 w10 ⟨rfl, rfl⟩))
              exact ⟨⟨j + 1, R8, by go_num, by omega, hL9.alloc _⟩, by simp [intOf]; omega⟩
            · go_wp2
              go_ret
              exact ⟨rfl, hB0.trans (hL.bel.mono hB0.size)⟩
end Go.Proofs.Ytghoeecgmhcplaa
