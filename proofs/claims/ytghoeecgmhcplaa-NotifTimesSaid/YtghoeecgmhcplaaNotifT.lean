/- Walk through fairleadlaw21.NotifTimes. -/
import Derived.Test.YtghoeecgmhcplaaNotifR
set_option linter.unusedVariables false
set_option linter.unusedSimpArgs false
namespace Go.Proofs.Ytghoeecgmhcplaa
open Go Go.RowKit Go.FL

set_option maxRecDepth 100000 in
set_option maxHeartbeats 8000000 in
theorem times_walk (x0 x1 : Int) (A1 A2 : Option Addr) (c1 c2 : Nat) (l more : List OpD) (w : World) (hO1 : OpsAt w A1 l) (hO2 : OpsAt w A2 more) (hl1 : l.length ≤ 9223372036854775807) (hl2 : more.length ≤ 9223372036854775807) (hc2 : more.length ≤ c2) (hw1 : ∀ o ∈ l, o.Wf) (hw2 : ∀ o ∈ more, o.Wf) :
    Calls Try.prog 4 #[.agg #[.int .i64 x0, .int .i64 x1], .slice A1 l.length c1, .slice A2 more.length c2] w fun e w' => e = .returned (.bool true) ∧ Below w.heap.size w w' := by
  have hB0 : Below w.heap.size w (w.alloc (.cells #[.int .i64 x0, .int .i64 x1] 22)) := (Below.refl _ w).alloc (Nat.le_refl _) _
  have hO1' : OpsAt (w.alloc (.cells #[.int .i64 x0, .int .i64 x1] 22)) A1 l := SlAt.of_below hO1 hB0 (Nat.le_refl _)
  have hO2' : OpsAt (w.alloc (.cells #[.int .i64 x0, .int .i64 x1] 22)) A2 more := SlAt.of_below hO2 hB0 (Nat.le_refl _)
  have haw := awake_any (w.alloc (.cells #[.int .i64 x0, .int .i64 x1] 22))
  by_cases hno : x0 < 1 ∨ 8 < x0 ∨ x1 < 1 ∨ 1000 < x1
  · clear hO1' hO2'
    go_enter Try.func4, Try.ntmps4
    go_wp2_with (first
      | (go_at_call 7; refine haw.mono ?_; clear haw; rintro e1 w1 ⟨rfl, hb1⟩; obtain ⟨hc1, hf1, hl1', -, -⟩ := own_alloc hb1)
      | (go_at_call 8; refine (new_no x0 x1 1 w1 hno).mono ?_; rintro e2 w2 ⟨rfl, rfl⟩))
    go_ret
    exact ⟨rfl, hB0.trans (hb1.mono hB0.size)⟩
  · by_cases hlong : 60 < x1
    · clear hO1' hO2'
      go_enter Try.func4, Try.ntmps4
      go_wp2_with (first
        | (go_at_call 7; refine haw.mono ?_; clear haw; rintro e1 w1 ⟨rfl, hb1⟩; obtain ⟨hc1, hf1, hl1', -, -⟩ := own_alloc hb1)
        | (go_at_call 8; refine (new_ls x0 x1 1 _ w1 hb1 (by omega) (by omega) (by omega) (by omega) (by omega) (by omega)).mono ?_; rintro e2 w2 ⟨a, mb, rfl, hL2⟩; obtain ⟨hc2', hf2', hl2', -, -⟩ := own_alloc hL2.bel))
      go_ret
      exact ⟨rfl, hB0.trans (hL2.bel.mono hB0.size)⟩
    · go_enter Try.func4, Try.ntmps4
      go_wp2_with (first
        | (go_at_call 7; refine haw.mono ?_; clear haw; rintro e1 w1 ⟨rfl, hb1⟩; obtain ⟨hc1, hf1, hl1', -, -⟩ := own_alloc hb1)
        | (go_at_call 8; refine (new_ls x0 x1 1 _ w1 hb1 (by omega) (by omega) (by omega) (by omega) (by omega) (by omega)).mono ?_; rintro e2 w2 ⟨a, mb, rfl, hL2⟩; obtain ⟨hc2', hf2', hl2', -, -⟩ := own_alloc hL2.bel)
        | (go_at_call 9; refine (play_ids hL2 A1 l.length c1 l hO1' rfl hl1 hw1).mono ?_; rintro e3 w3 ⟨vI, rfl, R3, hL3⟩))
      have hdue : (playT (RTab.fresh x0 x1 1).abs (l.take 200)).Due x1 := by
        have h := hL3.inv.due
        rw [playT_wait] at h
        exact h
      obtain ⟨AI, cI, rfl⟩ := own_slice' hL3.own
      generalize playT (RTab.fresh x0 x1 1).abs (l.take 200) = T3 at hL3 hdue
      have hil := playI_len (RTab.fresh x0 x1 1).abs l
      generalize playI (RTab.fresh x0 x1 1).abs (l.take 200) = ids at hL3 hil ⊢
      clear hL2 hc1 hf1 hl1' hc2' hf2' hl2' hb1 hO1 hO1' hO2
      have HIL := Lib.hid hil
      clear hil
      go_loopw [11, 12] (fun v11 v wr => ∃ k i : Nat, v11 = .int .i64 k ∧ v = .int .i64 i ∧ (i : Int) ≤ x1 ∧ k ≤ 200 + i ∧ ∃ R T, LS (w.alloc (.cells #[.int .i64 x0, .int .i64 x1] 22)) a mb R T (.slice AI ids.length cI) ids wr ∧ T.Due (x1 - i)) (fun _ v _ => (x1 - intOf v).toNat)
      case atStart => exact ⟨0, 0, rfl, rfl, by omega, by omega, R3, T3, hL3, by simpa using hdue⟩
      case round =>
        obtain ⟨k, i, rfl, rfl, hi, hk, R, T, hL, hD⟩ := hrel
        obtain ⟨hcb, hfb, hlb, -, -⟩ := own_alloc hL.bel
        by_cases hix : (i : Int) < x1
        · go_wp2_with fail
          go_loopw [11] (fun v wr => ∃ k : Nat, v = .int .i64 k ∧ k ≤ 200 + i ∧ ∃ R T, LS (w.alloc (.cells #[.int .i64 x0, .int .i64 x1] 22)) a mb R T (.slice AI ids.length cI) ids wr ∧ T.Due (x1 - i)) (fun v _ => more.length - (intOf v).toNat)
          case atStart => exact ⟨k, rfl, hk, R, T, hL, hD⟩
          case round =>
            clear hL hD hk hcb hfb hlb
            obtain ⟨k, rfl, hk, R, T, hL, hD⟩ := hrel
            obtain ⟨hcb, hfb, hlb, -, -⟩ := own_alloc hL.bel
            by_cases hkl : k < more.length
            · obtain ⟨o, ho⟩ : ∃ o, more[k]? = some o := ⟨_, List.getElem?_eq_getElem hkl⟩
              have hOr : OpsAt wr A2 more := SlAt.of_below hO2' hL.bel (Nat.le_refl _)
              obtain ⟨_, b, off, rfl, _⟩ := hOr k (opCells o) (by rw [List.getElem?_map, ho]; rfl)
              obtain ⟨c0, _, _, _, _⟩ := hOr.cells ho
              have hblt : b < wr.heap.size := cell_lt c0
              have hkl' : (k : Int) < more.length := by omega
              by_cases hk2 : (k : Int) < 200
              · by_cases h6 : o.do_ = 6
                · have h6' : (o.do_ == 6) = true := by simp [h6]
                  clear ho h6
                  go_wp2_with (first
                    | (go_at_call 12; refine (tick_ls hL).mono ?_; rintro e5 w5 ⟨v5, rfl, R5, hL5⟩))
                  exact ⟨⟨k + 1, i + 1, by go_num, by go_num, by omega, by omega, R5, _, hL5, by have := hD.tick; rw [show x1 - ((i + 1 : Nat) : Int) = x1 - i - 1 by omega]; exact this⟩, by simp [intOf]; omega⟩
                · have h6' : (o.do_ == 6) = false := by simp [h6]
                  have HO := Lib.hid ho
                  have hwf := hw2 o (List.mem_of_getElem? ho)
                  by_cases h1 : 1 < o.do_
                  · have HDo : Hid (∀ n, T.Due n → (playT T [o]).Due n) := fun n hn => hn.op hL.inv o h1 h6
                    have hO1 : OpsAt (w.alloc (.cells #[.int .i64 x0, .int .i64 x1] 22)) (some ⟨b, off + k * 5, none⟩) [o] := by
                      intro j cs hj
                      have : j = 0 := by cases j with
                        | zero => rfl
                        | succ j => simp at hj
                      subst this
                      obtain ⟨h1, b', off', hA, hc⟩ := hO2' k cs (by rw [List.getElem?_map, HO.out]; simpa using hj)
                      cases hA
                      exact ⟨h1, _, _, rfl, fun j v hv => by rw [← hc j v hv]; simp [Nat.add_assoc]⟩
                    clear ho h6
                    go_wp2_with (first
                      | (go_at_call 9; refine (play_ls hL (some ⟨b, off + k * 5, none⟩) 1 (c2 - k) [o] hO1 rfl (by decide) (fun z hz => by rw [List.mem_singleton.1 hz]; exact hwf)).mono ?_; rintro e5 w5 ⟨v5, rfl, R5, hL5⟩))
                    exact ⟨⟨k + 1, by go_num, by omega, R5, _, hL5, HDo.out _ hD⟩, by simp [intOf]; omega⟩
                  · clear ho h6
                    go_wp2_with fail
                    exact ⟨⟨k + 1, by go_num, by omega, R, T, hL, hD⟩, by simp [intOf]; omega⟩
              · clear ho
                go_wp2_with (first
                  | (go_at_call 12; refine (tick_ls hL).mono ?_; rintro e5 w5 ⟨v5, rfl, R5, hL5⟩))
                exact ⟨⟨k + 1, i + 1, by go_num, by go_num, by omega, by omega, R5, _, hL5, by have := hD.tick; rw [show x1 - ((i + 1 : Nat) : Int) = x1 - i - 1 by omega]; exact this⟩, by simp [intOf]; omega⟩
            · 
              go_wp2_with (first
                | (go_at_call 12; refine (tick_ls hL).mono ?_; rintro e5 w5 ⟨v5, rfl, R5, hL5⟩))
              exact ⟨⟨k + 1, i + 1, by go_num, by go_num, by omega, by omega, R5, _, hL5, by have := hD.tick; rw [show x1 - ((i + 1 : Nat) : Int) = x1 - i - 1 by omega]; exact this⟩, by simp [intOf]; omega⟩
        · have hi1 : (i : Int) = x1 := by omega
          have hD0 : T.Due 0 := by rw [hi1] at hD; simpa using hD
          have hov := hD0.over hL.inv
          have HOV := Lib.hid hov
          clear hD hD0 hi1 hov
          go_wp2_with fail
          go_loopw [13] (fun v wr => ∃ j : Nat, v = .int .i64 j ∧ j ≤ ids.length ∧ LS (w.alloc (.cells #[.int .i64 x0, .int .i64 x1] 22)) a mb R T (.slice AI ids.length cI) ids wr) (fun v _ => ids.length - (intOf v).toNat)
          case atStart => exact ⟨0, rfl, Nat.zero_le _, hL⟩
          case round =>
            clear hL hcb hfb hlb
            obtain ⟨j, rfl, hj, hL⟩ := hrel
            have hil2 := HIL.out
            by_cases hjl : j < ids.length
            · obtain ⟨g, cap, hv, hg, hcap, hrow⟩ := RowAt.of_owns hL.own (by omega)
              cases hv
              have hcl := hrow.cell hjl
              have hgl := hrow.lt
              obtain ⟨id, hid⟩ : ∃ id, id = ids.getD j 0 := ⟨_, rfl⟩
              rw [← hid] at hcl
              obtain ⟨r, hr⟩ : ∃ r, T.get id = r := ⟨_, rfl⟩
              have hjl' : (j : Int) < ids.length := by omega
              cases r with
              | none =>
                have hget := get_none hL id hr
                clear hid hr
                go_wp2_with (first
                  | (go_at_call 10; refine hget.mono ?_; clear hget; rintro e4 w4 ⟨rfl, hb4⟩))
                exact ⟨⟨j + 1, by go_num, by omega, (hL.below hb4).alloc _⟩, by simp [intOf]; omega⟩
              | some x =>
                have hget := get_some hL id x hr
                obtain ⟨hxm, _⟩ := Tab.get_mem hr
                have hxw := HOV.out x hxm
                have hxo := (hL.inv.outs x hxm).2 hxw
                have hst := (hL.inv.stops hxm).1 hxw
                have h1 : (x.state == 1) = false := by simp; omega
                have h2 : (x.state == 2) = false := by simp; omega
                have h3 : (x.ok == 0) = false := by simp; omega
                clear hid hr hxw hxo hst
                go_wp2_with (first
                  | (go_at_call 10; refine hget.mono ?_; clear hget; rintro e4 w4 ⟨rfl, hb4⟩))
                exact ⟨⟨j + 1, by go_num, by omega, (hL.below hb4).alloc _⟩, by simp [intOf]; omega⟩
            · go_wp2
              go_ret
              exact ⟨rfl, hB0.trans (hL.bel.mono hB0.size)⟩
end Go.Proofs.Ytghoeecgmhcplaa
