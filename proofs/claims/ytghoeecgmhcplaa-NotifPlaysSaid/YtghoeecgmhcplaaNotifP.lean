/- Walk through fairleadlaw21.play. Printed by wip/tools/gen_play.py. -/
import Derived.Test.YtghoeecgmhcplaaNotifH
import Derived.Test.YtghoeecgmhcplaaPlay
set_option linter.unusedVariables false
set_option linter.unusedSimpArgs false
namespace Go.Proofs.Ytghoeecgmhcplaa
open Go Go.RowKit Go.FL

/-- a slice of ops in memory -/
def OpsAt (w : World) (A : Option Addr) (ops : List OpD) : Prop := SlAt w 5 A (ops.map opCells)
/-- one op's cells -/
theorem OpsAt.cells {w : World} {b off : Nat} {ops : List OpD} (h : OpsAt w (some ⟨b, off, none⟩) ops) {i : Nat} {o : OpD} (hi : ops[i]? = some o) :
    w.cell? ⟨b, off + i * 5, none⟩ = some (.int .i64 o.do_) ∧ w.cell? ⟨b, off + i * 5 + 1, none⟩ = some (.int .i64 o.n) ∧ w.cell? ⟨b, off + i * 5 + 2, none⟩ = some (.int .u64 o.id) ∧ w.cell? ⟨b, off + i * 5 + 3, none⟩ = some (.int .i64 o.ok) ∧ w.cell? ⟨b, off + i * 5 + 4, none⟩ = some (.int .i64 o.ov) := by
  obtain ⟨_, b', off', hA, hc⟩ := h i (opCells o) (by rw [List.getElem?_map, hi]; rfl)
  cases hA
  exact ⟨hc 0 _ rfl, by rw [Nat.add_assoc]; exact hc 1 _ rfl, by rw [Nat.add_assoc]; exact hc 2 _ rfl, by rw [Nat.add_assoc]; exact hc 3 _ rfl, by rw [Nat.add_assoc]; exact hc 4 _ rfl⟩

def PlayRel (w : World) (a mb : Nat) (R : RTab) (ops : List OpD) (i : Nat) (v : Value) (wr : World) : Prop :=
  TabTo' w a mb R (playT R.abs (ops.take i)) wr ∧ wr.ownsRow w.heap.size 29 1 v (playI R.abs (ops.take i)).length ((playI R.abs (ops.take i)).map (Value.int .u64))
/-- an op that tells nothing -/
theorem PlayRel.quiet {w wr wr2 w3 : World} {a mb i : Nat} {R R' : RTab} {ops : List OpD} {v : Value} {o : OpD} {T2 : Tab} (h : PlayRel w a mb R ops i v wr) (hT : TabAt' wr a mb R') (hab : R'.abs = playT R.abs (ops.take i)) (hf : ∀ k, R'.foot a mb k → R.foot a mb k ∨ w.heap.size ≤ k) (ho : ops[i]? = some o) (hb : Below wr.heap.size wr wr2)
    (k : TabTo' wr2 a mb R' T2 w3) (hop : R'.abs.op o = T2) (ht : R'.abs.tells o = []) : PlayRel w a mb R ops (i + 1) v w3 := by
  have htk : ops.take (i + 1) = ops.take i ++ [o] := by rw [List.take_add_one, ho]; rfl
  unfold PlayRel
  rw [htk, playT_snoc, playI_snoc, ← hab, hop, ht, List.append_nil]
  refine ⟨TabTo.trans h.1 hb hf k, own_mod (own_mod h.2 (Mod.of_below hb (fun _ => False)) (fun _ _ h => h)) k.mod fun j hj => ?_⟩
  exact (hT.of_below hb (Nat.le_refl _)).not_own (own_mod h.2 (Mod.of_below hb (fun _ => False)) (fun _ _ h => h)) (by decide) (by decide) j hj

set_option maxRecDepth 100000 in
set_option maxHeartbeats 8000000 in
theorem play_any (a mb : Nat) (R : RTab) (A : Option Addr) (n c : Nat) (ops : List OpD) (w : World) (hT : TabAt' w a mb R) (hO : OpsAt w A ops) (hn : ops.length = n) (hn2 : n ≤ 9223372036854775807) (hw : ∀ o ∈ ops, o.Wf) (hd : ∀ b off, A = some ⟨b, off, none⟩ → ops ≠ [] → ¬ R.foot a mb b) :
    Calls Try.prog 9 #[.pointer (some ⟨a, 0, none⟩), .slice A n c] w fun e w' => (∃ v, e = .returned v ∧ w'.ownsRow w.heap.size 29 1 v (playI R.abs (ops.take 200)).length ((playI R.abs (ops.take 200)).map (Value.int .u64))) ∧ TabTo' w a mb R (playT R.abs (ops.take 200)) w' := by
  subst hn
  have HO := Lib.hid hO
  have HW := Lib.hid hw
  have HD := Lib.hid hd
  clear hO hw hd
  go_enter Try.func9, Try.ntmps9
  go_wp2
  go_loopw [5, 6] (fun v5 v wr => ∃ i : Nat, v = .int .i64 i ∧ i ≤ ops.length ∧ i ≤ 200 ∧ PlayRel w a mb R ops i v5 wr) (fun _ v _ => ops.length - (intOf v).toNat)
  case atStart => exact ⟨0, rfl, Nat.zero_le _, by omega, TabTo.same hT (Below.refl _ _), own_nil' _ _ _ _⟩
  case round =>
    obtain ⟨i, rfl, hi, hi2, hP⟩ := hrel
    have HP := Lib.hid hP
    clear hP
    by_cases hil : i < ops.length
    · by_cases hi3 : i < 200
      · obtain ⟨o, ho⟩ : ∃ o, ops[i]? = some o := ⟨_, List.getElem?_eq_getElem hil⟩
        obtain ⟨⟨⟨R', hT', hab, hft⟩, hmod⟩, hown⟩ := HP.out
        have hOr : OpsAt wr A ops := HO.out.of_mod hmod fun b off h => HD.out b off h (by rintro rfl; simp at hil)
        have hsl := hOr i (opCells o) (by rw [List.getElem?_map, ho]; rfl)
        obtain ⟨_, b, off, rfl, hcs⟩ := hsl
        obtain ⟨c0, c1, c2, c3, c4⟩ := hOr.cells ho
        have hblt : b < wr.heap.size := cell_lt c0
        have hwf := HW.out o (List.mem_of_getElem? ho)
        obtain ⟨hid0, hid1⟩ := hwf
        have hil' : (i : Int) < ops.length := by omega
        have hi3' : (i : Int) < 200 := by omega
        have hpl : (playI R.abs (ops.take i)).length ≤ 200 := by have := playI_le R.abs (ops.take i); have := List.length_take_le i ops; omega
        have hws : w.heap.size ≤ wr.heap.size := hmod.size
        have hTa := fun o1 => hT'.of_below ((Below.refl _ wr).alloc (Nat.le_refl _) o1) (Nat.le_refl _)
        have HAB := Lib.hid hab
        have htk : Hid (ops.take (i + 1) = ops.take i ++ [o]) := by show _ = _; rw [List.take_add_one, ho]; rfl
        have HPL := Lib.hid hpl
        have HID1 := Lib.hid hid1
        obtain ⟨d, n, id, ok, ov⟩ := o
        have HOO := Lib.hid ho
        clear hab hpl ho hcs hid1
        dsimp only at c0 c1 c2 c3 c4
        by_cases hd0 : d = 0 ∨ d = 1
        · have hadd := fun o1 => add_any a mb R' n (wr.alloc o1) (hTa o1)
          obtain ⟨⟨T2, rid, re⟩, hres⟩ : ∃ r, R'.abs.add n = r := ⟨_, rfl⟩
          rw [hres] at hadd
          dsimp only at hadd
          have hop : Hid (R'.abs.op ⟨d, n, id, ok, ov⟩ = T2) := by show _ = _; rw [Tab.op, if_pos hd0, hres]
          have htl : Hid (R'.abs.tells ⟨d, n, id, ok, ov⟩ = if re = 0 then [rid] else []) := by show _ = _; rw [Tab.tells, hres]; by_cases h : re = 0 <;> simp [hd0, h]
          clear hres
          have hownA := fun o1 => own_mod hown (Mod.of_below ((Below.refl _ wr).alloc (Nat.le_refl _) o1) (fun _ => False)) (fun _ _ h => h)
          rcases hd0 with rfl | rfl
          all_goals
            by_cases hre : re = 0
            · subst hre
              go_wp2_with (first
                | (at_builtin; refine wpList_app1 w.heap.size rfl _ _ 30 29 _ 8 rfl Try.underlying30 info_u64 rfl (by decide) u5 ((playI R.abs (ops.take i)).map (Value.int .u64)) (.int .u64 rid) rfl rfl rfl (by rw [List.length_map]; exact hown3) (by exact Nat.le_trans hws (Nat.le_trans (by simp) hTo3.mod.size)) (by rw [List.length_map]; have := HPL.out; omega) ?_; intro v4 w4 ho4 hm4 hb4)
                | (go_at_call 20; refine (hadd _).mono ?_; clear hadd; rintro e1 w3 ⟨rfl, hTo3⟩; have hown3 := own_mod (hownA _) hTo3.mod (fun j hj => hT'.not_own hown (by decide) (by decide) j hj)))
              refine ⟨⟨i + 1, by go_num, by omega, by omega, ?_⟩, by simp [intOf]; omega⟩
              have hq := TabTo.trans HP.out.1 ((Below.refl _ wr).alloc (Nat.le_refl _) _) hft hTo3
              unfold PlayRel
              rw [htk.out, playT_snoc, playI_snoc, ← HAB.out, hop.out, htl.out]
              refine ⟨TabTo.then_mod hq hm4 (fun k hk => own_base' hown3 k hk) ?_, by simpa using ho4⟩
              intro R2 hR2 _ _ k hk hk2
              exact hR2.not_own hown3 (by decide) (by decide) k hk2 hk
            · have hre' : (re == 0) = false := by simpa using hre
              have HRE := Lib.hid hre
              clear hre
              go_wp2_with (first
                | (go_at_call 20; refine (hadd _).mono ?_; clear hadd; rintro e1 w3 ⟨rfl, hTo3⟩))
              refine ⟨⟨i + 1, by go_num, by omega, by omega, ?_⟩, by simp [intOf]; omega⟩
              exact HP.out.quiet hT' HAB.out hft HOO.out ((Below.refl _ wr).alloc (Nat.le_refl _) _) hTo3 hop.out (by rw [htl.out, if_neg HRE.out])
        · by_cases hd2 : d = 2 ∨ d = 3
          · have hcall := fun o1 => send_any a mb R' (wr.alloc o1) (hTa o1)
            have hop : Hid (R'.abs.op ⟨d, n, id, ok, ov⟩ = R'.abs.send.1) := by show _ = _; rcases hd2 with rfl | rfl <;> rfl
            have htl : Hid (R'.abs.tells ⟨d, n, id, ok, ov⟩ = []) := by show _ = _; rcases hd2 with rfl | rfl <;> simp [Tab.tells]
            clear hd0
            rcases hd2 with rfl | rfl
            all_goals
              go_wp2_with (first
                | (go_at_call 21; refine (hcall _).mono ?_; clear hcall; rintro e1 w3 ⟨rfl, hTo3⟩))
              refine ⟨⟨i + 1, by go_num, by omega, by omega, ?_⟩, by simp [intOf]; omega⟩
              exact HP.out.quiet hT' HAB.out hft HOO.out ((Below.refl _ wr).alloc (Nat.le_refl _) _) hTo3 hop.out htl.out
          · by_cases hd4 : d = 4
            · have hcall := fun o1 => reply_any a mb R' (IntKind.u64.wrap n) id ok ov (wr.alloc o1) (hTa o1)
              have hop : Hid (R'.abs.op ⟨d, n, id, ok, ov⟩ = (R'.abs.reply (IntKind.u64.wrap n) id ok ov).1) := by show _ = _; rcases hd4 with rfl <;> rfl
              have htl : Hid (R'.abs.tells ⟨d, n, id, ok, ov⟩ = []) := by show _ = _; rcases hd4 with rfl <;> simp [Tab.tells]
              clear hd0 hd2
              rcases hd4 with rfl
              all_goals
                go_wp2_with (first
                  | (go_at_call 15; refine (hcall _).mono ?_; clear hcall; rintro e1 w3 ⟨rfl, hTo3⟩))
                refine ⟨⟨i + 1, by go_num, by omega, by omega, ?_⟩, by simp [intOf]; omega⟩
                exact HP.out.quiet hT' HAB.out hft HOO.out ((Below.refl _ wr).alloc (Nat.le_refl _) _) hTo3 hop.out htl.out
            · by_cases hd5 : d = 5
              · have hcall := fun o1 => kill_any a mb R' n (wr.alloc o1) (hTa o1)
                have hop : Hid (R'.abs.op ⟨d, n, id, ok, ov⟩ = (R'.abs.kill n).1) := by show _ = _; rcases hd5 with rfl <;> rfl
                have htl : Hid (R'.abs.tells ⟨d, n, id, ok, ov⟩ = []) := by show _ = _; rcases hd5 with rfl <;> simp [Tab.tells]
                clear hd0 hd2 hd4
                rcases hd5 with rfl
                all_goals
                  go_wp2_with (first
                    | (go_at_call 22; refine (hcall _).mono ?_; clear hcall; rintro e1 w3 ⟨rfl, hTo3⟩))
                  refine ⟨⟨i + 1, by go_num, by omega, by omega, ?_⟩, by simp [intOf]; omega⟩
                  exact HP.out.quiet hT' HAB.out hft HOO.out ((Below.refl _ wr).alloc (Nat.le_refl _) _) hTo3 hop.out htl.out
              · by_cases hd6 : d = 6
                · have hcall := fun o1 => tick_any a mb R' (wr.alloc o1) (hTa o1)
                  have hop : Hid (R'.abs.op ⟨d, n, id, ok, ov⟩ = R'.abs.tick) := by show _ = _; rcases hd6 with rfl <;> rfl
                  have htl : Hid (R'.abs.tells ⟨d, n, id, ok, ov⟩ = []) := by show _ = _; rcases hd6 with rfl <;> simp [Tab.tells]
                  clear hd0 hd2 hd4 hd5
                  rcases hd6 with rfl
                  all_goals
                    go_wp2_with (first
                      | (go_at_call 12; refine (hcall _).mono ?_; clear hcall; rintro e1 w3 ⟨⟨v2, rfl, _⟩, hTo3⟩))
                    refine ⟨⟨i + 1, by go_num, by omega, by omega, ?_⟩, by simp [intOf]; omega⟩
                    exact HP.out.quiet hT' HAB.out hft HOO.out ((Below.refl _ wr).alloc (Nat.le_refl _) _) hTo3 hop.out htl.out
                · by_cases hd7 : d = 7
                  · have hcall := fun o1 => rise_any a mb R' id (wr.alloc o1) (hTa o1) hid0 HID1.out
                    have hop : Hid (R'.abs.op ⟨d, n, id, ok, ov⟩ = (R'.abs.rise id).1) := by show _ = _; rcases hd7 with rfl <;> rfl
                    have htl : Hid (R'.abs.tells ⟨d, n, id, ok, ov⟩ = []) := by show _ = _; rcases hd7 with rfl <;> simp [Tab.tells]
                    clear hd0 hd2 hd4 hd5 hd6
                    rcases hd7 with rfl
                    all_goals
                      go_wp2_with (first
                        | (go_at_call 14; refine (hcall _).mono ?_; clear hcall; rintro e1 w3 ⟨rfl, hTo3⟩))
                      refine ⟨⟨i + 1, by go_num, by omega, by omega, ?_⟩, by simp [intOf]; omega⟩
                      exact HP.out.quiet hT' HAB.out hft HOO.out ((Below.refl _ wr).alloc (Nat.le_refl _) _) hTo3 hop.out htl.out
                  · by_cases hd8 : d = 8
                    · have hcall := fun o1 => drop_any a mb R' (wr.alloc o1) (hTa o1)
                      have hop : Hid (R'.abs.op ⟨d, n, id, ok, ov⟩ = R'.abs.drop) := by show _ = _; rcases hd8 with rfl <;> rfl
                      have htl : Hid (R'.abs.tells ⟨d, n, id, ok, ov⟩ = []) := by show _ = _; rcases hd8 with rfl <;> simp [Tab.tells]
                      clear hd0 hd2 hd4 hd5 hd6 hd7
                      rcases hd8 with rfl
                      all_goals
                        go_wp2_with (first
                          | (go_at_call 23; refine (hcall _).mono ?_; clear hcall; rintro e1 w3 ⟨rfl, hTo3⟩))
                        refine ⟨⟨i + 1, by go_num, by omega, by omega, ?_⟩, by simp [intOf]; omega⟩
                        exact HP.out.quiet hT' HAB.out hft HOO.out ((Below.refl _ wr).alloc (Nat.le_refl _) _) hTo3 hop.out htl.out
                    · by_cases hd9 : d = 9
                      · have hcall := fun o1 => ended_any a mb R' n (wr.alloc o1) (hTa o1)
                        have hop : Hid (R'.abs.op ⟨d, n, id, ok, ov⟩ = (R'.abs.ended n).1) := by show _ = _; rcases hd9 with rfl <;> rfl
                        have htl : Hid (R'.abs.tells ⟨d, n, id, ok, ov⟩ = []) := by show _ = _; rcases hd9 with rfl <;> simp [Tab.tells]
                        clear hd0 hd2 hd4 hd5 hd6 hd7 hd8
                        rcases hd9 with rfl
                        all_goals
                          go_wp2_with (first
                            | (go_at_call 11; refine (hcall _).mono ?_; clear hcall; rintro e1 w3 ⟨rfl, hTo3⟩))
                          refine ⟨⟨i + 1, by go_num, by omega, by omega, ?_⟩, by simp [intOf]; omega⟩
                          exact HP.out.quiet hT' HAB.out hft HOO.out ((Below.refl _ wr).alloc (Nat.le_refl _) _) hTo3 hop.out htl.out
                      · have hop : Hid (R'.abs.op ⟨d, n, id, ok, ov⟩ = R'.abs) := by show _ = _; simp [Tab.op, hd0, hd2, hd4, hd5, hd6, hd7, hd8, hd9]
                        have htl : Hid (R'.abs.tells ⟨d, n, id, ok, ov⟩ = []) := by show _ = _; simp [Tab.tells, hd0]
                        have hk0 : (d == 0) = false := by simp; omega
                        have hk1 : (d == 1) = false := by simp; omega
                        have hk2 : (d == 2) = false := by simp; omega
                        have hk3 : (d == 3) = false := by simp; omega
                        have hk4 : (d == 4) = false := by simp; omega
                        have hk5 : (d == 5) = false := by simp; omega
                        have hk6 : (d == 6) = false := by simp; omega
                        have hk7 : (d == 7) = false := by simp; omega
                        have hk8 : (d == 8) = false := by simp; omega
                        have hk9 : (d == 9) = false := by simp; omega
                        clear hd0 hd2 hd4 hd5 hd6 hd7 hd8 hd9
                        go_wp2_with fail
                        refine ⟨⟨i + 1, by go_num, by omega, by omega, ?_⟩, by simp [intOf]; omega⟩
                        exact HP.out.quiet hT' HAB.out hft HOO.out ((Below.refl _ wr).alloc (Nat.le_refl _) _) (TabTo.same (hTa _) (Below.refl _ _)) hop.out htl.out
      · have hie : Hid (ops.take 200 = ops.take i) := by show _ = _; rw [show i = 200 by omega]
        have hi4 : decide ((i : Int) < 200) = false := by simp; omega
        go_wp2
        go_ret
        have hP := HP.out
        unfold PlayRel at hP
        rw [hie.out]
        exact ⟨⟨_, rfl, hP.2⟩, hP.1⟩
    · have hie : Hid (ops.take 200 = ops.take i) := by show _ = _; rw [List.take_of_length_le (by omega), List.take_of_length_le (by omega)]
      go_wp2
      go_ret
      have hP := HP.out
      unfold PlayRel at hP
      rw [hie.out]
      exact ⟨⟨_, rfl, hP.2⟩, hP.1⟩
end Go.Proofs.Ytghoeecgmhcplaa
