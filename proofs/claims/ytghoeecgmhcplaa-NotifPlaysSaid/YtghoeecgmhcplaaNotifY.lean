/- Walk through fairleadlaw21.NotifPlays. -/
import Derived.Test.YtghoeecgmhcplaaDoes
import Derived.Test.YtghoeecgmhcplaaNotifQ
set_option linter.unusedVariables false
set_option linter.unusedSimpArgs false
namespace Go.Proofs.Ytghoeecgmhcplaa
open Go Go.RowKit Go.FL

theorem below_drewN' (w : World) (n : Nat) : Below w.heap.size w (w.drewN n) := ⟨rfl, rfl, rfl, Nat.le_refl _, fun _ _ => rfl⟩
theorem PS.drewN {w0 w : World} {a mb r : Nat} {bs : List (Nat × Array Value × TypeId)} {Tt Tr : Tab} (h : PS w0 a mb r bs Tt Tr w) (n : Nat) : PS w0 a mb r bs Tt Tr (w.drewN n) := h.below (below_drewN' w n)
theorem PS.refc {w0 w : World} {a mb r : Nat} {bs : List (Nat × Array Value × TypeId)} {Tt Tr : Tab} (h : PS w0 a mb r bs Tt Tr w) : ∃ A c, RefAt' w r (.slice A Tr.L.length c) Tr := by
  obtain ⟨R, v, h1, h2, h3, h4, h5, h6, h7⟩ := h.ex
  obtain ⟨A, c, rfl⟩ := h3.slice
  exact ⟨A, c, h3⟩

set_option maxRecDepth 100000 in
set_option maxHeartbeats 3200000 in
theorem plays_walk (x0 x1 first : Int) (A : Option Addr) (c : Nat) (l : List OpD) (w : World) (hO : OpsAt w A l) (hl : l.length ≤ 9223372036854775807) (hw : ∀ o ∈ l, o.Wf) (hf0 : 0 ≤ first) (hf1 : first ≤ 18446744073709551615) :
    Calls Try.prog 6 #[.agg #[.int .i64 x0, .int .i64 x1], .int .u64 first, .slice A l.length c] w fun e w' => e = .returned (.bool true) ∧ Below w.heap.size w w' := by
  have hB0 := below_box w (.cells #[.int .i64 x0, .int .i64 x1] 22)
  have hO' : OpsAt (w.alloc (.cells #[.int .i64 x0, .int .i64 x1] 22)) A l := SlAt.of_below hO hB0 (Nat.le_refl _)
  have haw := awake_any (w.alloc (.cells #[.int .i64 x0, .int .i64 x1] 22))
  by_cases hno : x0 < 1 ∨ 8 < x0 ∨ x1 < 1 ∨ 1000 < x1
  · have HO := Lib.hid hO
    have HW := Lib.hid hw
    clear hO' hO hw hf0 hf1
    go_enter Try.func6, Try.ntmps6
    go_wp2_with (first
      | (go_at_call 7; refine haw.mono ?_; clear haw; rintro e1 w1 ⟨rfl, hb1⟩; obtain ⟨hc1, hf1, hl1', -, -⟩ := own_alloc hb1)
      | (go_at_call 8; refine (new_no x0 x1 first w1 hno).mono ?_; rintro e2 w2 ⟨rfl, rfl⟩)
      | (go_at_call 17; refine (rnew_no x0 x1 first _ hno).mono ?_; rintro e3 w3 ⟨rfl, rfl⟩))
    go_loopw [12] (fun v wr => v = .int .i64 0 ∧ wr = w1) (fun v _ => 0)
    case atStart => exact ⟨rfl, rfl⟩
    case round =>
      obtain ⟨rfl, rfl⟩ := hrel
      by_cases hln : (0 : Int) < l.length
      · go_wp2
        go_ret
        exact ⟨rfl, hB0.trans (hb1.mono hB0.size)⟩
      · go_wp2
        go_ret
        exact ⟨rfl, hB0.trans (hb1.mono hB0.size)⟩
  · have g1 : 1 ≤ x0 := by omega
    have g2 : x0 ≤ 8 := by omega
    have g3 : 1 ≤ x1 := by omega
    have g4 : x1 ≤ 1000 := by omega
    have c1 := fun w1 => new_yes x0 x1 first w1 g1 g2 g3 g4 hf0 hf1
    have c2 := fun w1 => rnew_yes x0 x1 first w1 g1 g2 g3 g4
    have hin := fresh_inv g1 g2 g3 g4 hf0 hf1
    have HIN := Lib.hid hin
    have HW := Lib.hid hw
    have HO := Lib.hid hO'
    clear hO hO' hin hw hf0 hf1 hno g1 g2 g3 g4
    go_enter Try.func6, Try.ntmps6
    go_wp2_with (first
      | (go_at_call 7; refine haw.mono ?_; clear haw; rintro e1 w1 ⟨rfl, hb1⟩; obtain ⟨hc1, hf1, hl1', -, -⟩ := own_alloc hb1)
      | (go_at_call 8; refine (c1 _).mono ?_; clear c1; rintro e2 w2 ⟨rfl, hT2, hb2, hs2⟩; have hc2 := cells_below hb2 hl1' hc1; have hl2 : w.heap.size < w2.heap.size := Nat.lt_of_lt_of_le hl1' hb2.size)
      | (go_at_call 17; refine (c2 _).mono ?_; clear c2; rintro e3 w3 ⟨rfl, hR3, hb3, hs3⟩))
    have hsz0 := hb1.size
    have hps : PS (w.alloc (.cells #[.int .i64 x0, .int .i64 x1] 22)) (w1.heap.size + 1) w1.heap.size (w1.heap.size + 2) [] (RTab.fresh x0 x1 first).abs (RTab.fresh x0 x1 first).abs w3 := by
      rw [← hs2]
      refine ⟨⟨RTab.fresh x0 x1 first, .slice none 0 0, hT2.of_below hb3 (Nat.le_refl _), rfl, hR3, fun k hk hf => ?_, fun k hk => ?_, fun k hk => ?_, fun x hx => by cases hx⟩, hb1.trans ((hb2.trans (hb3.mono hb2.size)).mono hb1.size), HIN.out, HIN.out⟩
      · have := hT2.lt hk
        rcases hf with rfl | hf
        · exact Nat.lt_irrefl _ this
        · simp [Value.ownBlock] at hf
      · rcases hk with rfl | rfl | ⟨e, he, _⟩
        · omega
        · omega
        · cases he
      · rcases hk with rfl | hf
        · have := hb2.size; omega
        · simp [Value.ownBlock] at hf
    generalize (RTab.fresh x0 x1 first).abs = T0 at hps
    generalize w1.heap.size + 2 = r at hps ⊢
    generalize w1.heap.size + 1 = a at hps ⊢
    generalize w1.heap.size = mb at hps ⊢
    clear hT2 hR3 hc1 hf1 hc2 hl2 hs2 hs3 hb1 hb2 hb3 hsz0 hl1'
    go_loopw [12] (fun v wr => ∃ (i : Nat) (T : Tab), v = .int .i64 i ∧ i ≤ l.length ∧ PS (w.alloc (.cells #[.int .i64 x0, .int .i64 x1] 22)) a mb r [] T T wr) (fun v _ => l.length - (intOf v).toNat)
    case atStart => exact ⟨0, T0, rfl, Nat.zero_le _, hps⟩
    case round =>
      clear hps
      obtain ⟨i, T, rfl, hi, hP⟩ := hrel
      have HP := Lib.hid hP
      clear hP
      by_cases hil : i < l.length
      · by_cases hi2 : i < 200
        · obtain ⟨o, ho⟩ : ∃ o, l[i]? = some o := ⟨_, List.getElem?_eq_getElem hil⟩
          have hOr : OpsAt wr A l := SlAt.of_below HO.out HP.out.bel (Nat.le_refl _)
          obtain ⟨_, b, off, rfl, _⟩ := hOr i (opCells o) (by rw [List.getElem?_map, ho]; rfl)
          obtain ⟨k0, k1, k2, k3, k4⟩ := hOr.cells ho
          have hblt : b < wr.heap.size := cell_lt k0
          have hil' : (i : Int) < l.length := by omega
          have hi2' : (i : Int) < 200 := by omega
          have hwf := HW.out o (List.mem_of_getElem? ho)
          have hdo := does_any HP.out o hwf
          generalize T.op o = T2 at hdo
          clear hOr ho hwf
          go_upto_region 10 with (first
            | (go_at_call 18; refine hdo.mono ?_; clear hdo; rintro e4 w4 ⟨rfl, h4⟩; obtain ⟨A4, c4, hR4⟩ := h4.refc; have hc4 := cells_of hR4.rb; have hl4 := hR4.lt; have H4 := Lib.hid h4; have HR4 := Lib.hid hR4; clear h4 hR4))
          go_quiet (first
            | (go_at_call 19; exact Calls.quiet_of_same ((tlen_ps (H4.out.drewN _)).mono fun _ _ h => ⟨h.1, h.2.symm⟩))
            | (go_at_call 13; exact Calls.quiet_of_same ((tepoch_ps (H4.out.drewN _)).mono fun _ _ h => ⟨h.1, h.2.symm⟩))
            | (go_at_call 19; exact Calls.quiet_of_same ((tlen_ps H4.out).mono fun _ _ h => ⟨h.1, h.2.symm⟩))
            | (go_at_call 13; exact Calls.quiet_of_same ((tepoch_ps H4.out).mono fun _ _ h => ⟨h.1, h.2.symm⟩)))
          go_wp2
          have hl8 := H4.out.len8
          obtain ⟨n, hn⟩ : ∃ n, T2.L.length = n := ⟨_, rfl⟩
          rw [hn] at hl8
          have HN := Lib.hid hn
          have HL8 := Lib.hid hl8
          clear hc4 hl4 hn k0 k1 k2 k3 k4 hblt
          go_loopw [14] (fun v wr => ∃ k : Nat, v = .int .i64 k ∧ k ≤ n ∧ PS (w.alloc (.cells #[.int .i64 x0, .int .i64 x1] 22)) a mb r [] T2 T2 wr) (fun v _ => n - (intOf v).toNat)
          case atStart => exact ⟨0, rfl, Nat.zero_le _, H4.out.drewN _⟩
          case round =>
            obtain ⟨k, rfl, hk, hQ⟩ := hrel
            obtain ⟨A5, c5, hR5⟩ := hQ.refc
            rw [HN.out] at hR5
            have hc5 := cells_of hR5.rb
            have hl5 := hR5.lt
            by_cases hkn : k < n
            · have hkn' : (k : Int) < n := by omega
              obtain ⟨x, hx⟩ : ∃ x, T2.L[k]? = some x := ⟨_, List.getElem?_eq_getElem (by rw [HN.out]; exact hkn)⟩
              have hxm := List.mem_of_getElem? hx
              have hget := tget_ps hQ x.id
              rw [hQ.iT.get_of hxm] at hget
              have hget' : Calls Try.prog 10 #[.pointer (some ⟨a, 0, none⟩), .int .u64 x.id] _ fun e w' => e = .returned (.tuple #[.agg #[.int .u64 x.id, .int .i64 x.task, .int .i64 x.state, .int .i64 x.left, .int .i64 x.ok, .int .i64 x.ov], .bool true]) ∧ Below _ _ w' := hget
              obtain ⟨g, c6, hv, hg, hgr, hfz, k0, k1, k2, k3, k4, k5⟩ := hR5.elem hx
              rw [HN.out] at hv
              cases hv
              have HX := Lib.hid hx
              have HR5 := Lib.hid hR5
              have HQ := Lib.hid hQ
              clear hx hxm hget hR5 hQ hfz
              go_wp2_with (first
                | (go_at_call 10; refine hget'.mono ?_; clear hget'; rintro e6 w6 ⟨rfl, hb6⟩; have hR6 := HR5.out.of_below hb6; have hc6 := cells_of hR6.rb; have hl6 := hR6.lt; obtain ⟨hg6, -, -, q0, q1, q2, q3, q4, q5⟩ := hR6.elem' HX.out; have HB6 := Lib.hid hb6; clear hR6 hb6 k0 k1 k2 k3 k4 k5 hc5))
              go_quiet (fail)
              go_wp2
              exact ⟨⟨k + 1, by go_num, by omega, ((HQ.out.below HB6.out).alloc _).drewN _⟩, by simp [intOf]; omega⟩
            · have hkn' : ¬ (k : Int) < n := by omega
              have HQ := Lib.hid hQ
              clear hR5 hQ
              go_wp2
              exact ⟨⟨i + 1, T2, by go_num, by omega, HQ.out⟩, by simp [intOf]; omega⟩
        · have hi2' : ¬ (i : Int) < 200 := by omega
          have hil' : (i : Int) < l.length := by omega
          go_wp2
          go_ret
          exact ⟨rfl, hB0.trans (HP.out.bel.mono hB0.size)⟩
      · have hil' : ¬ (i : Int) < l.length := by omega
        go_wp2
        go_ret
        exact ⟨rfl, hB0.trans (HP.out.bel.mono hB0.size)⟩
end Go.Proofs.Ytghoeecgmhcplaa
