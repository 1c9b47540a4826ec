/- Walks through the reference's methods: Drop, Rise, Tick. -/
import Derived.Test.YtghoeecgmhcplaaRefB
import Derived.Test.YtghoeecgmhcplaaNotifF
set_option linter.unusedVariables false
set_option linter.unusedSimpArgs false
namespace Go.Proofs.Ytghoeecgmhcplaa
open Go Go.RowKit Go.FL

/-- the first i entries are turned -/
def mapTo (f : Ent → Ent) (i : Nat) (L : List Ent) : List Ent := (L.take i).map f ++ L.drop i
theorem mapTo_zero (f : Ent → Ent) (L : List Ent) : mapTo f 0 L = L := by simp [mapTo]
theorem mapTo_all (f : Ent → Ent) (L : List Ent) : mapTo f L.length L = L.map f := by simp [mapTo]
theorem mapTo_length (f : Ent → Ent) (i : Nat) (L : List Ent) : (mapTo f i L).length = L.length := by simp [mapTo]; omega
theorem mapTo_get {f : Ent → Ent} {i : Nat} {L : List Ent} {x : Ent} (h : L[i]? = some x) : (mapTo f i L)[i]? = some x := by
  have hl := (List.getElem?_eq_some_iff.1 h).1
  unfold mapTo
  rw [List.getElem?_append_right (by simp [List.length_take]; omega)]
  simp only [List.length_map, List.length_take, List.getElem?_drop]
  rw [show i + (i - min i L.length) = i from by omega]; exact h
theorem mapTo_succ {f : Ent → Ent} {i : Nat} {L : List Ent} {x : Ent} (h : L[i]? = some x) : mapTo f (i + 1) L = (mapTo f i L).set i (f x) := by
  have hl := (List.getElem?_eq_some_iff.1 h).1
  have hx := (List.getElem?_eq_some_iff.1 h).2
  unfold mapTo
  rw [List.set_append_right _ _ (by simp [List.length_take]; omega)]
  rw [List.take_succ_eq_append_getElem hl, List.map_append, List.append_assoc]
  congr 1
  simp only [List.length_map, List.length_take]
  rw [show i - min i L.length = 0 from by omega, List.drop_eq_getElem_cons hl, hx]
  simp
theorem mapTo_same {f : Ent → Ent} {i : Nat} {L : List Ent} {x : Ent} (h : L[i]? = some x) (hf : f x = x) : mapTo f (i + 1) L = mapTo f i L := by
  rw [mapTo_succ h, hf]
  have := mapTo_get (f := f) h
  obtain ⟨hl, he⟩ := List.getElem?_eq_some_iff.1 this
  rw [← he]; exact List.set_getElem_self hl

set_option maxHeartbeats 1600000 in
theorem rdrop_any (r : Nat) (v : Value) (T : Tab) (w : World) (h : RefAt' w r v T) (hl : T.L.length ≤ 8) :
    Calls Try.prog 35 #[.pointer (some ⟨r, 0, none⟩)] w fun e w' => e = .returned (.tuple #[]) ∧ RefTo' w r v T.drop w' := by
  obtain ⟨A, c, rfl⟩ := h.slice
  have hr := h.lt
  obtain ⟨n, hn⟩ : ∃ n, T.L.length = n := ⟨_, rfl⟩
  rw [hn] at hl
  have HH := Lib.hid h
  have HN := Lib.hid hn
  have HL8 := Lib.hid hl
  rw [hn]
  clear hn h
  go_enter Try.func35, Try.ntmps35
  go_wp2
  go_loopw [2] (fun s wr => ∃ i : Nat, s = .int .i64 i ∧ i ≤ n ∧ RefAt' wr r (.slice A n c) { T with L := mapTo Ent.drop i T.L } ∧ Mod (refF r (.slice A n c)) w wr) (fun s _ => n - (intOf s).toNat)
  case atStart =>
    have h := HH.out
    rw [HN.out] at h
    exact ⟨0, rfl, Nat.zero_le _, by rw [mapTo_zero]; exact h, Mod.refl _ _⟩
  case round =>
    obtain ⟨i, rfl, hi, hR, hM⟩ := hrel
    have hc := cells_of hR.rb
    have hrr := hR.lt
    by_cases hin : i < n
    · have hin' : (i : Int) < n := by omega
      obtain ⟨x, hx⟩ : ∃ x, T.L[i]? = some x := ⟨_, List.getElem?_eq_getElem (by rw [HN.out]; exact hin)⟩
      have hgx := mapTo_get (f := Ent.drop) hx
      have hll : (mapTo Ent.drop i T.L).length ≤ 8 := by rw [mapTo_length, HN.out]; exact HL8.out
      have HX := Lib.hid hx
      cases hw : x.waits with
      | true =>
        have hgo := rgone_yes r _ _ i x 7 wr hR hll hgx hw
        have HS : Hid ((mapTo Ent.drop i T.L).set i (x.gone 7) = mapTo Ent.drop (i + 1) T.L) := by show _ = _; rw [mapTo_succ HX.out]; simp [Ent.drop, hw]
        clear hx hgx hll hw hR
        go_wp2_with (first
          | (go_at_call 41; refine hgo.mono ?_; clear hgo; rintro e1 w1 ⟨rfl, hR1, hM1⟩))
        refine ⟨⟨i + 1, by go_num, by omega, ?_, hM.trans hM1 (fun _ _ h => h)⟩, by simp [intOf]; omega⟩
        rw [← HS.out]; exact hR1
      | false =>
        have hgo := rgone_no r _ _ i x 7 wr hR hll hgx hw
        have HS : Hid (mapTo Ent.drop i T.L = mapTo Ent.drop (i + 1) T.L) := by show _ = _; rw [mapTo_same HX.out (by simp [Ent.drop, hw])]
        have HR := Lib.hid hR
        clear hx hgx hll hw hR
        go_wp2_with (first
          | (go_at_call 41; refine hgo.mono ?_; clear hgo; rintro e1 w1 ⟨rfl, hB1⟩))
        refine ⟨⟨i + 1, by go_num, by omega, ?_, hM.then_below hB1⟩, by simp [intOf]; omega⟩
        rw [← HS.out]; exact HR.out.of_below hB1
    · have hin' : ¬ (i : Int) < n := by omega
      have HR := Lib.hid hR
      clear hR
      go_wp2
      go_end0
      have he : mapTo Ent.drop i T.L = T.drop.L := by rw [show i = T.L.length from by rw [HN.out]; omega, mapTo_all]; rfl
      refine ⟨rfl, RefAt.to (T' := T.drop) ?_ hM⟩
      have := HR.out
      rw [he] at this
      exact this

set_option maxHeartbeats 800000 in
theorem rrise_any (r : Nat) (v : Value) (T : Tab) (ep : Int) (w : World) (h : RefAt' w r v T) (hl : T.L.length ≤ 8) (q : Tab × Int) (hq : T.rise ep = q) :
    Calls Try.prog 34 #[.pointer (some ⟨r, 0, none⟩), .int .u64 ep] w fun e w' => e = .returned (.int .i64 q.2) ∧ RefTo' w r v q.1 w' := by
  have hr := h.lt
  have hc := cells_of h.rb
  have hf := frees_of h.rb
  have HH := Lib.hid h
  by_cases hle : ep ≤ T.epoch
  · have he : Hid (q = (T, 22)) := by show _ = _; rw [← hq, Tab.rise, if_pos hle]
    clear h hq
    go_enter Try.func34, Try.ntmps34
    go_wp2
    go_ret
    rw [he.out]
    exact ⟨rfl, RefTo.same HH.out (Below.refl _ _)⟩
  · have he : Hid (q = ({ T with epoch := ep }.drop, 0)) := by show _ = _; rw [← hq, Tab.rise, if_neg hle]
    have h1 : RefAt' (w.setCell ⟨r, 4, none⟩ (.int .u64 ep)) r v { T with epoch := ep } :=
      ⟨setCell_heap (i := 4) (v := .int .u64 ep) h.rb, own_mod h.row ((Mod.refl (· = r) w).set (i := 4) (fun _ => rfl) _) (fun k hk e => own_ne h.row h.rb h.ne k hk e), h.ne⟩
    have hdr := rdrop_any r v { T with epoch := ep } _ h1 hl
    clear h hq h1
    go_enter Try.func34, Try.ntmps34
    go_wp2_with (first
      | (go_at_call 35; refine hdr.mono ?_; clear hdr; rintro e1 w1 ⟨rfl, hR1, hM1⟩))
    go_ret
    rw [he.out]
    obtain ⟨v', h2, h3⟩ := hR1
    exact ⟨rfl, ⟨v', h2, fun k hk => by have := h3 k hk; rwa [setCell_size] at this⟩, ((Mod.refl (refF r v) w).set (i := 4) (fun _ => .inl rfl) _).trans hM1 (fun _ _ h => h)⟩

/-- the IDs that a tick ends among the first i -/
def lateTo (i : Nat) (L : List Ent) : List Int := ((L.take i).filter fun x => x.waits && x.left == 1).map Ent.id
theorem lateTo_succ {i : Nat} {L : List Ent} {x : Ent} (h : L[i]? = some x) : lateTo (i + 1) L = lateTo i L ++ (if (x.waits && x.left == 1) = true then [x.id] else []) := by
  unfold lateTo
  rw [List.take_add_one, h, List.filter_append, List.map_append]
  cases hh : (x.waits && x.left == 1) <;> simp [hh]
theorem lateTo_le (i : Nat) (L : List Ent) : (lateTo i L).length ≤ L.length := by
  unfold lateTo
  rw [List.length_map]
  exact Nat.le_trans (List.length_filter_le _ _) (by simp [List.length_take]; omega)

set_option maxHeartbeats 3200000 in
theorem rtick_any (r : Nat) (v : Value) (T : Tab) (w : World) (h : RefAt' w r v T) (hinv : T.Inv) :
    Calls Try.prog 33 #[.pointer (some ⟨r, 0, none⟩)] w fun e w' => (∃ v, e = .returned v ∧ w'.ownsRow w.heap.size 29 1 v T.late.length (T.late.map (Value.int .u64))) ∧ RefTo' w r v T.tick w' := by
  have hl : T.L.length ≤ 8 := by have := hinv.len; have := hinv.size8; omega
  have HBD : Hid (∀ x ∈ T.L, x.waits = true → 1 ≤ x.left ∧ x.left ≤ 1000) := fun x hx hw => by
    have := hinv.left x hx hw
    have := hinv.wait2
    omega
  clear hinv
  obtain ⟨A, c, rfl⟩ := h.slice
  have hr := h.lt
  obtain ⟨n, hn⟩ : ∃ n, T.L.length = n := ⟨_, rfl⟩
  rw [hn] at hl
  have HH := Lib.hid h
  have HLOW := Lib.hid (fun k (hk : refF r (.slice A T.L.length c) k) => h.low hk)
  have HN := Lib.hid hn
  have HL8 := Lib.hid hl
  rw [hn] at HLOW ⊢
  clear hn h
  go_enter Try.func33, Try.ntmps33
  go_wp2
  go_loopw [3, 4] (fun v3 s wr => ∃ i : Nat, s = .int .i64 i ∧ i ≤ n ∧ RefAt' wr r (.slice A n c) { T with L := mapTo Ent.tick i T.L } ∧ Mod (refF r (.slice A n c)) w wr ∧ wr.ownsRow w.heap.size 29 1 v3 (lateTo i T.L).length ((lateTo i T.L).map (Value.int .u64))) (fun _ s _ => n - (intOf s).toNat)
  case atStart =>
    have h := HH.out
    rw [HN.out] at h
    exact ⟨0, rfl, Nat.zero_le _, by rw [mapTo_zero]; exact h, Mod.refl _ _, own_nil' _ _ _ _⟩
  case round =>
    obtain ⟨i, rfl, hi, hR, hM, hout⟩ := hrel
    have hc := cells_of hR.rb
    have hrr := hR.lt
    have hsz := hM.size
    have hlt8 : (lateTo i T.L).length ≤ 8 := Nat.le_trans (lateTo_le _ _) (by rw [HN.out]; exact HL8.out)
    have HLT8 := Lib.hid hlt8
    by_cases hin : i < n
    · have hin' : (i : Int) < n := by omega
      obtain ⟨x, hx⟩ : ∃ x, T.L[i]? = some x := ⟨_, List.getElem?_eq_getElem (by rw [HN.out]; exact hin)⟩
      have hgx := mapTo_get (f := Ent.tick) hx
      have hll : (mapTo Ent.tick i T.L).length ≤ 8 := by rw [mapTo_length, HN.out]; exact HL8.out
      have hlts := lateTo_succ hx
      have HX := Lib.hid hx
      have HGX := Lib.hid hgx
      have HLL := Lib.hid hll
      have HLTS := Lib.hid hlts
      obtain ⟨g, c', hv, hg, hgr, hfz, k0, k1, k2, k3, k4, k5⟩ := hR.elem hgx
      have hml : (mapTo Ent.tick i T.L).length = n := by rw [mapTo_length, HN.out]
      rw [hml] at hv
      cases hv
      have HR := Lib.hid hR
      have HOUT := Lib.hid hout
      clear hlts hgx hll hlt8 hml hR hout
      cases hw : x.waits with
      | true =>
        obtain ⟨hb1, hb2⟩ := HBD.out x (List.mem_of_getElem? hx) hw
        have hwc := fun w => rwaits_any x w true hw
        have h2 := HR.out.store (y := { x with left := x.left - 1 }) HGX.out 3 (.int .i64 (x.left - 1)) (by omega) rfl
        have hx2 : ({ T with L := (mapTo Ent.tick i T.L).set i { x with left := x.left - 1 } } : Tab).L[i]? = some { x with left := x.left - 1 } := by simp [(List.getElem?_eq_some_iff.1 HGX.out).1]
        have hll2 : ({ T with L := (mapTo Ent.tick i T.L).set i { x with left := x.left - 1 } } : Tab).L.length ≤ 8 := by show ((mapTo Ent.tick i T.L).set i _).length ≤ 8; rw [List.length_set]; exact HLL.out
        have hM2 : Mod (refF r (.slice (some ⟨g, 0, none⟩) n c)) w (wr.setCell ⟨g, i * 6 + 3, none⟩ (.int .i64 (x.left - 1))) := hM.set (fun _ => .inr rfl) _
        have hM2a : Mod (refF r (.slice (some ⟨g, 0, none⟩) n c)) wr (wr.setCell ⟨g, i * 6 + 3, none⟩ (.int .i64 (x.left - 1))) := (Mod.refl _ wr).set (fun _ => .inr rfl) _
        have HM2A := Lib.hid hM2a
        have HDIS : Hid (∀ k, u3.ownBlock = some k → ¬ refF r (.slice (some ⟨g, 0, none⟩) n c) k) := fun k hk hf => by
          have := own_base' HOUT.out k hk
          have := HLOW.out k hf
          omega
        by_cases hl1 : x.left = 1
        · have hgo := fun o => rgone_yes r _ _ i _ 6 ((wr.setCell ⟨g, i * 6 + 3, none⟩ (.int .i64 (x.left - 1))).alloc o) (h2.of_below (below_box _ o)) hll2 hx2 (show ({ x with left := x.left - 1 } : Ent).waits = true from hw)
          have HS : Hid (((mapTo Ent.tick i T.L).set i { x with left := x.left - 1 }).set i (({ x with left := x.left - 1 } : Ent).gone 6) = mapTo Ent.tick (i + 1) T.L) := by
            show _ = _
            rw [List.set_set, mapTo_succ HX.out]
            simp [Ent.tick, hw, hl1]
          have hl1' : (x.left - 1 == 0) = true := by simp [hl1]
          have HLT : Hid (lateTo (i + 1) T.L = lateTo i T.L ++ [x.id]) := by show _ = _; rw [HLTS.out, if_pos (by simp [hw, hl1])]
          have HM2 := Lib.hid hM2
          clear hx hx2 hll2 h2 hw hl1 hM2 hM2a
          have hx4 : (((mapTo Ent.tick i T.L).set i { x with left := x.left - 1 }).set i (({ x with left := x.left - 1 } : Ent).gone 6))[i]? = some (({ x with left := x.left - 1 } : Ent).gone 6) := by simp [(List.getElem?_eq_some_iff.1 HGX.out).1]
          have HX4 := Lib.hid hx4
          clear hx4
          go_wp2_with (first
            | (at_builtin; refine wpList_app1 w.heap.size rfl _ _ 30 29 _ 8 rfl Try.underlying30 info_u64 rfl (by decide) u3 ((lateTo i T.L).map (Value.int .u64)) (.int .u64 x.id) rfl rfl rfl (by rw [List.length_map]; exact HO2.out) HS2.out (by rw [List.length_map]; have := HLT8.out; omega) ?_; intro v3 w3 ho3 hm4 hb4)
            | (go_at_call 42; refine (hwc _).mono ?_; clear hwc; rintro e1 w1 ⟨rfl, rfl⟩)
            | (go_at_call 41; refine (hgo _).mono ?_; clear hgo; rintro e1 w2 ⟨rfl, hR2, hM3⟩; have hc2 := cells_of hR2.rb; have hrr2 := hR2.lt; obtain ⟨hg2, -, -, q0, -, -, -, -, -⟩ := hR2.elem' HX4.out; have HMM := Lib.hid ((HM2A.out.alloc _).trans hM3 (fun _ _ h => h)); have HO2 := Lib.hid (own_mod HOUT.out HMM.out HDIS.out); have HS2 := Lib.hid (Nat.le_trans hsz HMM.out.size); have HR2 := Lib.hid hR2; clear hR2 hM3 k0 k1 k2 k3 k4 k5 hfz))
          have hm34 : Mod (fun k => u3.ownBlock = some k) w2 w3 := hm4
          refine ⟨⟨i + 1, by go_num, by omega, ?_, ?_, ?_⟩, by simp [intOf]; omega⟩
          · rw [← HS.out]
            exact HR2.out.of_mod hm34 (fun k hk hf => HDIS.out k hf hk)
          · exact (hM.trans HMM.out (fun _ _ h => h)).trans hm34 (fun k hk hf => by have := own_base' HOUT.out k hf; omega)
          · rw [HLT.out]; simpa using ho3
        · have hl1' : (x.left - 1 == 0) = false := by simp; omega
          have HS : Hid ((mapTo Ent.tick i T.L).set i { x with left := x.left - 1 } = mapTo Ent.tick (i + 1) T.L) := by
            show _ = _
            rw [mapTo_succ HX.out]
            have : ¬ x.left - 1 = 0 := by omega
            simp [Ent.tick, hw, this]
          have HLT : Hid (lateTo (i + 1) T.L = lateTo i T.L) := by show _ = _; rw [HLTS.out, if_neg (by simp [hw, hl1])]; simp
          have HM2 := Lib.hid hM2
          have H2 := Lib.hid h2
          clear hx hx2 hll2 h2 hw hl1 hM2 hM2a
          go_wp2_with (first
            | (go_at_call 42; refine (hwc _).mono ?_; clear hwc; rintro e1 w1 ⟨rfl, rfl⟩))
          refine ⟨⟨i + 1, by go_num, by omega, ?_, HM2.out.alloc _, ?_⟩, by simp [intOf]; omega⟩
          · rw [← HS.out]; exact H2.out.of_below (below_box _ _)
          · rw [HLT.out]
            exact own_mod (own_mod HOUT.out HM2A.out HDIS.out) (Mod.of_below (below_box _ _) (fun _ => False)) (fun _ _ h => h)
      | false =>
        have hwc := fun w => rwaits_any x w false hw
        have HS : Hid (mapTo Ent.tick i T.L = mapTo Ent.tick (i + 1) T.L) := by show _ = _; rw [mapTo_same HX.out (by simp [Ent.tick, hw])]
        have HLT : Hid (lateTo (i + 1) T.L = lateTo i T.L) := by show _ = _; rw [HLTS.out, if_neg (by simp [hw])]; simp
        clear hx hw
        go_wp2_with (first
          | (go_at_call 42; refine (hwc _).mono ?_; clear hwc; rintro e1 w1 ⟨rfl, rfl⟩))
        refine ⟨⟨i + 1, by go_num, by omega, ?_, hM.alloc _, ?_⟩, by simp [intOf]; omega⟩
        · rw [← HS.out]; exact HR.out.of_below (below_box _ _)
        · rw [HLT.out]; exact own_mod HOUT.out (Mod.of_below (below_box _ _) (fun _ => False)) (fun _ _ h => h)
    · have hin' : ¬ (i : Int) < n := by omega
      have HR := Lib.hid hR
      have HOUT := Lib.hid hout
      clear hR hout
      go_wp2
      go_ret
      have he : mapTo Ent.tick i T.L = T.tick.L := by rw [show i = T.L.length from by rw [HN.out]; omega, mapTo_all]; rfl
      have he2 : lateTo i T.L = T.late := by rw [show i = T.L.length from by rw [HN.out]; omega]; simp [lateTo, Tab.late]
      have h1 := HR.out
      have h2 := HOUT.out
      rw [he] at h1
      rw [he2] at h2
      exact ⟨⟨_, rfl, h2⟩, RefAt.to (T' := T.tick) h1 hM⟩
end Go.Proofs.Ytghoeecgmhcplaa
