/- Walks through notif: ids. -/
import Derived.Test.YtghoeecgmhcplaaNotifE
import Derived.Test.YtghoeecgmhcplaaSortS64
import Derived.Test.YtghoeecgmhcplaaOwnRows
set_option linter.unusedVariables false
set_option linter.unusedSimpArgs false
namespace Go.Proofs.Ytghoeecgmhcplaa
open Go Go.RowKit Go.FL

theorem info_u64 : (Try.prog.info? 29).map (fun i => (i.zero, i.size, i.bytes)) = some (some (.int .u64 0), 1, 8) := by kernel_rfl
def IdsOut (w : World) (l : List Int) (e : Ending) (w' : World) : Prop := ∃ v, e = .returned v ∧ w'.ownsRow w.heap.size 29 1 v l.length (l.map (Value.int .u64)) ∧ Below w.heap.size w w'

/-- the numbers of those that were seen -/
def idsOf (h : Ent → Bool) (vis : List PE) : List Int := (vis.filter fun e => h e.x).map fun e => e.x.id
theorem idsOf_le (h : Ent → Bool) (vis : List PE) : (idsOf h vis).length ≤ vis.length := by rw [idsOf, List.length_map]; exact List.length_filter_le _ _
theorem idsOf_yes {h : Ent → Bool} {vis : List PE} {e : PE} (he : h e.x = true) : idsOf h (vis ++ [e]) = idsOf h vis ++ [e.x.id] := by simp [idsOf, List.filter_append, he]
theorem idsOf_no {h : Ent → Bool} {vis : List PE} {e : PE} (he : h e.x = false) : idsOf h (vis ++ [e]) = idsOf h vis := by simp [idsOf, List.filter_append, he]
/-- .. sorted -/
theorem ids_sorted {R : RTab} (hinv : R.abs.Inv) (h : Ent → Bool) {vis : List PE} (hv : vis.Perm R.L) {ys : List Int} (hp : ys.Perm (idsOf h vis)) (hs : ys.Pairwise (· ≤ ·)) : ys = (R.abs.L.filter h).map Ent.id := by
  have h1 : ys.Perm ((R.abs.L.filter h).map Ent.id) := by
    refine hp.trans ?_
    have : (R.abs.L.filter h).map Ent.id = (R.L.filter fun e => h e.x).map fun e => e.x.id := by
      simp only [RTab.abs, List.filter_map, List.map_map]; rfl
    rw [this]
    exact (hv.filter _).map _
  refine sorted_perm_eq hs ?_ h1
  rw [List.pairwise_map]
  exact (hinv.ids.sublist List.filter_sublist).imp fun h => by omega

set_option maxHeartbeats 2000000 in
theorem ids_any (a mb : Nat) (R : RTab) (f : Nat) (h : Ent → Bool) (w : World) (hT : TabAt' w a mb R) (hcf : ∀ (p : Value) (w1 : World), (callFunc f #[p]).run Try.prog w1 = .ok (.enter f #[p]) w1)
    (hf : ∀ e ∈ R.L, ∀ w1, w1.heap[e.p]? = some (.cells (entCells e.x) 36 (0, 0)) → Calls Try.prog f #[.pointer (some ⟨e.p, 0, none⟩)] w1 fun e1 w' => e1 = .returned (.bool (h e.x)) ∧ w1 = w') :
    Calls Try.prog 26 #[.pointer (some ⟨a, 0, none⟩), .func (.func f) #[] #[]] w (IdsOut w ((R.abs.L.filter h).map Ent.id)) := by
  have ha := lt_of_heap hT.tb
  have c4 : w.cell? ⟨a, 4, none⟩ = some (.map (some mb)) := by rw [cell_of hT.tb]; rfl
  have hmb := hT.mp.lt
  have HF := Lib.hid hf
  clear hf
  go_enter Try.func26, Try.ntmps26
  go_wp2_with (first
    | (at_range; refine wpList_range_i _ rfl _ 60 rfl 29 64 .u64 Try.underlying60 mb _ _ rfl hT.mp ?_; intro w0 hw0 hi0 hm0 hb0 hs0)
    | fail)
  go_frame
  go_loopw [5] (fun v wr => ∃ seen vis, Iter wr w.heap.size mb R.clock seen ∧ Below w.heap.size w wr ∧ wr.ownsRow (w.heap.size + 1) 29 1 v (idsOf h vis).length ((idsOf h vis).map (Value.int .u64)) ∧ vis.Nodup ∧ (∀ e ∈ vis, e ∈ R.L) ∧ ∀ e ∈ R.L, seen.contains e.b = true ↔ e ∈ vis) (fun _ wr => todoW wr w.heap.size mb)
  case atStart => exact ⟨#[], [], hi0, hb0, own_nil' _ _ _ _, by simp, by simp, fun e _ => by simp⟩
  case round =>
    obtain ⟨seen, vis, hi, hbw, hown, hnd, hsub, hsee⟩ := hrel
    have hTr := hT.of_below hbw (Nat.le_refl _)
    have hvl : vis.length ≤ R.L.length := hnd.length_le_of_subset hsub
    have hl8 : R.L.length ≤ 8 := by have := hT.inv.len; have := hT.inv.size8; simp only [RTab.abs, List.length_map] at *; omega
    have hfl : (idsOf h vis).length ≤ 8 := by have := idsOf_le h vis; omega
    have HV := Lib.hid hvl
    have HN := Lib.hid hnd
    have HS := Lib.hid hsub
    have HE := Lib.hid hsee
    have HO := Lib.hid hown
    clear hvl hnd hsub hsee hown
    go_wp2_with (first
      | (at_next; refine wpList_next_i _ rfl _ rfl .u64 mb w.heap.size _ R.clock R.clock seen rfl hi hTr.mp hTr.mp.low (Nat.le_refl _) (by omega) ?_ ?_)
      | fail)
    · intro hall
      have hp : vis.Perm R.L := (List.perm_ext_iff_of_nodup HN.out (nodup_of_map hT.nd)).2 fun e => ⟨HS.out e, fun he => (HE.out e he).1 (by simpa [PE.kv] using hall e he)⟩
      have hsort := fun w2 => S64.sort_small u5 (w.heap.size + 1) (idsOf h vis) w2 (by omega)
      go_wp2_with (first
        | (go_at_call 39; refine (hsort _ HO.out (by have := hi.lt; omega)).mono ?_; rintro e1 w2 ⟨rfl, ys, ho2, hp2, hs2, hm2⟩))
      go_ret
      rw [← ids_sorted hT.inv h hp hp2 hs2]
      exact ⟨_, rfl, own_mono ho2 (Nat.le_succ _), hbw.trans (hm2.below (by have := hi.lt; omega) (fun k hk => by omega))⟩
    · rintro _ w1 e he rfl hs hi1 hm1 hmod1 hs1 hoth1 hen
      have hb1 : Below w.heap.size w w1 := hbw.trans (hmod1.below (Nat.le_of_lt hi.lt) (fun k hk => by omega))
      have hT1 := hT.of_below hb1 (Nat.le_refl _)
      have hE1 := hT1.es e he
      have hlt : e.p < w1.heap.size := lt_of_heap hE1
      have HO1 := Lib.hid (own_mod HO.out hmod1 (fun k hk => by have := own_base' HO.out k hk; omega))
      have hmeas : Hid (todoW w1 w.heap.size mb < todoW wr w.heap.size mb) := by
        have h1 := todoW_eq hi1 hm1
        have h2 := todoW_eq hi hTr.mp
        have h3 := todoN_push (List.mem_map.2 ⟨e, he, rfl⟩ : e.kv ∈ R.L.map PE.kv) (seen := seen) (by simpa using hs)
        show _ < _
        omega
      have hvis : Hid ((vis ++ [e]).Nodup ∧ (∀ x ∈ vis ++ [e], x ∈ R.L) ∧ ∀ x ∈ R.L, (seen.push e.b).contains x.b = true ↔ x ∈ vis ++ [e]) := by
        have hne : e ∉ vis := fun hv => hs (by simpa [PE.kv] using (HE.out e he).2 hv)
        have hbn := hT.mp.borns
        rw [List.map_map] at hbn
        refine ⟨List.nodup_append.2 ⟨HN.out, by simp, fun x hx y hy => by rw [List.mem_singleton] at hy; subst hy; exact fun q => hne (q ▸ hx)⟩, fun x hx => ?_, fun x hx => ?_⟩
        · rcases List.mem_append.1 hx with hx | hx
          · exact HS.out x hx
          · rw [List.mem_singleton] at hx; subst hx; exact he
        · have := HE.out x hx
          rw [List.mem_append, List.mem_singleton, ← this]
          constructor
          · intro h
            rcases (by simpa using h : x.b ∈ seen ∨ x.b = e.b) with h | h
            · exact .inl (by simpa using h)
            · exact .inr (inj_of_nodup hbn hx he h)
          · rintro (h | rfl)
            · simp at h ⊢; exact .inl h
            · simp
      clear hs1 hoth1 hmod1
      cases hh : h e.x with
      | false =>
        have HH := Lib.hid hh
        have hcl := HF.out e he w1 hE1
        rw [hh] at hcl
        clear hh
        go_wp2_with (first
          | (refine hcl.mono ?_; clear hcl; rintro e1 w2 ⟨rfl, rfl⟩))
        go_roundw
        case rel => exact ⟨seen.push e.b, vis ++ [e], hi1, hb1, by rw [idsOf_no HH.out]; exact HO1.out, hvis.out⟩
        case measure => exact hmeas.out
      | true =>
        have HH := Lib.hid hh
        have hcl := HF.out e he w1 hE1
        rw [hh] at hcl
        clear hh
        go_wp2_with (first
          | (at_builtin; go_loud (refine wpList_app1 (w.heap.size + 1) rfl _ _ 30 29 _ 8 rfl Try.underlying30 info_u64 rfl (by decide) u5 ((idsOf h vis).map (Value.int .u64)) (.int .u64 e.x.id) rfl rfl rfl (by rw [List.length_map]; exact HO1.out) (by have := hi1.lt; omega) (by rw [List.length_map]; omega) ?_); intro v2 w2 ho2 hm2 hb2)
          | (refine hcl.mono ?_; clear hcl; rintro e1 w2 ⟨rfl, rfl⟩))
        go_roundw
        case rel =>
          refine ⟨seen.push e.b, vis ++ [e], hi1.of_block ?_, hb1.trans (hm2.below (by have := hi1.lt; omega) ?_), ?_, hvis.out⟩
          · exact hm2.block _ hi1.lt (fun hk => by have := own_base' HO1.out _ hk; omega)
          · intro k hk
            have := own_base' HO1.out _ hk
            omega
          · rw [idsOf_yes HH.out]
            simpa using ho2
        case measure =>
          have h4 := todoW_eq (hi1.of_block (hm2.block _ hi1.lt (fun hk => by have := own_base' HO1.out _ hk; omega))) (hm1.of_block (hm2.block _ hm1.lt (fun hk => by have := own_base' HO1.out _ hk; omega)))
          have h5 := todoW_eq hi1 hm1
          have := hmeas.out
          omega
end Go.Proofs.Ytghoeecgmhcplaa
