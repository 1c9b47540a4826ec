/- Walks through notif: Tick. -/
import Derived.Test.YtghoeecgmhcplaaNotifG
set_option linter.unusedVariables false
set_option linter.unusedSimpArgs false
namespace Go.Proofs.Ytghoeecgmhcplaa
open Go Go.RowKit Go.FL

/-- one that waits, at a tick -/
def tickW (x : Ent) : Ent := if x.left - 1 = 0 then { x with left := x.left - 1 }.gone 6 else { x with left := x.left - 1 }
theorem tickW_id (x : Ent) : (tickW x).id = x.id := by unfold tickW; split <;> rfl
theorem tickW_task (x : Ent) : (tickW x).task = x.task := by unfold tickW; split <;> rfl
theorem tick_eq (x : Ent) : x.tick = if x.waits then tickW x else x := by
  unfold Ent.tick tickW
  split
  · split
    · rename_i h; simp [Ent.gone, h]
    · rfl
  · rfl
theorem tickW_ok {T : Tab} (h : T.Inv) {x : Ent} (hx : x ∈ T.L) (hw : x.waits = true) : EOk T.wait (tickW x) := by
  have := (h.tick).eok (x := x.tick) (List.mem_map.2 ⟨x, hx, rfl⟩)
  rw [tick_eq, if_pos hw] at this
  exact this
def lateB (L : List Ent) (id : Int) : Bool := L.any fun x => x.id == id && x.left == 1
theorem lateB_eq {L : List Ent} (hp : L.Pairwise fun x y => x.id < y.id) {x : Ent} (hx : x ∈ L) : lateB L x.id = (x.left == 1) := by
  unfold lateB
  rw [Bool.eq_iff_iff, List.any_eq_true]
  constructor
  · rintro ⟨y, hy, hb⟩
    simp only [Bool.and_eq_true, beq_iff_eq] at hb
    have hq : ∀ z ∈ L, (z.id == x.id) = true → L.find? (·.id == x.id) = some z := fun z hz hzx => find_of_pairwise (hp.imp fun h ⟨h1, h2⟩ => by rw [beq_iff_eq] at h1 h2; omega) hz hzx
    have h1 := hq y hy (by simpa using hb.1)
    have h2 := hq x hx (by simp)
    rw [h1] at h2
    have : y = x := Option.some.inj h2
    subst this
    simpa using hb.2
  · intro h
    exact ⟨x, hx, by simpa using h⟩
theorem late_eq {T : Tab} (h : T.Inv) : T.late = ((T.L.filter Ent.waits).map Ent.id).filter (lateB T.L) := by
  unfold Tab.late
  rw [List.filter_map, List.filter_filter]
  congr 1
  apply List.filter_congr
  intro x hx
  simp only [Function.comp]
  rw [lateB_eq h.ids hx, Bool.and_comm]

set_option maxHeartbeats 4000000 in
theorem tick_any (a mb : Nat) (R : RTab) (w : World) (hT : TabAt' w a mb R) :
    Calls Try.prog 12 #[.pointer (some ⟨a, 0, none⟩)] w fun e w' => (∃ v, e = .returned v ∧ w'.ownsRow w.heap.size 29 1 v R.abs.late.length (R.abs.late.map (Value.int .u64))) ∧ TabTo' w a mb R R.abs.tick w' := by
  have hids := ids_waits a mb R w hT
  have ha := lt_of_heap hT.tb
  obtain ⟨l, hl⟩ : ∃ l, l = (R.abs.L.filter Ent.waits).map Ent.id := ⟨_, rfl⟩
  have hfin : Hid (R.abs.tick = { R.abs with L := proc tickW R.abs.L l }) := by
    show _ = _
    rw [hl, proc_all hT.inv.ids, Tab.tick]
    congr 1
    apply List.map_congr_left
    intro x _
    exact tick_eq x
  have hlate : Hid (R.abs.late = l.filter (lateB R.abs.L)) := by show _ = _; rw [hl]; exact late_eq hT.inv
  have hlen : l.length ≤ 8 := by
    rw [hl, List.length_map]
    have := List.length_filter_le Ent.waits R.abs.L
    have := hT.inv.len
    have := hT.inv.size8
    omega
  have hnd : Hid l.Nodup := by
    show l.Nodup
    rw [hl]
    unfold List.Nodup
    rw [List.pairwise_map]
    exact (hT.inv.ids.sublist List.filter_sublist).imp fun h => by omega
  have hmem : Hid (∀ id ∈ l, ∃ x ∈ R.abs.L, x.id = id ∧ x.waits = true) := by
    intro id hi
    rw [hl, List.mem_map] at hi
    obtain ⟨x, hx, rfl⟩ := hi
    exact ⟨x, (List.mem_filter.1 hx).1, rfl, (List.mem_filter.1 hx).2⟩
  have hinv : Hid (∀ i, Tab.Inv { R.abs with L := proc tickW R.abs.L (l.take i) }) := fun i => hT.inv.proc tickW tickW_id tickW_task _ (fun x hx hxi => by
    obtain ⟨y, hy, hyi, hyw⟩ := hmem.out x.id (List.mem_of_mem_take hxi)
    have hq : ∀ z ∈ R.abs.L, (z.id == x.id) = true → R.abs.L.find? (·.id == x.id) = some z := fun z hz hzx => find_of_pairwise (hT.inv.ids.imp fun h ⟨h1, h2⟩ => by rw [beq_iff_eq] at h1 h2; omega) hz hzx
    have h1 := hq y hy (by simpa using hyi)
    have h2 := hq x hx (by simp)
    rw [h1] at h2
    have : y = x := Option.some.inj h2
    subst this
    exact tickW_ok hT.inv hx hyw)
  have hbd : Hid (∀ x ∈ R.abs.L, x.waits = true → 1 ≤ x.left ∧ x.left ≤ 1000) := fun x hx hw => by
    have := hT.inv.left x hx hw
    have := hT.inv.wait2
    omega
  rw [← hl] at hids
  have HLEN := Lib.hid hlen
  clear hl hlen
  go_enter Try.func12, Try.ntmps12
  go_wp2_with (first
    | (go_at_call 26; refine hids.mono ?_; clear hids; rintro e1 w1 ⟨v, rfl, hown, hb1⟩; obtain ⟨A, c, rfl⟩ := own_slice' hown))
  have hw1 : w.heap.size ≤ w1.heap.size := hb1.size
  go_loopw [3, 10] (fun v3 v wr => ∃ i : Nat, v = .int .i64 i ∧ i ≤ l.length ∧ TabTo' w a mb R { R.abs with L := proc tickW R.abs.L (l.take i) } wr ∧ wr.ownsRow w.heap.size 29 1 (.slice A l.length c) l.length (l.map (Value.int .u64)) ∧ wr.ownsRow w1.heap.size 29 1 v3 ((l.take i).filter (lateB R.abs.L)).length (((l.take i).filter (lateB R.abs.L)).map (Value.int .u64)) ∧ w1.heap.size ≤ wr.heap.size) (fun _ v _ => l.length - (intOf v).toNat)
  case atStart => exact ⟨0, rfl, Nat.zero_le _, by rw [List.take_zero, proc_nil]; exact TabTo.same hT hb1, hown, own_nil' _ _ _ _, Nat.le_refl _⟩
  case round =>
    obtain ⟨i, rfl, hi, hTo, hown2, hout, hsz⟩ := hrel
    have hlen := HLEN.out
    have hfl : ((l.take i).filter (lateB R.abs.L)).length ≤ 8 := by
      have := List.length_filter_le (lateB R.abs.L) (l.take i)
      have := List.length_take_le i l
      have : (l.take i).length ≤ l.length := by rw [List.length_take]; omega
      omega
    by_cases hil : i < l.length
    · obtain ⟨g, cap, hv, hg, hcap, hrow⟩ := RowAt.of_owns hown2 (by omega)
      cases hv
      have hTo' := hTo
      obtain ⟨⟨R', hT', hab, hft⟩, hmod⟩ := hTo'
      obtain ⟨id, hidl⟩ : ∃ id, id = l.getD i 0 := ⟨_, rfl⟩
      have hidm : id ∈ l := by rw [hidl, List.getD_eq_getElem?_getD, List.getElem?_eq_getElem hil]; exact List.getElem_mem hil
      have htk : l.take (i + 1) = l.take i ++ [id] := by rw [List.take_succ_eq_append_getElem hil, hidl, List.getD_eq_getElem?_getD, List.getElem?_eq_getElem hil]; rfl
      have hni : id ∉ l.take i := by
        intro h
        have h1 := hnd.out
        rw [← List.take_append_drop (i + 1) l, htk, List.append_assoc] at h1
        have := (List.nodup_append.1 h1).2.2 id h id (by simp)
        exact this rfl
      obtain ⟨x, hx, hxid, hxw⟩ := hmem.out id hidm
      obtain ⟨e, he, hex, heid⟩ := find_entry (R := R') (id := id) (x := x) (by rw [hab]; exact List.mem_map.2 ⟨x, hx, by rw [if_neg (by simpa [hxid] using hni)]⟩) hxid
      subst hex
      have hcl := hrow.cell hil
      rw [← hidl] at hcl
      have hgl := hrow.lt
      have hcT := cells_of hT'.tb
      have hE := hT'.es e he
      have hcE := cells_of hE
      have hfE := frees_of hE
      have hpl := lt_of_heap hE
      have hlk := lookup_eq hT'.mp (hT'.find_id he (id := id) (by simpa using heid))
      have hil' : (i : Int) < l.length := by omega
      obtain ⟨hlo1, hlo2⟩ := hbd.out e.x hx hxw
      have hlB : lateB R.abs.L id = (e.x.left == 1) := by rw [← hxid]; exact lateB_eq hT.inv.ids hx
      have HTK := Lib.hid htk
      have HNI := Lib.hid hni
      have HAB := Lib.hid hab
      have HEI := Lib.hid heid
      have HLB := Lib.hid hlB
      have halt := lt_of_heap hT'.tb
      have hgp : g ≠ e.p := hrow.ne hE (by decide)
      have hE2 : Hid ((wr.setCell ⟨e.p, 3, none⟩ (.int .i64 (e.x.left - 1))).heap[e.p]? = some (.cells (entCells { e.x with left := e.x.left - 1 }) 36 (0, 0))) := setCell_heap hE
      have hinv' : Hid (Tab.Inv { R.abs with L := updE (proc tickW R.abs.L (l.take i)) e.x.id tickW }) := by
        show Tab.Inv _
        rw [heid, proc_step tickW_id _ _ _ hni, ← htk]
        exact hinv.out _
      have hstep : Hid (updE (proc tickW R.abs.L (l.take i)) e.x.id tickW = proc tickW R.abs.L (l.take (i + 1))) := by
        show _ = _
        rw [heid, proc_step tickW_id _ _ _ hni, ← htk]
      have hm0 : Mod (· = e.p) wr (wr.setCell ⟨e.p, 3, none⟩ (.int .i64 (e.x.left - 1))) := (Mod.refl (· = e.p) wr).set (fun _ => rfl) _
      clear htk hni hab heid hidl hxid hlB
      by_cases hl1 : e.x.left = 1
      · have hl1' : (e.x.left - 1 == 0) = true := by simp [hl1]
        have hgo := gone_any e.p { e.x with left := e.x.left - 1 } 6 _ hE2.out
        have htw : Hid (tickW e.x = { e.x with left := e.x.left - 1 }.gone 6) := by show _ = _; rw [tickW, if_pos (by omega)]
        have HL1 := Lib.hid hl1
        clear hl1
        go_wp2_with (first
          | (at_builtin; refine wpList_app1 w1.heap.size rfl _ _ 30 29 _ 8 rfl Try.underlying30 info_u64 rfl (by decide) u3 (((l.take i).filter (lateB R.abs.L)).map (Value.int .u64)) (.int .u64 id) rfl rfl rfl (by rw [List.length_map]; exact own_mod hout (hm0.trans hm2 (fun _ _ h => h)) (own_ne hout hE (by decide))) (by omega) (by rw [List.length_map]; omega) ?_; intro v3 w3 ho3 hm3 hb3)
          | (go_at_call 27; refine hgo.mono ?_; clear hgo; rintro e1 w2 ⟨rfl, hb2', hm2, hs2⟩; have hsz2 : w1.heap.size ≤ w2.heap.size := Nat.le_trans hsz (hm0.trans hm2 (fun _ _ h => h)).size; clear hs2))
        have hm02 := hm0.trans hm2 (fun _ _ h => h)
        have hm03 : Mod (fun k => k = e.p ∨ u3.ownBlock = some k) wr w3 := (hm02.mono (G := fun k => k = e.p ∨ u3.ownBlock = some k) (fun _ _ h => .inl h)).trans hm3 (fun _ _ h => .inr h)
        have hu3 : ∀ k, u3.ownBlock = some k → w1.heap.size ≤ k := own_base' hout
        have hu3p := own_ne hout hE (by decide : (29 : Nat) ≠ 36)
        have hgw : g < w1.heap.size := own_lt' hown g rfl
        have hs3 := hm03.size
        have hTo2 := TabTo.step hTo hT' HAB.out hft he tickW tickW_id (by rw [htw.out]; exact hb2') hm02 (by decide) hinv'.out
        refine ⟨⟨i + 1, by go_num, by omega, ?_, own_mod hown2 hm03 ?_, ?_, by omega⟩, by simp [intOf]; omega⟩
        · rw [← hstep.out]
          refine TabTo.then_mod hTo2 hm3 (fun k hk => by have := hu3 k hk; omega) ?_
          intro R2 hR2 _ _ k hk hk2
          rcases hk with hk | hk | ⟨e', he', hk⟩
          · exact absurd hk (own_ne (own_mod hout hm02 hu3p) hR2.tb (by decide) k hk2)
          · have h1 := own_mod hout hm02 hu3p
            subst hk
            rcases h1.2 with ⟨rfl, _⟩ | ⟨g', cap', cur', rfl, _, hh, _⟩
            · simp [Value.ownBlock] at hk2
            · have : g' = k := by simpa [Value.ownBlock] using hk2
              subst this
              rw [hR2.mp.blk] at hh
              cases hh
          · exact absurd hk.symm (own_ne (own_mod hout hm02 hu3p) (hR2.es e' he') (by decide) k hk2)
        · intro k hk
          simp [Value.ownBlock] at hk
          subst hk
          rintro (h | h)
          · exact hgp h
          · have := hu3 _ h; omega
        · rw [HTK.out, List.filter_append, List.filter_cons, HLB.out, HL1.out]
          simpa using ho3
      · have hl1' : (e.x.left - 1 == 0) = false := by simp; omega
        have htw : Hid (tickW e.x = { e.x with left := e.x.left - 1 }) := by show _ = _; rw [tickW, if_neg (by omega)]
        have HL1 : Hid (¬ e.x.left = 1) := hl1
        clear hl1
        go_wp2_with fail
        have hTo2 := TabTo.step hTo hT' HAB.out hft he tickW tickW_id (by rw [htw.out]; exact hE2.out) hm0 (by decide) hinv'.out
        refine ⟨⟨i + 1, by go_num, by omega, ?_, own_mod hown2 hm0 ?_, ?_, by rw [setCell_size]; exact hsz⟩, by simp [intOf]; omega⟩
        · rw [← hstep.out]
          exact hTo2
        · intro k hk
          simp [Value.ownBlock] at hk
          subst hk
          exact hgp
        · have hl0 : (e.x.left == 1) = false := by simpa using HL1.out
          rw [HTK.out, List.filter_append, List.filter_cons, HLB.out, hl0]
          simpa using own_mod hout hm0 (own_ne hout hE (by decide))
    · have hie : i = l.length := by omega
      have HIE := Lib.hid hie
      clear hie
      go_wp2
      go_ret
      rw [HIE.out, List.take_length] at hTo hout
      rw [hfin.out, hlate.out]
      exact ⟨⟨_, rfl, own_mono hout hw1⟩, hTo⟩
end Go.Proofs.Ytghoeecgmhcplaa
