/- Walks through notif: Send, Drop, Rise, Tick. -/
import Derived.Test.YtghoeecgmhcplaaNotifF
set_option linter.unusedVariables false
set_option linter.unusedSimpArgs false
namespace Go.Proofs.Ytghoeecgmhcplaa
open Go Go.RowKit Go.FL

theorem ids_init (a mb : Nat) (R : RTab) (w : World) (hT : TabAt' w a mb R) :
    Calls Try.prog 26 #[.pointer (some ⟨a, 0, none⟩), .func (.func 38) #[] #[]] w (IdsOut w ((R.abs.L.filter fun x => x.state == 1).map Ent.id)) :=
  ids_any a mb R 38 (fun x => x.state == 1) w hT (fun _ _ => by kernel_rfl) (fun e he w1 h => init_true _ e.x w1 h _ rfl)
theorem ids_waits (a mb : Nat) (R : RTab) (w : World) (hT : TabAt' w a mb R) :
    Calls Try.prog 26 #[.pointer (some ⟨a, 0, none⟩), .func (.func 25) #[] #[]] w (IdsOut w ((R.abs.L.filter Ent.waits).map Ent.id)) :=
  ids_any a mb R 25 Ent.waits w hT (fun _ _ => by kernel_rfl) (fun e he w1 h => waits_true _ e.x w1 h _ rfl)

/-- an ID's look-up, as an equation for the walk -/
theorem lookup_eq {w : World} {mb : Nat} {R : RTab} (hM : IMap w mb .u64 (R.L.map PE.kv) R.clock) {id : Int} {e : PE} (h : R.L.find? (·.x.id == id) = some e) :
    (Instr.lookup 60 (.map (some mb)) (.int .u64 id) false).run Try.prog w = .ok (.pointer (some ⟨e.p, 0, none⟩)) w := by
  have h1 := run_lookup_i (P := Try.prog) (z := .pointer none) Try.underlying60 Try.underlying29 (zeroPtr w) hM id false
  rw [(look_some h).1] at h1
  simpa using h1

set_option maxHeartbeats 2000000 in
theorem send_any (a mb : Nat) (R : RTab) (w : World) (hT : TabAt' w a mb R) :
    Calls Try.prog 21 #[.pointer (some ⟨a, 0, none⟩)] w fun e w' => e = .returned (getOut R.abs.send.2) ∧ TabTo' w a mb R R.abs.send.1 w' := by
  have hinv := hT.inv.send
  have hids := fun o => ids_init a mb R (w.alloc o) (hT.of_below ((Below.refl _ w).alloc (Nat.le_refl _) o) (Nat.le_refl _))
  have ha := lt_of_heap hT.tb
  have hab : R.abs.L.find? (·.state == 1) = (R.L.find? (·.x.state == 1)).map PE.x := by simp only [RTab.abs, List.find?_map]; rfl
  generalize hr : R.abs.send = res at hinv ⊢
  cases hf : R.L.find? (·.x.state == 1) with
  | none =>
    have hr' : Hid (res = (R.abs, none)) := by show _ = _; rw [← hr, Tab.send, hab, hf]; rfl
    have hnil : (R.abs.L.filter fun x => x.state == 1).map Ent.id = [] := by
      rw [List.map_eq_nil_iff, List.filter_eq_nil_iff]
      have : R.abs.L.find? (·.state == 1) = none := by rw [hab, hf]; rfl
      rw [List.find?_eq_none] at this
      exact this
    rw [hnil] at hids
    clear hr hf hnil hab
    go_enter Try.func21, Try.ntmps21
    go_wp2_with (first
      | (go_at_call 26; refine (hids _).mono ?_; clear hids; rintro e1 w1 ⟨v, rfl, hown, hb1⟩; obtain ⟨hc1, hf1, hl1, hb1', hz1⟩ := own_alloc hb1; clear hb1; obtain ⟨A, c, rfl⟩ := own_slice' hown))
    refine bodyPost_ret (v := .tuple #[.agg #[.int .u64 0, .int .i64 0, .int .i64 0, .int .i64 0, .int .i64 0, .int .i64 0], .bool false]) (by simp [results, Try.results21, go_sem, hc1, hf1]) rfl ?_
    rw [hr'.out]
    exact ⟨rfl, TabTo.same hT (by (repeat (refine below_set ?_ (Nat.le_refl _) _)); exact hb1')⟩
  | some e =>
    have he := List.mem_of_find?_eq_some hf
    have hst : e.x.state = 1 := by have := List.find?_some hf; simpa using this
    have hr' : Hid (res = ({ R.abs with L := updE R.abs.L e.x.id fun y => { y with state := 2 } }, some { e.x with state := 2 })) := by show _ = _; rw [← hr, Tab.send, hab, hf]; rfl
    obtain ⟨tl, htl⟩ : ∃ tl, (R.abs.L.filter fun x => x.state == 1).map Ent.id = e.x.id :: tl := by
      have h1 : R.abs.L.find? (·.state == 1) = some e.x := by rw [hab, hf]; rfl
      rw [← List.head?_filter] at h1
      cases hfl : R.abs.L.filter fun x => x.state == 1 with
      | nil => rw [hfl] at h1; cases h1
      | cons y l => rw [hfl] at h1; simp at h1; subst h1; exact ⟨_, rfl⟩
    rw [htl] at hids
    have hfid := hT.find_id he (id := e.x.id) (by simp)
    have HF := Lib.hid hfid
    have hlen : (e.x.id :: tl).length ≤ 8 := by
      rw [← htl, List.length_map]
      have := List.length_filter_le (fun x : Ent => x.state == 1) R.abs.L
      have := hT.inv.len
      have := hT.inv.size8
      omega
    rw [List.length_cons] at hlen
    have HL := Lib.hid hlen
    have HST := Lib.hid hst
    have hpw := lt_of_heap (hT.es e he)
    have hne : ¬ e.p = w.heap.size := by omega
    have hne' : ¬ w.heap.size = e.p := by omega
    clear hr hf hab hfid htl hst hlen
    go_enter Try.func21, Try.ntmps21
    go_wp2_with (first
      | (go_at_call 26; refine (hids _).mono ?_; clear hids; rintro e1 w1 ⟨v, rfl, hown, hb1⟩; obtain ⟨hc1, hf1, hl1, hb1', hz1⟩ := own_alloc hb1; clear hb1; obtain ⟨g, cap, rfl, hg, hcap, hrow⟩ := RowAt.of_owns hown (by simp); have hT1 := hT.of_below hb1' (Nat.le_refl _); have hcT := cells_of hT1.tb; have hE1 := hT1.es e he; have hcE := cells_of hE1; have hfE := frees_of hE1; have hp1 := lt_of_heap hE1; have hc0 := hrow.cell (i := 0) (by simp); have hgl := hrow.lt; have hlk := fun n => lookup_eq (w := w1.drewN n) (hT1.mp.of_block rfl) HF.out))
    go_quiet (fail)
    go_wp2
    refine bodyPost_ret (v := .tuple #[.agg (entCells { e.x with state := 2 }), .bool true]) (by simp [results, Try.results21, go_sem, hc1, hf1]) rfl ?_
    rw [hr'.out] at hinv ⊢
    refine ⟨rfl, TabTo.of_upd hT he _ (fun _ => rfl) ?_ ?_ (by decide) hinv⟩
    · simp only [set_other hne]
      exact setCell_heap (w := w1.drewN nq) hE1
    · repeat (refine Mod.set ?_ (fun h => absurd h (Nat.lt_irrefl _)) _)
      exact ((Mod.of_below hb1' (· = e.p)).drewN nq).set (fun _ => rfl) _

/-- what lies where: an entry of a table by its ID -/
theorem find_entry {R : RTab} {id : Int} {x : Ent} (h : x ∈ R.abs.L) (hid : x.id = id) : ∃ e ∈ R.L, e.x = x ∧ e.x.id = id := by
  obtain ⟨e, he, rfl⟩ := List.mem_map.1 h
  exact ⟨e, he, rfl, hid⟩

set_option maxHeartbeats 2000000 in
theorem drop_any (a mb : Nat) (R : RTab) (w : World) (hT : TabAt' w a mb R) :
    Calls Try.prog 23 #[.pointer (some ⟨a, 0, none⟩)] w fun e w' => e = .returned (.tuple #[]) ∧ TabTo' w a mb R R.abs.drop w' := by
  have hids := ids_waits a mb R w hT
  have ha := lt_of_heap hT.tb
  obtain ⟨l, hl⟩ : ∃ l, l = (R.abs.L.filter Ent.waits).map Ent.id := ⟨_, rfl⟩
  have hfin : Hid (R.abs.drop = { R.abs with L := proc (fun x => x.gone 7) R.abs.L l }) := by show _ = _; rw [hl, proc_all hT.inv.ids]; rfl
  have hlen : l.length ≤ 8 := by
    rw [hl, List.length_map]
    have := List.length_filter_le Ent.waits R.abs.L
    have := hT.inv.len
    have := hT.inv.size8
    omega
  have hnd : Hid l.Nodup := by
    show l.Nodup
    rw [hl]
    unfold List.Nodup
    rw [List.pairwise_map]
    exact (hT.inv.ids.sublist List.filter_sublist).imp fun h => by omega
  have hmem : Hid (∀ id ∈ l, ∃ x ∈ R.abs.L, x.id = id) := by
    intro id hi
    rw [hl, List.mem_map] at hi
    obtain ⟨x, hx, rfl⟩ := hi
    exact ⟨x, (List.mem_filter.1 hx).1, rfl⟩
  have hinv : Hid (∀ ids, Tab.Inv { R.abs with L := proc (fun x => x.gone 7) R.abs.L ids }) := fun ids => hT.inv.proc (fun x => x.gone 7) (fun _ => rfl) (fun _ => rfl) ids (fun _ _ _ => EOk.gone (k := 7) (by omega))
  rw [← hl] at hids
  have HLEN := Lib.hid hlen
  clear hl hlen
  go_enter Try.func23, Try.ntmps23
  go_wp2_with (first
    | (go_at_call 26; refine hids.mono ?_; clear hids; rintro e1 w1 ⟨v, rfl, hown, hb1⟩; obtain ⟨A, c, rfl⟩ := own_slice' hown))
  go_loopw [7] (fun v wr => ∃ i : Nat, v = .int .i64 i ∧ i ≤ l.length ∧ TabTo' w a mb R { R.abs with L := proc (fun x => x.gone 7) R.abs.L (l.take i) } wr ∧ wr.ownsRow w.heap.size 29 1 (.slice A l.length c) l.length (l.map (Value.int .u64))) (fun v _ => l.length - (intOf v).toNat)
  case atStart => exact ⟨0, rfl, Nat.zero_le _, by rw [List.take_zero, proc_nil]; exact TabTo.same hT hb1, hown⟩
  case round =>
    obtain ⟨i, rfl, hi, hTo, hown2⟩ := hrel
    have hlen := HLEN.out
    by_cases hil : i < l.length
    · obtain ⟨g, cap, hv, hg, hcap, hrow⟩ := RowAt.of_owns hown2 (by omega)
      cases hv
      have hTo' := hTo
      obtain ⟨⟨R', hT', hab, hft⟩, hmod⟩ := hTo'
      obtain ⟨id, hidl⟩ : ∃ id, id = l.getD i 0 := ⟨_, rfl⟩
      have hidm : id ∈ l := by rw [hidl, List.getD_eq_getElem?_getD, List.getElem?_eq_getElem hil]; exact List.getElem_mem hil
      have htk : l.take (i + 1) = l.take i ++ [id] := by rw [List.take_succ_eq_append_getElem hil, hidl, List.getD_eq_getElem?_getD, List.getElem?_eq_getElem hil]; rfl
      have hni : id ∉ l.take i := by
        intro h
        have h1 := hnd.out
        rw [← List.take_append_drop (i + 1) l, htk, List.append_assoc] at h1
        have := (List.nodup_append.1 h1).2.2 id h id (by simp)
        exact this rfl
      obtain ⟨x, hx, hxid⟩ := hmem.out id hidm
      obtain ⟨e, he, hex, heid⟩ := find_entry (R := R') (id := id) (x := x) (by rw [hab]; exact List.mem_map.2 ⟨x, hx, by rw [if_neg (by simpa [hxid] using hni)]⟩) hxid
      have hcl := hrow.cell hil
      rw [← hidl] at hcl
      have hgl := hrow.lt
      have hcT := cells_of hT'.tb
      have hE := hT'.es e he
      have hlk := lookup_eq hT'.mp (hT'.find_id he (id := id) (by simpa using heid))
      have hgo := gone_any e.p e.x 7 wr hE
      have hil' : (i : Int) < l.length := by omega
      have HTK := Lib.hid htk
      have HNI := Lib.hid hni
      have HAB := Lib.hid hab
      have HEX := Lib.hid hex
      have HEI := Lib.hid heid
      have halt := lt_of_heap hT'.tb
      clear htk hni hab hex heid hidl hxid
      go_wp2_with (first
        | (go_at_call 27; refine hgo.mono ?_; clear hgo; rintro e1 w2 ⟨rfl, hb2, hm2, hs2⟩))
      go_roundw
      case rel =>
        have hep : g ≠ e.p := hrow.ne hE (by decide)
        refine ⟨i + 1, by go_num, by omega, ?_, own_mod hown2 hm2 (fun k hk => ?_)⟩
        · rw [HTK.out, ← proc_step (f := fun x => x.gone 7) (fun _ => rfl) _ _ _ HNI.out, ← HEI.out]
          refine TabTo.step hTo hT' HAB.out hft he (fun x => x.gone 7) (fun _ => rfl) hb2 hm2 (by decide) ?_
          rw [HEI.out, proc_step (f := fun x => x.gone 7) (fun _ => rfl) _ _ _ HNI.out]
          exact hinv.out _
        · simp [Value.ownBlock] at hk
          omega
      case measure => simp [intOf]; omega
    · have hie : i = l.length := by omega
      have HIE := Lib.hid hie
      clear hie
      go_wp2
      go_end0
      rw [HIE.out, List.take_length] at hTo
      rw [hfin.out]
      exact ⟨rfl, hTo⟩

set_option maxHeartbeats 2000000 in
theorem rise_any (a mb : Nat) (R : RTab) (ep : Int) (w : World) (hT : TabAt' w a mb R) (he0 : 0 ≤ ep) (he1 : ep ≤ 18446744073709551615) :
    Calls Try.prog 14 #[.pointer (some ⟨a, 0, none⟩), .int .u64 ep] w fun e w' => e = .returned (.int .i64 (R.abs.rise ep).2) ∧ TabTo' w a mb R (R.abs.rise ep).1 w' := by
  have ha := lt_of_heap hT.tb
  have hcT := cells_of hT.tb
  have hfT := frees_of hT.tb
  generalize hr : R.abs.rise ep = res
  by_cases h : ep ≤ R.epoch
  · have hr' : Hid (res = (R.abs, 22)) := by show _ = _; rw [← hr, Tab.rise, if_pos (by exact h)]
    clear hr he1
    go_enter Try.func14, Try.ntmps14
    go_wp2_with fail
    go_ret
    rw [hr'.out]
    exact ⟨rfl, TabTo.same hT (Below.refl _ _)⟩
  · have hr' : Hid (res = (({ R.abs with epoch := ep } : Tab).drop, 0)) := by show _ = _; rw [← hr, Tab.rise, if_neg (by exact h)]
    have hinv : Tab.Inv { R.abs with epoch := ep } := { hT.inv with ep0 := he0, ep1 := he1 }
    have hT2 : TabAt' (w.setCell ⟨a, 3, none⟩ (.int .u64 ep)) a mb { R with epoch := ep } := by
      refine ⟨setCell_heap hT.tb, hT.mp.of_block (set_other hT.ne_tab.symm), fun e he => (set_other (hT.ne_ent (by decide) he)).trans (hT.es e he), hT.nd, hinv⟩
    have hdr := drop_any a mb _ _ hT2
    clear hr he1
    go_enter Try.func14, Try.ntmps14
    go_wp2_with (first
      | (go_at_call 23; refine hdr.mono ?_; clear hdr; rintro e1 w1 ⟨rfl, hTo⟩))
    go_ret
    rw [hr'.out]
    obtain ⟨⟨R', h1, h2, h3⟩, h4⟩ := hTo
    refine ⟨rfl, ⟨R', h1, h2, fun k hk => ?_⟩, ?_⟩
    · rcases h3 k hk with h | h
      · exact .inl h
      · exact .inr (by rw [setCell_size] at h; exact h)
    · exact ((Mod.refl (R.foot a mb) w).set (fun _ => .inl rfl) _).trans h4 (fun i _ h => h)
end Go.Proofs.Ytghoeecgmhcplaa
