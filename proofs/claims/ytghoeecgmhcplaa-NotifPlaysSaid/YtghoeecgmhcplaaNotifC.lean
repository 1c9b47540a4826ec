/- Walks through notif: Reply, Kill, Ended. -/
import Derived.Test.YtghoeecgmhcplaaNotifB
import Derived.Test.YtghoeecgmhcplaaTabInv
set_option linter.unusedVariables false
set_option linter.unusedSimpArgs false
namespace Go.Proofs.Ytghoeecgmhcplaa
open Go Go.RowKit Go.FL
abbrev TabTo' := TabTo 62 36

set_option maxHeartbeats 2000000 in
theorem reply_any (a mb : Nat) (R : RTab) (ep id k v : Int) (w : World) (hT : TabAt' w a mb R) :
    Calls Try.prog 15 #[.pointer (some ⟨a, 0, none⟩), .int .u64 ep, .int .u64 id, .agg #[.int .i64 k, .int .i64 v]] w fun e w' => e = .returned (.int .i64 (R.abs.reply ep id k v).2) ∧ TabTo' w a mb R (R.abs.reply ep id k v).1 w' := by
  have ha := lt_of_heap hT.tb
  have hmb := hT.mp.lt
  have c3 : w.cell? ⟨a, 3, none⟩ = some (.int .u64 R.epoch) := by rw [cell_of hT.tb]; rfl
  have c4 : w.cell? ⟨a, 4, none⟩ = some (.map (some mb)) := by rw [cell_of hT.tb]; rfl
  have hinv := hT.inv.reply ep id k v
  generalize hr : R.abs.reply ep id k v = res at hinv ⊢
  cases hf : R.L.find? (·.x.id == id) with
  | none =>
    obtain ⟨hl1, hl2⟩ := look_none hf
    have HL1 := Lib.hid hl1
    have HL2 := Lib.hid hl2
    clear hl1 hl2
    by_cases h1 : ep = R.epoch
    · have h1' : (ep != R.epoch) = false := by simpa using h1
      have hr' : Hid (res = (R.abs, 17)) := by
        show _ = _; rw [← hr, Tab.reply, if_neg (by simpa [RTab.abs] using h1), abs_get, hf]; rfl
      clear hr h1 hf
      go_enter Try.func15, Try.ntmps15
      go_wp2_with (first
        | (at_lookup; refine wpList_lookup_i _ rfl _ _ 60 false rfl 29 64 .u64 Try.underlying60 Try.underlying29 _ (zeroPtr _) mb _ _ rfl (hT.mp.of_block (Below.heap_alloc _ _ _ hmb)) _ rfl (.pointer none) false HL1.out HL2.out ?_)
        | go_in)
      go_ret
      rw [hr'.out]
      exact ⟨rfl, TabTo.same hT ((Below.refl _ _).alloc (Nat.le_refl _) _)⟩
    · have h1' : (ep != R.epoch) = true := by simpa using h1
      have hr' : Hid (res = (R.abs, 22)) := by
        show _ = _; rw [← hr, Tab.reply, if_pos (by simpa [RTab.abs] using h1)]
      clear hr h1 hf
      go_enter Try.func15, Try.ntmps15
      go_wp2_with (first
        | (at_lookup; refine wpList_lookup_i _ rfl _ _ 60 false rfl 29 64 .u64 Try.underlying60 Try.underlying29 _ (zeroPtr _) mb _ _ rfl (hT.mp.of_block (Below.heap_alloc _ _ _ hmb)) _ rfl (.pointer none) false HL1.out HL2.out ?_)
        | go_in)
      go_ret
      rw [hr'.out]
      exact ⟨rfl, TabTo.same hT ((Below.refl _ _).alloc (Nat.le_refl _) _)⟩
  | some e =>
    obtain ⟨hl1, hl2⟩ := look_some hf
    have HL1 := Lib.hid hl1
    have HL2 := Lib.hid hl2
    clear hl1 hl2
    have he := List.mem_of_find?_eq_some hf
    have hid : e.x.id = id := by have := List.find?_some hf; simpa using this
    have hE := hT.es e he
    have hp := lt_of_heap hE
    have e2 : w.cell? ⟨e.p, 2, none⟩ = some (.int .i64 e.x.state) := by rw [cell_of hE]; rfl
    have e4 : w.cell? ⟨e.p, 4, none⟩ = some (.int .i64 e.x.ok) := by rw [cell_of hE]; rfl
    have e5 : w.cell? ⟨e.p, 5, none⟩ = some (.int .i64 e.x.ov) := by rw [cell_of hE]; rfl
    have f2 := free_of hE 2
    have f4 := free_of hE 4
    have f5 := free_of hE 5
    by_cases h1 : ep = R.epoch
    case neg =>
      have h1' : (ep != R.epoch) = true := by simpa using h1
      have hr' : Hid (res = (R.abs, 22)) := by
        show _ = _; rw [← hr, Tab.reply, if_pos (by simpa [RTab.abs] using h1)]
      clear hr h1 hf hid
      go_enter Try.func15, Try.ntmps15
      go_wp2_with (first
        | (at_lookup; refine wpList_lookup_i _ rfl _ _ 60 false rfl 29 64 .u64 Try.underlying60 Try.underlying29 _ (zeroPtr _) mb _ _ rfl (hT.mp.of_block (Below.heap_alloc _ _ _ hmb)) _ rfl (.pointer (some ⟨e.p, 0, none⟩)) true HL1.out HL2.out ?_)
        | go_in)
      go_ret
      rw [hr'.out]
      exact ⟨rfl, TabTo.same hT ((Below.refl _ _).alloc (Nat.le_refl _) _)⟩
    case pos =>
      have h1' : (ep != R.epoch) = false := by simpa using h1
      by_cases h2 : e.x.state = 2
      case neg =>
        have h2' : (e.x.state != 2) = true := by simpa using h2
        have hr' : Hid (res = (R.abs, 18)) := by
          show _ = _; rw [← hr, Tab.reply, if_neg (by simpa [RTab.abs] using h1), abs_get, hf]; simp [h2]
        clear hr h1 hf hid h2
        go_enter Try.func15, Try.ntmps15
        go_wp2_with (first
          | (at_lookup; refine wpList_lookup_i _ rfl _ _ 60 false rfl 29 64 .u64 Try.underlying60 Try.underlying29 _ (zeroPtr _) mb _ _ rfl (hT.mp.of_block (Below.heap_alloc _ _ _ hmb)) _ rfl (.pointer (some ⟨e.p, 0, none⟩)) true HL1.out HL2.out ?_)
          | go_in)
        go_ret
        rw [hr'.out]
        exact ⟨rfl, TabTo.same hT ((Below.refl _ _).alloc (Nat.le_refl _) _)⟩
      case pos =>
        have h2' : (e.x.state != 2) = false := by simpa using h2
        by_cases h3 : k < 1 ∨ 3 < k
        case pos =>
          have hr' : Hid (res = (R.abs, 1)) := by
            show _ = _; rw [← hr, Tab.reply, if_neg (by simpa [RTab.abs] using h1), abs_get, hf]; simp [h2, h3]
          clear hr h1 hf hid h2
          by_cases h3a : k < 1
          all_goals
            go_enter Try.func15, Try.ntmps15
            go_wp2_with (first
              | (at_lookup; refine wpList_lookup_i _ rfl _ _ 60 false rfl 29 64 .u64 Try.underlying60 Try.underlying29 _ (zeroPtr _) mb _ _ rfl (hT.mp.of_block (Below.heap_alloc _ _ _ hmb)) _ rfl (.pointer (some ⟨e.p, 0, none⟩)) true HL1.out HL2.out ?_)
              | go_in)
            go_ret
            rw [hr'.out]
            exact ⟨rfl, TabTo.same hT ((Below.refl _ _).alloc (Nat.le_refl _) _)⟩
        case neg =>
          have h3a : 1 ≤ k := by omega
          have h3b : k ≤ 3 := by omega
          have hr' : Hid (res = ({ R.abs with L := updE R.abs.L e.x.id fun y => { y with state := 3, ok := k, ov := v } }, 0)) := by
            show _ = _; rw [← hr, Tab.reply, if_neg (by simpa [RTab.abs] using h1), abs_get, hf]; simp [h2, h3, hid]
          clear hr h1 hf hid h2 h3
          go_enter Try.func15, Try.ntmps15
          go_wp2_with (first
            | (at_lookup; refine wpList_lookup_i _ rfl _ _ 60 false rfl 29 64 .u64 Try.underlying60 Try.underlying29 _ (zeroPtr _) mb _ _ rfl (hT.mp.of_block (Below.heap_alloc _ _ _ hmb)) _ rfl (.pointer (some ⟨e.p, 0, none⟩)) true HL1.out HL2.out ?_)
            | go_in)
          go_region
          go_wp2
          go_ret
          rw [hr'.out] at hinv ⊢
          refine ⟨rfl, TabTo.of_upd hT he _ (fun _ => rfl) ?_ ?_ (by decide) hinv⟩
          · exact (Below.heap_alloc _ _ _ (by simp only [setCell_size]; exact hp)).trans (setCell_heap (setCell_heap (setCell_heap hE)))
          · exact (((((Mod.refl (· = e.p) w).setCell (fun _ => rfl) _).setCell (fun _ => rfl) _).setCell (fun _ => rfl) _).alloc _).drew

set_option maxHeartbeats 2000000 in
theorem kill_any (a mb : Nat) (R : RTab) (task : Int) (w : World) (hT : TabAt' w a mb R) :
    Calls Try.prog 22 #[.pointer (some ⟨a, 0, none⟩), .int .i64 task] w fun e w' => e = .returned (.bool (R.abs.kill task).2) ∧ TabTo' w a mb R (R.abs.kill task).1 w' := by
  have hinv := hT.inv.kill task
  have hof := of_any a mb R task w hT
  generalize hr : R.abs.kill task = res at hinv ⊢
  cases hf : R.L.find? (·.x.task == task) with
  | none =>
    have hr' : Hid (res = (R.abs, false)) := by show _ = _; rw [← hr, Tab.kill, abs_of, hf]; rfl
    rw [hf] at hof
    clear hr hf
    go_enter Try.func22, Try.ntmps22
    go_wp2_with (first
      | (go_at_call 24; refine hof.mono ?_; clear hof; rintro e1 w1 ⟨rfl, hb1⟩))
    go_ret
    rw [hr'.out]
    exact ⟨rfl, TabTo.same hT hb1⟩
  | some e =>
    have he := List.mem_of_find?_eq_some hf
    rw [hf] at hof
    cases hw : e.x.waits with
    | false =>
      have hr' : Hid (res = (R.abs, false)) := by show _ = _; rw [← hr, Tab.kill, abs_of, hf]; simp [hw]
      clear hr hf
      go_enter Try.func22, Try.ntmps22
      go_wp2_with (first
        | (go_at_call 24; refine hof.mono ?_; clear hof; rintro e1 w1 ⟨rfl, hb1⟩)
        | (go_at_call 25; refine (waits_true _ e.x _ ((hT.of_below hb1 (Nat.le_refl _)).es e he) false hw).mono ?_; rintro e1 w2 ⟨rfl, rfl⟩))
      go_ret
      rw [hr'.out]
      exact ⟨rfl, TabTo.same hT hb1⟩
    | true =>
      have hr' : Hid (res = ({ R.abs with L := updE R.abs.L e.x.id fun y => y.gone 4 }, true)) := by show _ = _; rw [← hr, Tab.kill, abs_of, hf]; simp [hw]
      clear hr hf
      go_enter Try.func22, Try.ntmps22
      go_wp2_with (first
        | (go_at_call 24; refine hof.mono ?_; clear hof; rintro e1 w1 ⟨rfl, hb1⟩)
        | (go_at_call 25; refine (waits_true _ e.x _ ((hT.of_below hb1 (Nat.le_refl _)).es e he) true hw).mono ?_; rintro e1 w2 ⟨rfl, rfl⟩)
        | (go_at_call 27; refine (gone_any _ e.x _ _ ((hT.of_below hb1 (Nat.le_refl _)).es e he)).mono ?_; rintro e1 w3 ⟨rfl, hb3, hm3, hs3⟩))
      go_ret
      rw [hr'.out] at hinv ⊢
      exact ⟨rfl, TabTo.of_upd hT he _ (fun _ => rfl) hb3 ((Mod.of_below hb1 (· = e.p)).trans hm3 (fun i _ h => h)) (by decide) hinv⟩
end Go.Proofs.Ytghoeecgmhcplaa
