/- Walks through the reference's methods: Add. -/
import Derived.Test.YtghoeecgmhcplaaRefB
import Derived.Deep.RegionHeld3
import Derived.Deep.RegionLaw
import Derived.Deep.AppendLies
set_option linter.unusedVariables false
set_option linter.unusedSimpArgs false
namespace Go.Proofs.Ytghoeecgmhcplaa
open Go Go.RowKit Go.FL

theorem info_entR : (Try.prog.info? 36).map (fun i => (i.zero, i.size, i.bytes)) = some (some (.agg #[.int .u64 0, .int .i64 0, .int .i64 0, .int .i64 0, .int .i64 0, .int .i64 0]), 6, 48) := by kernel_rfl

theorem radd_row {w2 w1 : World} {r n c gg cap : Nat} {A : Option Addr} {T : Tab} {x : Ent} {o : Obj} (h : RefAt' w2 r (.slice A n c) T) (hn : T.L.length = n) (hown1 : w1.ownsRow 0 36 6 (.slice (some ⟨gg, 0, none⟩) (n + 1) cap) (n + 1) ((T.L.map entR).flatten ++ entR x))
    (hgrow : ((w2.alloc o).drew).grownBy w1 (Value.slice A n c).ownBlock) (hat : (Value.slice A n c).ownBlock = some gg ∨ gg = w2.heap.size + 1) :
    RefAt' (w1.setCell ⟨r, 0, none⟩ (.slice (some ⟨gg, 0, none⟩) (n + 1) cap)) r (.slice (some ⟨gg, 0, none⟩) (n + 1) cap) { T with L := T.L ++ [x] } ∧ Mod (refF r (.slice A n c)) w2 (w1.setCell ⟨r, 0, none⟩ (.slice (some ⟨gg, 0, none⟩) (n + 1) cap)) ∧
      ∀ k, (Value.slice (some ⟨gg, 0, none⟩) (n + 1) cap).ownBlock = some k → (Value.slice A n c).ownBlock = some k ∨ w2.heap.size ≤ k := by
  have hm : Mod (fun k => (Value.slice A n c).ownBlock = some k) w2 w1 := ((((Mod.refl (fun k => (Value.slice A n c).ownBlock = some k) w2).alloc o).drew).trans (Mod.of_grownBy hgrow) (fun _ _ h => h))
  have hb := (hm.block r h.lt (fun e => own_ne h.row h.rb h.ne r e rfl)).trans h.rb
  have hgr : gg ≠ r := own_ne hown1 hb h.ne gg rfl
  refine ⟨⟨setCell_heap hb, ?_, h.ne⟩, (hm.mono fun k _ hk => .inr hk).set (fun _ => .inl rfl) _, fun k hk => ?_⟩
  · have := own_mod hown1 ((Mod.refl (· = r) w1).set (i := 0) (fun _ => rfl) (.slice (some ⟨gg, 0, none⟩) (n + 1) cap)) (fun k hk e => by
      have : gg = k := by simpa [Value.ownBlock] using hk
      omega)
    simpa [hn] using this
  · have : gg = k := by simpa [Value.ownBlock] using hk
    subst this
    rcases hat with h | h
    · exact .inl h
    · exact .inr (by omega)

theorem radd_end {w w2 w3 : World} {r : Nat} {v v3 : Value} {T3 : Tab} (hR3 : RefAt' w3 r v3 T3) (hM3 : Mod (refF r v) w2 w3) (hv3 : ∀ k, v3.ownBlock = some k → v.ownBlock = some k ∨ w2.heap.size ≤ k) (hB : Below w.heap.size w w2) (z : Int) :
    RefTo' w r v { T3 with next := z } (w3.setCell ⟨r, 3, none⟩ (.int .u64 z)) := by
  refine ⟨⟨v3, ⟨setCell_heap (i := 3) (v := .int .u64 z) hR3.rb, own_mod hR3.row ((Mod.refl (· = r) w3).set (i := 3) (fun _ => rfl) _) (fun k hk e => own_ne hR3.row hR3.rb hR3.ne k hk e), hR3.ne⟩, fun k hk => ?_⟩, ?_⟩
  · rcases hv3 k hk with h | h
    · exact .inl h
    · exact .inr (Nat.le_trans hB.size h)
  · exact ((Mod.of_below hB (refF r v)).trans hM3 (fun _ _ h => h)).set (fun _ => .inl rfl) _

set_option maxRecDepth 100000 in
set_option maxHeartbeats 3200000 in
theorem radd_any (r : Nat) (v : Value) (T : Tab) (task : Int) (w : World) (h : RefAt' w r v T) (hi : T.Inv) (q : Tab × Int × Int) (hq : T.add task = q) :
    Calls Try.prog 28 #[.pointer (some ⟨r, 0, none⟩), .int .i64 task] w fun e w' => e = .returned (.tuple #[.int .u64 q.2.1, .int .i64 q.2.2]) ∧ RefTo' w r v q.1 w' := by
  have HQ := Lib.hid hq
  have hl : T.L.length ≤ 8 := by have := hi.len; have := hi.size8; omega
  have n0 := hi.next0
  have n9 := hi.next1
  have HI := Lib.hid hi
  clear hq hi
  obtain ⟨A, c, rfl⟩ := h.slice
  have hc := cells_of h.rb
  have hf := frees_of h.rb
  have hr := h.lt
  have HH := Lib.hid h
  have hle := fstI_le (·.task == task) T.L
  obtain ⟨st, hst⟩ : ∃ st, fstI (fun x : Ent => x.task == task) T.L = st := ⟨_, rfl⟩
  obtain ⟨n, hn⟩ : ∃ n, T.L.length = n := ⟨_, rfl⟩
  rw [hst] at hle
  rw [hn] at hle hl hc
  rw [hn]
  have HST := Lib.hid hst
  have HN := Lib.hid hn
  have HL8 := Lib.hid hl
  clear hst hn h
  by_cases h1 : task < 1 ∨ 4 < task
  · have he : Hid (q = (T, 0, 1)) := by show _ = _; rw [← HQ.out, Tab.add, if_pos h1]
    by_cases h1a : task < 1
    all_goals
      go_enter Try.func28, Try.ntmps28
      go_wp2_with (fail)
      go_ret2
      rw [he.out]
      have hh := HH.out
      rw [HN.out] at hh
      exact ⟨rfl, RefTo.same hh (Below.refl _ _)⟩
  · have h1a : 1 ≤ task := by omega
    have h1b : task ≤ 4 := by omega
    have H1 := Lib.hid h1
    clear h1
    go_enter Try.func28, Try.ntmps28
    go_wp2
    go_loop [6] (fun s => ∃ i : Nat, s = .int .i64 i ∧ i ≤ st) (fun s => n - (intOf s).toNat)
    case atStart => exact ⟨0, rfl, Nat.zero_le _⟩
    case round =>
      obtain ⟨i, rfl, hi⟩ := hrel
      by_cases his : i < st
      · obtain ⟨x, hx, hp⟩ := fstI_before (by rw [HST.out]; exact his)
        obtain ⟨g, c', hv, hg, hgr, hfz, k0, k1, k2, k3, k4, k5⟩ := HH.out.elem hx
        cases hv
        have hin : (i : Int) < n := by omega
        clear hx k0 k2 k3 k4 k5
        go_wp2
        go_round
        case rel => exact ⟨i + 1, by go_num, by omega⟩
        case measure => simp [intOf]; omega
      · obtain rfl : i = st := by omega
        by_cases hin : i < n
        · obtain ⟨x, hx, hp, hfd⟩ := fstI_at (p := fun x : Ent => x.task == task) (L := T.L) (by rw [HST.out, HN.out]; exact hin)
          rw [HST.out] at hx
          have hh := HH.out
          obtain ⟨g, c', hv, hg, hgr, hfz, k0, k1, k2, k3, k4, k5⟩ := hh.elem hx
          cases hv
          have hin' : (i : Int) < n := by omega
          have he : Hid (q = (T, 0, 21)) := by show _ = _; rw [← HQ.out, Tab.add, if_neg H1.out, Tab.of, hfd]; rfl
          rw [HN.out] at hh
          have HH2 := Lib.hid hh
          clear hx k0 k2 k3 k4 k5 hh hfd
          go_wp2
          go_ret2
          rw [he.out]
          exact ⟨rfl, RefTo.same HH2.out (Below.refl _ _)⟩
        · have hin' : ¬ (i : Int) < n := by omega
          have hfd := fstI_none (p := fun x : Ent => x.task == task) (L := T.L) (by rw [HST.out, HN.out]; exact hin)
          have e0 : T.add task = if T.size ≤ T.L.length ∨ T.next = 18446744073709551615 then (T, 0, 16) else ({ T with next := T.next + 1, L := T.L ++ [⟨T.next, task, 1, T.wait, 0, 0⟩] }, T.next, 0) := by
            rw [Tab.add, if_neg H1.out, Tab.of, hfd]; rfl
          have E0 := Lib.hid e0
          have hh := HH.out
          rw [HN.out] at hh
          have HH2 := Lib.hid hh
          clear hfd e0 hh
          by_cases hf1 : T.size ≤ (n : Int)
          · have he : Hid (q = (T, 0, 16)) := by show _ = _; rw [← HQ.out, E0.out, if_pos (.inl (by rw [HN.out]; exact hf1))]
            go_wp2
            go_quiet (fail)
            go_wp2
            go_ret2
            rw [he.out]
            exact ⟨rfl, RefTo.same HH2.out ⟨rfl, rfl, rfl, Nat.le_refl _, fun _ _ => rfl⟩⟩
          · by_cases hf2 : T.next = 18446744073709551615
            · have he : Hid (q = (T, 0, 16)) := by show _ = _; rw [← HQ.out, E0.out, if_pos (.inr hf2)]
              have hf2' : (T.next == 18446744073709551615) = true := by simpa using hf2
              have HW0 : Hid (IntKind.u64.wrap T.next = T.next) := wrap_u64 (by omega) (by omega)
              have HW1 : Hid (IntKind.u64.wrap (T.next + 1 - 1) = T.next) := by show _ = _; rw [show T.next + 1 - 1 = T.next from by omega]; exact HW0.out
              clear hf2
              go_wp2
              go_quiet (fail)
              go_wp2
              go_ret2
              rw [he.out]
              exact ⟨rfl, RefTo.same HH2.out ⟨rfl, rfl, rfl, Nat.le_refl _, fun _ _ => rfl⟩⟩
            · have he : Hid (q = ({ T with next := T.next + 1, L := T.L ++ [⟨T.next, task, 1, T.wait, 0, 0⟩] }, T.next, 0)) := by show _ = _; rw [← HQ.out, E0.out, if_neg (by rw [HN.out]; omega)]
              have hf2' : (T.next == 18446744073709551615) = false := by simpa using hf2
              have hnx : Hid (IntKind.u64.wrap (T.next + 1) = T.next + 1) := wrap_u64 (by omega) (by omega)
              have HW0 : Hid (IntKind.u64.wrap T.next = T.next) := wrap_u64 (by omega) (by omega)
              have HW1 : Hid (IntKind.u64.wrap (T.next + 1 - 1) = T.next) := by show _ = _; rw [show T.next + 1 - 1 = T.next from by omega]; exact HW0.out
              clear hf2
              go_wp2
              go_quiet (fail)
              go_wp2
              have hh2 : RefAt' (w.drewN nq) r (.slice A n c) T := HH2.out.of_below ⟨rfl, rfl, rfl, Nat.le_refl _, fun _ _ => rfl⟩
              have hB2 : Below w.heap.size w (w.drewN nq) := ⟨rfl, rfl, rfl, Nat.le_refl _, fun _ _ => rfl⟩
              generalize w.drewN nq = w2 at hh2 hB2 ⊢
              have hs2 := hB2.size
              have hr2 := hh2.lt
              have c0 : w2.cell? ⟨r, 0, none⟩ = some (.slice A n c) := by rw [cell_of hh2.rb]; rfl
              have c2 : w2.cell? ⟨r, 2, none⟩ = some (.int .i64 T.wait) := by rw [cell_of hh2.rb]; rfl
              have c3 : w2.cell? ⟨r, 3, none⟩ = some (.int .u64 T.next) := by rw [cell_of hh2.rb]; rfl
              have f0 : w2.frozen? ⟨r, 0, none⟩ = false := free_of hh2.rb 0
              have fA : ∀ o, (w2.alloc o).drew.frozen? ⟨r, 0, none⟩ = false := fun o => (World.frozen?_of_block (w := w2) (w' := (w2.alloc o).drew) (a := ⟨r, 0, none⟩) (Below.heap_alloc w2 o r hr2)).trans f0
              have cA : ∀ o, (w2.alloc o).drew.cell? ⟨r, 0, none⟩ = some (.slice A n c) := fun o => (World.cell?_of_block (w := w2) (w' := (w2.alloc o).drew) (a := ⟨r, 0, none⟩) (Below.heap_alloc w2 o r hr2)).trans c0
              have hown := hh2.row
              have hnr : (Value.slice A n c).ownBlock ≠ some r := fun e => own_ne hown hh2.rb hh2.ne r e rfl
              have HH3 := Lib.hid hh2
              have hl8 := HL8.out
              rw [HN.out] at hown
              obtain ⟨i0, hi0, hz0, hz1, hz2⟩ := info_parts info_entR
              clear hc hf hle hh2
              go_region_law
                ((refine step_append_lies _ (by rfl) _ _ _ (by rfl) 0 36 i0 _ 6 48 Try.underlying32 hi0 hz0 hz1 hz2 rfl (by omega) (.slice A n c) n _ (by rfl) ((hown.alloc _).drew)
                    ⟨w2.heap.size, 0, none⟩ 1 1 [.int .u64 T.next, .int .i64 task, .int .i64 1, .int .i64 T.wait, .int .i64 0, .int .i64 0] (by rfl) (by rfl) (World.news_of_block (cs := #[.int .u64 T.next, .int .i64 task, .int .i64 1, .int .i64 T.wait, .int .i64 0, .int .i64 0]) (t := 36) (fr := (0, 0)) (heap_alloc_new w2 _)) (by simp [Value.oneCell'])
                    (by omega) (by simp only [maxLen]; omega) (by omega) (by simp) (w2.heap.size + 1) (by simp) ?_; intro gg cap w1 hown1 hgrow hat hlt; have d0 := (hgrow.cell_far ⟨r, 0, none⟩ (by simp; omega) (Ne.symm hnr)).trans (cA _); have d1 := (hgrow.frozen_far ⟨r, 0, none⟩ (by simp; omega) (Ne.symm hnr)).trans (fA _)))
              all_goals
                obtain ⟨hR3, hM3, hv3⟩ := radd_row (x := ⟨T.next, task, 1, T.wait, 0, 0⟩) HH3.out HN.out hown1 hgrow hat
                generalize w1.setCell ⟨r, 0, none⟩ (.slice (some ⟨gg, 0, none⟩) (n + 1) cap) = w3 at hR3 hM3 ⊢
                clear hown1 hgrow hat hlt d0 d1 cA fA c0 c2 c3 f0
                have hc3 := cells_of hR3.rb
                have hf3 := frees_of hR3.rb
                have hlt3 := hR3.lt
                go_wp2
                go_ret2
                rw [he.out, hnx.out]
                refine ⟨?_, radd_end hR3 hM3 hv3 hB2 _⟩
                first
                  | rfl
                  | (rw [HW1.out]; rfl)
end Go.Proofs.Ytghoeecgmhcplaa
