/- Walk through fairleadlaw21.awake. -/
import Derived.Test.YtghoeecgmhcplaaNotifP
set_option linter.unusedVariables false
set_option linter.unusedSimpArgs false
namespace Go.Proofs.Ytghoeecgmhcplaa
open Go Go.RowKit Go.FL

theorem send_at {a mb : Nat} {R : RTab} {w : World} (T : Tab) (hab : R.abs = T) (v : Value) (hv : getOut T.send.2 = v) (hT : TabAt' w a mb R) :
    Calls Try.prog 21 #[.pointer (some ⟨a, 0, none⟩)] w fun e w' => e = .returned v ∧ TabTo' w a mb R T.send.1 w' := by
  subst hab; subst hv; exact send_any a mb R w hT
theorem ended_at {a mb : Nat} {R : RTab} {w : World} (T : Tab) (task : Int) (hab : R.abs = T) (v : Value) (hv : getOut (T.ended task).2 = v) (hT : TabAt' w a mb R) :
    Calls Try.prog 11 #[.pointer (some ⟨a, 0, none⟩), .int .i64 task] w fun e w' => e = .returned v ∧ TabTo' w a mb R (T.ended task).1 w' := by
  subst hab; subst hv; exact ended_any a mb R task w hT
theorem add_at {a mb : Nat} {R : RTab} {w : World} (T T' : Tab) (task id er : Int) (hab : R.abs = T) (hv : T.add task = (T', id, er)) (hT : TabAt' w a mb R) :
    Calls Try.prog 20 #[.pointer (some ⟨a, 0, none⟩), .int .i64 task] w fun e w' => e = .returned (.tuple #[.int .u64 id, .int .i64 er]) ∧ TabTo' w a mb R T' w' := by
  subst hab; have := add_any a mb R task w hT; rw [hv] at this; exact this
theorem reply_at {a mb : Nat} {R : RTab} {w : World} (T T' : Tab) (ep id k v er : Int) (hab : R.abs = T) (hv : T.reply ep id k v = (T', er)) (hT : TabAt' w a mb R) :
    Calls Try.prog 15 #[.pointer (some ⟨a, 0, none⟩), .int .u64 ep, .int .u64 id, .agg #[.int .i64 k, .int .i64 v]] w fun e w' => e = .returned (.int .i64 er) ∧ TabTo' w a mb R T' w' := by
  subst hab; have := reply_any a mb R ep id k v w hT; rw [hv] at this; exact this

def aw0 : Tab := ⟨2, 3, 7, 0, []⟩
def aw1 : Tab := ⟨2, 3, 8, 0, [⟨7, 1, 1, 3, 0, 0⟩]⟩
def aw2 : Tab := ⟨2, 3, 8, 0, [⟨7, 1, 2, 3, 0, 0⟩]⟩
def aw3 : Tab := ⟨2, 3, 8, 0, [⟨7, 1, 3, 3, 1, 0⟩]⟩

set_option maxRecDepth 100000 in
set_option maxHeartbeats 4000000 in
theorem awake_any (w : World) : Calls Try.prog 7 #[] w fun e w' => e = .returned (.bool true) ∧ Below w.heap.size w w' := by
  go_enter Try.func7, Try.ntmps7
  go_wp2_with fail
  refine (new_yes 2 3 7 w (by omega) (by omega) (by omega) (by omega) (by omega) (by omega)).mono ?_
  rintro e0 w0 ⟨rfl, hT0, hB0, hs0⟩
  have hf0 : ∀ k, (RTab.fresh 2 3 7).foot (w.heap.size + 1) w.heap.size k → w.heap.size ≤ k := fun k hk => by
    rcases hk with h | h | ⟨e, he, _⟩
    · omega
    · omega
    · cases he
  clear hs0
  go_wp2_with fail
  refine (add_at aw0 aw1 1 7 0 rfl rfl hT0).mono ?_
  rintro e1 w1 ⟨rfl, hTo1⟩
  obtain ⟨⟨R1, hT1, hab1, hft1⟩, hm1⟩ := hTo1
  have H1 := Lib.hid hab1
  clear hab1
  go_wp2_with fail
  refine (send_at aw1 H1.out (.tuple #[.agg #[.int .u64 7, .int .i64 1, .int .i64 2, .int .i64 3, .int .i64 0, .int .i64 0], .bool true]) rfl hT1).mono ?_
  rintro e2 w2 ⟨rfl, hTo2⟩
  obtain ⟨⟨R2, hT2, hab2, hft2⟩, hm2⟩ := hTo2
  have H2 : Hid (R2.abs = aw2) := hab2
  clear hab2
  go_wp2_with fail
  have hT2a := hT2.of_below ((Below.refl _ w2).alloc (Nat.le_refl _) (.cells #[.int .u64 7, .int .i64 1, .int .i64 2, .int .i64 3, .int .i64 0, .int .i64 0] 36)) (Nat.le_refl _)
  refine (reply_at aw2 aw3 0 7 1 0 0 H2.out rfl hT2a).mono ?_
  rintro e3 w3 ⟨rfl, hTo3⟩
  obtain ⟨⟨R3, hT3, hab3, hft3⟩, hm3⟩ := hTo3
  have H3 : Hid (R3.abs = aw3) := hab3
  clear hab3
  have hx3 : w3.heap[w2.heap.size]? = some (.cells #[.int .u64 7, .int .i64 1, .int .i64 2, .int .i64 3, .int .i64 0, .int .i64 0] 36 (0, 0)) :=
    (hm3.block _ (by simp) (fun h => absurd (hT2.lt h) (Nat.lt_irrefl _))).trans (heap_alloc_new w2 _)
  have hl3 := lt_of_heap hx3
  go_wp2_with fail
  refine (ended_at aw3 1 H3.out (.tuple #[.agg #[.int .u64 7, .int .i64 1, .int .i64 3, .int .i64 3, .int .i64 1, .int .i64 0], .bool true]) rfl hT3).mono ?_
  rintro e4 w4 ⟨rfl, hTo4⟩
  obtain ⟨⟨R4, hT4, hab4, hft4⟩, hm4⟩ := hTo4
  have hx4 : w4.heap[w2.heap.size]? = some (.cells #[.int .u64 7, .int .i64 1, .int .i64 2, .int .i64 3, .int .i64 0, .int .i64 0] 36 (0, 0)) :=
    (hm4.block _ hl3 (fun h => by
      rcases hft3 _ h with h | h
      · exact absurd (hT2.lt h) (Nat.lt_irrefl _)
      · rw [World.size_alloc] at h; omega)).trans hx3
  have hc4 := cells_of hx4
  have hl4 := lt_of_heap hx4
  have hB : Below w.heap.size w w4 := by
    have h1 : ∀ k, R1.foot (w.heap.size + 1) w.heap.size k → w.heap.size ≤ k := fun k hk => by
      rcases hft1 k hk with h | h
      · exact hf0 k h
      · have := hB0.size; omega
    have h2 : ∀ k, R2.foot (w.heap.size + 1) w.heap.size k → w.heap.size ≤ k := fun k hk => by
      rcases hft2 k hk with h | h
      · exact h1 k h
      · have := hB0.size; have := hm1.size; omega
    have h3 : ∀ k, R3.foot (w.heap.size + 1) w.heap.size k → w.heap.size ≤ k := fun k hk => by
      rcases hft3 k hk with h | h
      · exact h2 k h
      · have := hB0.size; have := hm1.size; have := hm2.size; simp at h; omega
    have b1 := hm1.below hB0.size hf0
    have b2 := hm2.below (by have := hB0.size; have := hm1.size; omega) h1
    have b3 := hm3.below (by have := hB0.size; have := hm1.size; have := hm2.size; simp; omega) h2
    have b4 := hm4.below (by have := hB0.size; have := hm1.size; have := hm2.size; have := hm3.size; simp at this; omega) h3
    exact (((hB0.trans b1).trans b2).trans (((Below.refl _ w2).alloc (by have := hB0.size; have := hm1.size; have := hm2.size; omega) _).trans b3)).trans b4
  have hBl := hB.size
  clear hab4 hm4 hm3 hft4 hft3
  go_wp2
  go_ret
  exact ⟨rfl, hB.alloc hBl _⟩
end Go.Proofs.Ytghoeecgmhcplaa
