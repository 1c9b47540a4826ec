/- slices.Sort of at most twelve numbers (uint64). -/
import Derived.Test.YtghoeecgmhcplaaSortA64
set_option linter.unusedVariables false
set_option linter.unusedSimpArgs false
namespace Go.Proofs.Ytghoeecgmhcplaa.S64
open Go Go.RowKit Go.FL

set_option maxHeartbeats 1000000 in
set_option maxRecDepth 100000 in
theorem len64_any (x : Int) (w : World) (h0 : 0 ≤ x) (h1 : x ≤ 12) : Calls Try.prog 55 #[.int .u64 x] w fun e w' => (∃ r, e = .returned (.int .i64 r)) ∧ w = w' := by
  have l1 : ¬ 4294967296 ≤ x := by omega
  have l2 : ¬ 65536 ≤ x := by omega
  have l3 : ¬ 256 ≤ x := by omega
  go_enter Try.func55, Try.ntmps55
  go_wp2_with (first
    | ((with_reducible refine wpList_index_some _ rfl _ _ _ rfl Try.underlying9 _ rfl _ _ rfl ?h0 ?h1 ?_); rotate_right))
  intro y
  go_wp2
  go_ret
  exact ⟨⟨_, rfl⟩, rfl⟩
theorem len_any (x : Int) (w : World) (h0 : 0 ≤ x) (h1 : x ≤ 12) : Calls Try.prog 44 #[.int .u64 x] w fun e w' => (∃ r, e = .returned (.int .i64 r)) ∧ w = w' := by
  go_enter Try.func44, Try.ntmps44
  go_wp2_with (go_at_call 55; refine (len64_any _ _ h0 h1).mono ?_; rintro e w' ⟨⟨r, rfl⟩, rfl⟩)
  go_ret
  exact ⟨⟨_, rfl⟩, rfl⟩

set_option maxHeartbeats 1000000 in
theorem pdq_small (g cap : Nat) (lim : Int) (xs : List Int) (w : World) (hn : xs.length ≤ 12) (hR : Row w g cap xs) :
    Calls Try.prog 43 #[.slice (some ⟨g, 0, none⟩) xs.length cap, .int .i64 0, .int .i64 xs.length, .int .i64 lim] w fun e w' => e = .returned (.tuple #[]) ∧ ∃ ys, Row w' g cap ys ∧ Sw 0 xs.length xs ys ∧ SortedIn 0 xs.length ys ∧ Mod (· = g) w w' := by
  have H := insertion_any g cap 0 xs.length xs w (Nat.zero_le _) (Nat.le_refl _) (by omega) hR
  have HR := Lib.hid hR
  clear hR
  have hn' : (xs.length : Int) ≤ 12 := by omega
  go_enter Try.func43, Try.ntmps43
  go_wp2
  refine wp_loop_rounds 1 ?_
  rw [rounds_succ]
  go_wp2_with (go_at_call 45; refine H.mono ?_; clear H; rintro e w' ⟨rfl, ys, h1, h2, h3, h4⟩)
  refine bodyPost_ret (results_none rfl _ _ _) rfl ?_
  exact ⟨rfl, ys, h1, h2, h3, h4⟩
theorem insertion_none (A : Option Addr) (cap : Nat) (w : World) : Calls Try.prog 45 #[.slice A 0 cap, .int .i64 0, .int .i64 0] w fun e w' => e = .returned (.tuple #[]) ∧ w = w' := by
  go_enter Try.func45, Try.ntmps45
  go_wp2
  refine wp_loop_rounds 1 ?_
  rw [rounds_succ]
  go_wp2
  go_end0
  exact ⟨rfl, rfl⟩
theorem pdq_none (A : Option Addr) (cap : Nat) (lim : Int) (w : World) : Calls Try.prog 43 #[.slice A 0 cap, .int .i64 0, .int .i64 0, .int .i64 lim] w fun e w' => e = .returned (.tuple #[]) ∧ w = w' := by
  go_enter Try.func43, Try.ntmps43
  go_wp2
  refine wp_loop_rounds 1 ?_
  rw [rounds_succ]
  go_wp2_with (go_at_call 45; refine (insertion_none _ _ _).mono ?_; rintro e w' ⟨rfl, rfl⟩)
  refine bodyPost_ret (results_none rfl _ _ _) rfl ?_
  exact ⟨rfl, rfl⟩
theorem sort_none (A : Option Addr) (cap : Nat) (w : World) : Calls Try.prog 39 #[.slice A 0 cap] w fun e w' => e = .returned (.tuple #[]) ∧ w = w' := by
  go_enter Try.func39, Try.ntmps39
  go_wp2_with (first
    | (go_at_call 44; refine (len_any _ _ (by omega) (by omega)).mono ?_; rintro e w' ⟨⟨r, rfl⟩, rfl⟩)
    | (go_at_call 43; refine (pdq_none _ _ _ _).mono ?_; rintro e w' ⟨rfl, rfl⟩))
  go_end0
  exact ⟨rfl, rfl⟩

/-- slices.Sort of a row of the call's own: the same numbers, rising -/
theorem sort_small (v : Value) (base : Nat) (xs : List Int) (w : World) (hn : xs.length ≤ 12) (hown : w.ownsRow base 29 1 v xs.length (xs.map (Value.int .u64))) (hbase : base ≤ w.heap.size) :
    Calls Try.prog 39 #[v] w fun e w' => e = .returned (.tuple #[]) ∧ ∃ ys : List Int, w'.ownsRow base 29 1 v ys.length (ys.map (Value.int .u64)) ∧ ys.Perm xs ∧ ys.Pairwise (· ≤ ·) ∧ Mod (fun k => base ≤ k) w w' := by
  rcases Nat.eq_zero_or_pos xs.length with h0 | h0
  · obtain rfl : xs = [] := List.eq_nil_of_length_eq_zero h0
    obtain ⟨A, c, rfl⟩ : ∃ A c, v = .slice A 0 c := by
      rcases hown.2 with ⟨rfl, _⟩ | ⟨g, cap, cur, rfl, _⟩
      · exact ⟨none, 0, rfl⟩
      · exact ⟨_, cap, rfl⟩
    refine (sort_none A c w).mono ?_
    rintro e w' ⟨rfl, rfl⟩
    exact ⟨rfl, [], hown, .refl _, by simp, Mod.refl _ _⟩
  · obtain ⟨g, cap, rfl, hg, hc, hR⟩ := RowAt.of_owns hown h0
    have H := fun lim => pdq_small g cap lim xs w hn hR
    have hw : IntKind.u64.wrap (xs.length : Int) = xs.length := wrap_u64 (by omega) (by omega)
    go_enter Try.func39, Try.ntmps39
    go_wp2_with (first
      | (go_at_call 44; refine (len_any _ _ (by omega) (by omega)).mono ?_; rintro e w' ⟨⟨r, rfl⟩, rfl⟩)
      | (go_at_call 43; refine (H _).mono ?_; clear H; rintro e w' ⟨rfl, ys, h1, h2, h3, h4⟩))
    go_end0
    have hl := h2.length
    refine ⟨rfl, ys, ?_, h2.perm (Nat.le_refl _), sorted_all (by rw [hl]; exact h3), h4.mono fun k _ hk => by subst hk; exact hg⟩
    have := h1.owns hg hc
    rwa [hl] at this ⊢
end Go.Proofs.Ytghoeecgmhcplaa.S64
