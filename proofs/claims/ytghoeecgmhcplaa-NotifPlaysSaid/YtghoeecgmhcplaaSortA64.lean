/- Walks through the library's sort of uint64: Less, insertionSort. -/
import Derived.Test.YtghoeecgmhcplaaProg
import Derived.Test.YtghoeecgmhcplaaSortBase
import Derived.BigQuiet
import Derived.Deep.QuietTactic
set_option linter.unusedVariables false
set_option linter.unusedSimpArgs false
namespace Go.Proofs.Ytghoeecgmhcplaa.S64
open Go Go.RowKit Go.FL
abbrev Row := RowAt .u64 29

theorem nan_any (x : Int) (w : World) : Calls Try.prog 61 #[.int .u64 x] w fun e w' => e = .returned (.bool false) ∧ w = w' := by
  have hx : (x != x) = false := by simp
  go_enter Try.func61, Try.ntmps61
  go_wp2
  go_ret
  exact ⟨rfl, rfl⟩
theorem less_any (x y : Int) (w : World) : Calls Try.prog 51 #[.int .u64 x, .int .u64 y] w fun e w' => e = .returned (.bool (decide (x < y))) ∧ w = w' := by
  go_enter Try.func51, Try.ntmps51
  go_wp2_with (go_at_call 61; refine (nan_any _ _).mono ?_; rintro e w' ⟨rfl, rfl⟩)
  go_ret
  exact ⟨rfl, rfl⟩

theorem sorted_one (a : Nat) (xs : List Int) : SortedIn a (a + 1) xs := fun p q h1 h2 h3 => by
  have : p = q := by omega
  subst this
  exact Int.le_refl _
/-- the numbers from a to i rise, but for the one at j, which is no more than those behind it -/
def Nearly (xs : List Int) (a i j : Nat) : Prop := (∀ p q, a ≤ p → p ≤ q → q ≤ i → p ≠ j → q ≠ j → xs.getD p 0 ≤ xs.getD q 0) ∧ ∀ q, j < q → q ≤ i → xs.getD j 0 ≤ xs.getD q 0
theorem Nearly.start {xs : List Int} {a i : Nat} (h : SortedIn a i xs) : Nearly xs a i i :=
  ⟨fun p q h1 h2 h3 _ h5 => h p q h1 h2 (by omega), fun q h1 h2 => by omega⟩
theorem Nearly.swap {xs : List Int} {a i j : Nat} (h : Nearly xs a i j) (hi : i < xs.length) (hj : a < j) (hji : j ≤ i) (hlt : xs.getD j 0 < xs.getD (j - 1) 0) : Nearly (swp xs j (j - 1)) a i (j - 1) := by
  obtain ⟨h1, h2⟩ := h
  have at_ := fun p => swp_at xs j (j - 1) p (by omega) (by omega)
  constructor
  · intro p q hp hpq hq hpj hqj
    rw [at_ p, at_ q, if_neg hpj, if_neg hqj]
    by_cases e1 : p = j
    · by_cases e2 : q = j
      · simp [e1, e2]
      · rw [if_pos e1, if_neg e2]
        exact h1 (j - 1) q (by omega) (by omega) hq (by omega) e2
    · by_cases e2 : q = j
      · rw [if_neg e1, if_pos e2]
        exact h1 p (j - 1) hp (by omega) (by omega) e1 (by omega)
      · rw [if_neg e1, if_neg e2]
        exact h1 p q hp hpq hq e1 e2
  · intro q hq hqi
    rw [at_ q, at_ (j - 1), if_neg (show ¬ q = j - 1 by omega), if_pos rfl]
    by_cases e2 : q = j
    · rw [if_pos e2]; omega
    · rw [if_neg e2]
      exact h2 q (by omega) hqi
theorem Nearly.done {xs : List Int} {a i j : Nat} (h : Nearly xs a i j) (hj : j = a ∨ (a < j ∧ xs.getD (j - 1) 0 ≤ xs.getD j 0)) (hji : j ≤ i) : SortedIn a (i + 1) xs := by
  obtain ⟨h1, h2⟩ := h
  intro p q hp hpq hq
  by_cases e1 : p = j
  · by_cases e2 : q = j
    · simp [e1, e2]
    · subst e1; exact h2 q (by omega) (by omega)
  · by_cases e2 : q = j
    · rcases hj with hj | ⟨hj, hle⟩
      · omega
      · subst e2
        by_cases e3 : p = q - 1
        · subst e3; exact hle
        · exact Int.le_trans (h1 p (q - 1) hp (by omega) (by omega) e1 (by omega)) hle
    · exact h1 p q hp hpq (by omega) e1 e2

set_option maxHeartbeats 2000000 in
theorem insertion_any (g cap a b : Nat) (xs : List Int) (w : World) (hab : a ≤ b) (hb : b ≤ xs.length) (hn : xs.length ≤ 4611686018427387904) (hR : Row w g cap xs) :
    Calls Try.prog 45 #[.slice (some ⟨g, 0, none⟩) xs.length cap, .int .i64 a, .int .i64 b] w fun e w' => e = .returned (.tuple #[]) ∧ ∃ ys, Row w' g cap ys ∧ Sw a b xs ys ∧ SortedIn a b ys ∧ Mod (· = g) w w' := by
  have HR := Lib.hid hR
  clear hR
  go_enter Try.func45, Try.ntmps45
  go_wp2
  go_loopw [6] (fun v wr => ∃ (i : Nat) (ys : List Int), v = .int .i64 i ∧ a + 1 ≤ i ∧ (i ≤ b ∨ i = a + 1) ∧ Row wr g cap ys ∧ Sw a b xs ys ∧ SortedIn a i ys ∧ Mod (· = g) w wr) (fun v _ => b - (intOf v).toNat)
  case atStart => exact ⟨a + 1, xs, by go_num, by omega, by omega, HR.out, .refl, sorted_one _ _, Mod.refl _ _⟩
  case round =>
    obtain ⟨i, ys, rfl, hi1, hi2, hR, hS, hO, hM⟩ := hrel
    have hl := hS.length
    have HS := Lib.hid hS
    have HO := Lib.hid hO
    have HR := Lib.hid hR
    have HL := Lib.hid hl
    clear hS hO hR hl
    by_cases hib : i < b
    · clear hi2
      go_wp2
      go_loopw [7] (fun v wr2 => ∃ (j : Nat) (zs : List Int), v = .int .i64 j ∧ a ≤ j ∧ j ≤ i ∧ Row wr2 g cap zs ∧ Sw a b xs zs ∧ Nearly zs a i j ∧ Mod (· = g) w wr2) (fun v _ => (intOf v).toNat)
      case atStart => exact ⟨i, ys, rfl, by omega, by omega, HR.out, HS.out, Nearly.start HO.out, hM⟩
      case round =>
        obtain ⟨j, zs, rfl, hj1, hj2, hR2, hS2, hN2, hM2⟩ := hrel
        by_cases haj : a < j
        · obtain ⟨k, rfl⟩ : ∃ k, j = k + 1 := ⟨j - 1, by omega⟩
          have hlz := hS2.length
          have c1 := hR2.cell (i := k + 1) (by omega)
          have c2 := hR2.cell (i := k) (by omega)
          have hg := hR2.lt
          have hlt : (k : Int) + 1 < xs.length := by omega
          have HN2 := Lib.hid hN2
          have HS2 := Lib.hid hS2
          have HR2 := Lib.hid hR2
          have HL2 := Lib.hid hlz
          clear hN2 hS2 hR2 hlz
          have g1 : (a : Int) < (k : Int) + 1 := by omega
          have g3 : a ≤ k := by omega
          have g4 : a < k + 1 := by omega
          have g5 : k + 1 < xs.length := by omega
          have g6 : k < xs.length := by omega
          go_wp2_with fail
          go_quiet ((first | (go_at_call 51; exact Calls.quiet_of_same ((less_any _ _ _).mono fun _ _ h => ⟨h.1, h.2.symm⟩))))
          have f1 := HR2.out.free (k + 1)
          have f2 := HR2.out.free k
          go_wp2
          · have hlt : zs.getD (k + 1) 0 < zs.getD k 0 := by assumption
            go_region
            go_wp2
            go_roundw
            case rel =>
              have hlz := HL2.out
              refine ⟨k, swp zs (k + 1) k, by go_num, g3, by omega, ?_, HS2.out.step hj1 (by omega) g3 (by omega), HN2.out.swap (by omega) haj hj2 (by simpa using hlt), ?_⟩
              · exact RowAt.swap (w := wr.drewN (nq + 1)) (HR2.out.of_block rfl) (by omega) (by omega)
              · exact ((hM2.drewN (nq + 1)).set (fun _ => rfl) _).set (fun _ => rfl) _
            case measure => simp [intOf]
          · have hge : zs.getD k 0 ≤ zs.getD (k + 1) 0 := by assumption
            exact ⟨⟨i + 1, zs, by go_num, by omega, by omega, HR2.out.of_block rfl, HS2.out, HN2.out.done (.inr ⟨haj, by simpa using hge⟩) hj2, hM2.drewN nq⟩, by simp [intOf]; omega⟩
        · have hja : j = a := by omega
          have hd : decide ((a : Int) < (j : Int)) = false := by simp; omega
          have hd2 : decide (a < j) = false := by simp; omega
          have HN2 := Lib.hid hN2
          have HS2 := Lib.hid hS2
          have HR2 := Lib.hid hR2
          have HJ := Lib.hid hja
          clear hN2 hS2 hR2 hja
          go_wp2_with fail
          go_quiet (fail)
          go_wp2
          exact ⟨⟨i + 1, zs, by go_num, by omega, by omega, HR2.out.of_block rfl, HS2.out, HN2.out.done (.inl HJ.out) hj2, hM2.drewN nq⟩, by simp [intOf]; omega⟩
    · go_wp2
      go_end0
      refine ⟨rfl, ys, HR.out, HS.out, fun p q h1 h2 h3 => HO.out p q h1 h2 (by omega), hM⟩
end Go.Proofs.Ytghoeecgmhcplaa.S64
