/- fix.Down. -/
import Derived.Test.YthblblkifkndiaaAround
namespace Go.Proofs.Ythblblkifkndiaa
open Go.RowKit
theorem down_split (a b : Int) (hb : 1 ≤ b) : (a.tmod b < 0 ∧ a.tdiv b - 1 = a / b) ∨ (0 ≤ a.tmod b ∧ a.tdiv b = a / b) := by
  rw [Int.tdiv_eq_ediv, Int.tmod_eq_emod]
  have r0 := Int.emod_nonneg a (show b ≠ 0 by omega)
  have r1 := Int.emod_lt_of_pos a (show 0 < b by omega)
  by_cases h : 0 ≤ a ∨ b ∣ a
  · rw [if_pos h, if_pos h]; right; omega
  · rw [if_neg h, if_neg h, Int.sign_eq_one_of_pos (by omega)]; left; omega
theorem quo_bounds (a b : Int) (hb : 1 ≤ b) (h1 : -9223372036854775808 ≤ a) (h2 : a ≤ 9223372036854775807) :
    -9223372036854775808 ≤ a / b ∧ a / b ≤ 9223372036854775807 ∧ -9223372036854775808 ≤ a.tdiv b ∧ a.tdiv b ≤ 9223372036854775807 ∧ -b < a.tmod b ∧ a.tmod b < b ∧ a.tmod b + b * a.tdiv b = a ∧ a % b + b * (a / b) = a ∧ 0 ≤ a % b ∧ a % b < b := by
  have r0 := Int.emod_nonneg a (show b ≠ 0 by omega)
  have r1 := Int.emod_lt_of_pos a (show 0 < b by omega)
  have e1 := Int.emod_add_mul_ediv a b
  have e2 := Int.tmod_add_mul_tdiv a b
  have q1 : -9223372036854775808 ≤ a / b := by
    have : -9223372036854775808 * b ≤ a := by
      have : -9223372036854775808 * b ≤ -9223372036854775808 * 1 := Int.mul_le_mul_of_nonpos_left (by omega) hb
      omega
    exact (Int.le_ediv_iff_mul_le (by omega)).2 this
  have q2 : a / b ≤ 9223372036854775807 := by
    have : a < (9223372036854775807 + 1) * b := by
      have : (9223372036854775807 + 1) * 1 ≤ (9223372036854775807 + 1) * b := Int.mul_le_mul_of_nonneg_left hb (by omega)
      omega
    have := Int.ediv_lt_of_lt_mul (by omega) this
    omega
  have q3 : a.tdiv b ≤ 9223372036854775807 := by
    by_cases h0 : 0 ≤ a
    · rw [Int.tdiv_eq_ediv_of_nonneg h0]; exact q2
    · have := Int.tdiv_nonneg (show 0 ≤ -a by omega) (show 0 ≤ b by omega)
      rw [Int.neg_tdiv] at this
      omega
  have s := down_split a b hb
  have t1 : -b < a.tmod b ∧ a.tmod b < b := by
    rw [Int.tmod_eq_emod]
    by_cases h : 0 ≤ a ∨ b ∣ a
    · rw [if_pos h]; omega
    · rw [if_neg h]
      have : a % b ≠ 0 := fun h0 => h (.inr (Int.dvd_of_emod_eq_zero h0))
      omega
  exact ⟨q1, q2, by omega, q3, t1.1, t1.2, e2, e1, r0, r1⟩
theorem down_any (a b : Int) (w : World) (h1 : -9223372036854775808 ≤ a) (h2 : a ≤ 9223372036854775807) (hb : 1 ≤ b) (hb2 : b ≤ 9223372036854775807) :
    Calls Try.prog 27 #[.int .i64 a, .int .i64 b] w fun e w' => e = .returned (.int .i64 (a / b)) ∧ w = w' := by
  obtain ⟨q1, q2, q3, q4, q5, q6, -, -, -, -⟩ := quo_bounds a b hb h1 h2
  have b0 : ¬ b = 0 := by omega
  have b1 : ¬ b < 1 := by omega
  have v1 : IntKind.i64.wrap (a.tdiv b) = a.tdiv b := IntWalk.i64_in _ (by omega)
  have v2 : IntKind.i64.wrap (a.tmod b) = a.tmod b := IntWalk.i64_in _ (by omega)
  obtain ⟨Q, hQ⟩ : ∃ Q, a / b = Q := ⟨_, rfl⟩
  obtain ⟨T, hT⟩ : ∃ T, a.tdiv b = T := ⟨_, rfl⟩
  obtain ⟨R, hR⟩ : ∃ R, a.tmod b = R := ⟨_, rfl⟩
  have hs := down_split a b hb
  rw [hQ, hT, hR] at hs
  rw [hQ] at q1 q2 ⊢
  rw [hT] at q3 q4 v1
  rw [hR] at q5 q6 v2
  clear hQ
  rcases hs with ⟨c1, c2⟩ | ⟨c1, c2⟩
  · obtain rfl : Q = T - 1 := by omega
    clear c2
    go_enter Try.func27, Try.ntmps27
    go_wp2
    go_ret
    exact ⟨rfl, rfl⟩
  · subst c2
    have c3 : ¬ R < 0 := by omega
    go_enter Try.func27, Try.ntmps27
    go_wp2
    go_ret
    exact ⟨rfl, rfl⟩
end Go.Proofs.Ythblblkifkndiaa
