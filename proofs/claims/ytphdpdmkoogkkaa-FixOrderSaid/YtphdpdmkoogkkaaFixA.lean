/- Layer 1: the walks of Down, Up, Clamp (the program's, the reference's), at any numbers. -/
import Derived.Test.YtphdpdmkoogkkaaFixPlain
namespace Go.Proofs.Ytphdpdmkoogkkaa
open Go.RowKit
theorem down_any (a b : Int) (w : World) (h1 : -9223372036854775808 ≤ a) (h2 : a ≤ 9223372036854775807) (hb : 1 ≤ b) (hb2 : b ≤ 9223372036854775807) :
    Calls Try.prog 20 #[.int .i64 a, .int .i64 b] w fun e w' => e = .returned (.int .i64 (a / b)) ∧ w = w' := by
  obtain ⟨q1, q2, q3, q4, q5, q6, -, -, -, -⟩ := quo_bounds a b hb h1 h2
  have b0 : ¬ b = 0 := by omega
  have b1 : ¬ b < 1 := by omega
  have v1 : IntKind.i64.wrap (a.tdiv b) = a.tdiv b := IntWalk.i64_in _ (by omega)
  have v2 : IntKind.i64.wrap (a.tmod b) = a.tmod b := IntWalk.i64_in _ (by omega)
  obtain ⟨Q, hQ⟩ : ∃ Q, a / b = Q := ⟨_, rfl⟩
  obtain ⟨T, hT⟩ : ∃ T, a.tdiv b = T := ⟨_, rfl⟩
  obtain ⟨R, hR⟩ : ∃ R, a.tmod b = R := ⟨_, rfl⟩
  have hs := down_split a b hb
  rw [hQ, hT, hR] at hs
  rw [hQ] at q1 q2 ⊢
  rw [hT] at q3 q4 v1
  rw [hR] at q5 q6 v2
  clear hQ
  rcases hs with ⟨c1, c2⟩ | ⟨c1, c2⟩
  · obtain rfl : Q = T - 1 := by omega
    clear c2
    go_enter Try.func20, Try.ntmps20
    go_wp2
    go_ret
    exact ⟨rfl, rfl⟩
  · subst c2
    have c3 : ¬ R < 0 := by omega
    go_enter Try.func20, Try.ntmps20
    go_wp2
    go_ret
    exact ⟨rfl, rfl⟩
theorem upF_any (a b : Int) (w : World) (h1 : -9223372036854775808 ≤ a) (h2 : a ≤ 9223372036854775807) (hb : 1 ≤ b) (hb2 : b ≤ 9223372036854775807) :
    Calls Try.prog 21 #[.int .i64 a, .int .i64 b] w fun e w' => e = .returned (.int .i64 (upZ a b)) ∧ w = w' := by
  obtain ⟨q1, q2, q3, q4, q5, q6, q7, q8, q9, q10⟩ := quo_bounds a b hb h1 h2
  have u2 : upZ a b ≤ 9223372036854775807 := by
    rcases up_split a b hb with ⟨c1, c2⟩ | ⟨c1, c2⟩
    · by_cases hb1 : b = 1
      · subst hb1; omega
      · have : 0 ≤ a.tdiv b ∨ a.tdiv b < 0 := by omega
        rcases this with h | h
        · have : 2 * a.tdiv b ≤ b * a.tdiv b := Int.mul_le_mul_of_nonneg_right (by omega) h
          omega
        · omega
    · omega
  have b0 : ¬ b = 0 := by omega
  have b1 : ¬ b < 1 := by omega
  have v1 : IntKind.i64.wrap (a.tdiv b) = a.tdiv b := IntWalk.i64_in _ (by omega)
  have v2 : IntKind.i64.wrap (a.tmod b) = a.tmod b := IntWalk.i64_in _ (by omega)
  clear q7 q8 q9 q10
  obtain ⟨Q, hQ⟩ : ∃ Q, upZ a b = Q := ⟨_, rfl⟩
  obtain ⟨T, hT⟩ : ∃ T, a.tdiv b = T := ⟨_, rfl⟩
  obtain ⟨R, hR⟩ : ∃ R, a.tmod b = R := ⟨_, rfl⟩
  have hs := up_split a b hb
  rw [hQ, hT, hR] at hs
  rw [hQ] at u2 ⊢
  rw [hT] at q3 q4 v1
  rw [hR] at q5 q6 v2
  clear hQ
  rcases hs with ⟨c1, c2⟩ | ⟨c1, c2⟩
  · subst c2
    go_enter Try.func21, Try.ntmps21
    go_wp2
    go_ret
    exact ⟨rfl, rfl⟩
  · subst c2
    have c3 : ¬ 0 < R := by omega
    go_enter Try.func21, Try.ntmps21
    go_wp2
    go_ret
    exact ⟨rfl, rfl⟩
theorem clamp_any (n l h : Int) (w : World) :
    Calls Try.prog 26 #[.int .i64 n, .int .i64 l, .int .i64 h] w fun e w' => e = .returned (.int .i64 (if n < l then l else if h < n then h else n)) ∧ w = w' := by
  by_cases h1 : n < l
  · rw [if_pos h1]
    go_enter Try.func26, Try.ntmps26
    go_wp2
    go_ret
    exact ⟨rfl, rfl⟩
  · rw [if_neg h1]
    by_cases h2 : h < n
    · rw [if_pos h2]
      go_enter Try.func26, Try.ntmps26
      go_wp2
      go_ret
      exact ⟨rfl, rfl⟩
    · rw [if_neg h2]
      go_enter Try.func26, Try.ntmps26
      go_wp2
      go_ret
      exact ⟨rfl, rfl⟩
theorem rclamp_any (n l h : Int) (w : World) :
    Calls Try.prog 27 #[.int .i64 n, .int .i64 l, .int .i64 h] w fun e w' => e = .returned (.int .i64 (if n < l then l else if h < n then h else n)) ∧ w = w' := by
  by_cases h1 : n < l
  · rw [if_pos h1]
    go_enter Try.func27, Try.ntmps27
    go_wp2
    go_ret
    exact ⟨rfl, rfl⟩
  · rw [if_neg h1]
    by_cases h2 : h < n
    · rw [if_pos h2]
      go_enter Try.func27, Try.ntmps27
      go_wp2
      go_ret
      exact ⟨rfl, rfl⟩
    · rw [if_neg h2]
      go_enter Try.func27, Try.ntmps27
      go_wp2
      go_ret
      exact ⟨rfl, rfl⟩
theorem rdown_any (a b : Int) (w : World) (h1 : -9223372036854775808 ≤ a) (h2 : a ≤ 9223372036854775807) (hb : 1 ≤ b) (hb2 : b ≤ 9223372036854775807) :
    Calls Try.prog 24 #[.int .i64 a, .int .i64 b] w fun e w' => e = .returned (.int .i64 (a / b)) ∧ w = w' := by
  obtain ⟨q1, q2, q3, q4, q5, q6, q7, q8, q9, q10⟩ := quo_bounds a b hb h1 h2
  have b0 : ¬ b = 0 := by omega
  have v1 : IntKind.i64.wrap (a.tdiv b) = a.tdiv b := IntWalk.i64_in _ (by omega)
  have v2 : IntKind.i64.wrap (a.tmod b) = a.tmod b := IntWalk.i64_in _ (by omega)
  have hx : (a - a.tmod b).tdiv b = a.tdiv b := by
    have : a - a.tmod b = b * a.tdiv b := by omega
    rw [this, Int.mul_tdiv_cancel_left _ b0]
  have hy : -9223372036854775808 ≤ a - a.tmod b ∧ a - a.tmod b ≤ 9223372036854775807 := by
    rcases down_split a b hb with ⟨c1, c2⟩ | ⟨c1, c2⟩
    · have : a ≤ 0 := by
        rcases Int.lt_or_le 0 a with h | h
        · have := Int.tmod_nonneg b (show 0 ≤ a by omega); omega
        · exact h
      omega
    · have : 0 ≤ a ∨ a.tmod b = 0 := by
        rcases Int.lt_or_le a 0 with h | h
        · have := Int.tmod_nonneg b (show 0 ≤ -a by omega)
          rw [Int.neg_tmod] at this
          omega
        · omega
      rcases this with h | h
      · have := Int.tdiv_nonneg h (show 0 ≤ b by omega)
        have : 0 ≤ b * a.tdiv b := Int.mul_nonneg (by omega) this
        omega
      · omega
  obtain ⟨y0, y1⟩ := hy
  clear q7 q8 q9 q10
  obtain ⟨Q, hQ⟩ : ∃ Q, a / b = Q := ⟨_, rfl⟩
  obtain ⟨T, hT⟩ : ∃ T, a.tdiv b = T := ⟨_, rfl⟩
  obtain ⟨R, hR⟩ : ∃ R, a.tmod b = R := ⟨_, rfl⟩
  have hs := down_split a b hb
  rw [hQ, hT, hR] at hs
  rw [hQ] at q1 q2 ⊢
  rw [hT] at q3 q4 v1
  rw [hR] at q5 q6 v2 y0 y1
  rw [hT, hR] at hx
  clear hQ hT
  rcases hs with ⟨c1, c2⟩ | ⟨c1, c2⟩
  · obtain rfl : Q = T - 1 := by omega
    clear c2
    go_enter Try.func24, Try.ntmps24
    go_wp2
    go_ret
    exact ⟨rfl, rfl⟩
  · subst c2
    have c3 : ¬ R < 0 := by omega
    go_enter Try.func24, Try.ntmps24
    go_wp2
    go_ret
    exact ⟨rfl, rfl⟩
theorem rup_any (a b : Int) (w : World) (h1 : -9223372036854775808 ≤ a) (h2 : a ≤ 9223372036854775807) (hb : 1 ≤ b) (hb2 : b ≤ 9223372036854775807) :
    Calls Try.prog 25 #[.int .i64 a, .int .i64 b] w fun e w' => e = .returned (.int .i64 (upZ a b)) ∧ w = w' := by
  obtain ⟨q1, q2, q3, q4, q5, q6, q7, q8, q9, q10⟩ := quo_bounds a b hb h1 h2
  have b0 : ¬ b = 0 := by omega
  have v1 : IntKind.i64.wrap (a.tdiv b) = a.tdiv b := IntWalk.i64_in _ (by omega)
  have v2 : IntKind.i64.wrap (a.tmod b) = a.tmod b := IntWalk.i64_in _ (by omega)
  have HD := Lib.hid (rdown_any a b w h1 h2 hb hb2)
  have u2 : a.tmod b ≠ 0 → a / b < 9223372036854775807 := fun h => by
    rcases Int.lt_or_le (a / b) 9223372036854775807 with h | h
    · exact h
    · have hb1 : b = 1 := by
        rcases Int.lt_or_le 1 b with k | k
        · have : 2 * (a / b) ≤ b * (a / b) := Int.mul_le_mul_of_nonneg_right (by omega) (by omega)
          omega
        · omega
      subst hb1; omega
  clear q7 q8 q9 q10
  obtain ⟨Q, hQ⟩ : ∃ Q, upZ a b = Q := ⟨_, rfl⟩
  obtain ⟨D, hD⟩ : ∃ D, a / b = D := ⟨_, rfl⟩
  obtain ⟨T, hT⟩ : ∃ T, a.tdiv b = T := ⟨_, rfl⟩
  obtain ⟨R, hR⟩ : ∃ R, a.tmod b = R := ⟨_, rfl⟩
  have hs := up_zero a b hb
  rw [hD] at HD u2 q1 q2
  rw [hQ, hT, hR, hD] at hs
  rw [hQ]
  rw [hT] at q3 q4 v1
  rw [hR] at q5 q6 v2 u2
  clear hQ hD
  rcases hs with ⟨c1, c2⟩ | ⟨c1, c2⟩
  · subst c2 c1
    clear u2
    go_enter Try.func25, Try.ntmps25
    go_wp2
    go_ret
    exact ⟨rfl, rfl⟩
  · subst c2
    have u3 := u2 c1
    have c3 : (R == 0) = false := by simpa using c1
    clear u2
    go_enter Try.func25, Try.ntmps25
    go_wp2_with fail
    refine HD.out.mono ?_
    rintro e w' ⟨rfl, rfl⟩
    go_wp2
    go_ret
    exact ⟨rfl, rfl⟩
end Go.Proofs.Ytphdpdmkoogkkaa
