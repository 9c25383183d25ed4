/- Layer 1: the walk of FixRounds. -/
import Derived.Test.YtphdpdmkoogkkaaFixD
namespace Go.Proofs.Ytphdpdmkoogkkaa
open Go.RowKit
theorem up_neg (x y : Int) (hy : 1 ≤ y) : upZ (-x) y = -(x / y) := by
  unfold upZ
  have e1 := Int.emod_add_mul_ediv x y
  have r0 := Int.emod_nonneg x (show y ≠ 0 by omega)
  have r1 := Int.emod_lt_of_pos x (show 0 < y by omega)
  by_cases h : x % y = 0
  · have e2 : -x = y * (-(x / y)) := by rw [Int.mul_neg]; omega
    rw [e2, Int.mul_ediv_cancel_left _ (by omega), Int.mul_emod_right]
    simp
  · have e2 : -x = (y - x % y) + y * (-(x / y) - 1) := by rw [Int.mul_sub, Int.mul_neg]; omega
    have q : -x / y = -(x / y) - 1 := by rw [e2, Int.add_mul_ediv_left _ _ (by omega), Int.ediv_eq_zero_of_lt (by omega) (by omega)]; omega
    have m : -x % y = y - x % y := by rw [e2, Int.add_mul_emod_self_left, Int.emod_eq_of_lt (by omega) (by omega)]
    rw [q, m, if_neg (by omega)]
    omega
theorem rounds_plain (x y : Int) (hy : 1 ≤ y) : x / y * y ≤ x ∧ x ≤ upZ x y * y ∧ x < (x / y + 1) * y ∧ (upZ x y - 1) * y < x ∧ (upZ x y = x / y ↔ x / y * y = x) ∧ upZ x y - x / y ≤ 1 ∧ 0 ≤ upZ x y - x / y ∧ (upZ x y * y = x / y * y ∨ upZ x y * y = x / y * y + y) := by
  unfold upZ
  have e1 := Int.emod_add_mul_ediv x y
  have r0 := Int.emod_nonneg x (show y ≠ 0 by omega)
  have r1 := Int.emod_lt_of_pos x (show 0 < y by omega)
  have e2 : x / y * y = y * (x / y) := Int.mul_comm _ _
  by_cases h : x % y = 0
  · rw [if_pos h, Int.add_zero, Int.add_mul, Int.sub_mul, Int.one_mul]
    refine ⟨by omega, by omega, by omega, by omega, ⟨fun _ => by omega, fun _ => rfl⟩, by omega, by omega, .inl rfl⟩
  · rw [if_neg h, Int.sub_mul, Int.add_mul, Int.one_mul]
    refine ⟨by omega, by omega, by omega, by omega, ⟨fun _ => by omega, fun _ => by omega⟩, by omega, by omega, .inr rfl⟩
set_option maxHeartbeats 1000000 in
theorem rounds_walk (a b : Int) (w : World) (h1 : -9223372036854775808 ≤ a) (h2 : a ≤ 9223372036854775807) (h3 : -9223372036854775808 ≤ b) (h4 : b ≤ 9223372036854775807) :
    Calls Try.prog 6 #[.int .i64 a, .int .i64 b] w (TruePost w) := by
  have u0 := around_nonneg a 2199023255552 (by omega)
  have u1 := around_lt a 2199023255552 (by omega)
  have u2 := around_nonneg b 1048576 (by omega)
  have u3 := around_lt b 1048576 (by omega)
  have CA := Lib.hid (fun w => around_any a 2199023255552 w h1 h2 (by omega))
  have CB := Lib.hid (fun w => around_any b 1048576 w h3 h4 (by omega))
  obtain ⟨x0, hx0⟩ : ∃ k, around a 2199023255552 = k := ⟨_, rfl⟩
  obtain ⟨y0, hy0⟩ : ∃ k, around b 1048576 = k := ⟨_, rfl⟩
  rw [hx0] at u0 u1 CA
  rw [hy0] at u2 u3 CB
  have x9 : -1099511627776 ≤ x0 - 1099511627776 := by omega
  have x1 : x0 - 1099511627776 ≤ 1099511627776 := by omega
  have y1 : 1 ≤ 1 + y0 := by omega
  have y2 : 1 + y0 ≤ 1048576 := by omega
  clear hx0 hy0
  have CD := Lib.hid (fun w => down_any (x0 - 1099511627776) (1 + y0) w (by omega) (by omega) y1 (by omega))
  have CU := Lib.hid (fun w => upF_any (x0 - 1099511627776) (1 + y0) w (by omega) (by omega) y1 (by omega))
  have CN := Lib.hid (fun w => upF_any (-(x0 - 1099511627776)) (1 + y0) w (by omega) (by omega) y1 (by omega))
  rw [up_neg _ _ y1] at CN
  obtain ⟨p1, p2, p3, p4, p5, p6, p7, p8⟩ := rounds_plain (x0 - 1099511627776) (1 + y0) y1
  obtain ⟨x, hx⟩ : ∃ x, x0 - 1099511627776 = x := ⟨_, rfl⟩
  obtain ⟨y, hy⟩ : ∃ x, 1 + y0 = x := ⟨_, rfl⟩
  rw [hx] at x9 x1 CD CU CN p1 p2 p3 p4 p5 p6 p7 p8
  rw [hy] at y1 y2 CD CU CN p1 p2 p3 p4 p5 p6 p7 p8
  have d0 : -1099511627776 ≤ x / y := by
    refine (Int.le_ediv_iff_mul_le (by omega)).2 ?_
    have : -1099511627776 * y ≤ -1099511627776 * 1 := Int.mul_le_mul_of_nonpos_left (by omega) y1
    omega
  have d1 : x / y ≤ 1099511627776 := by
    have : x < (1099511627776 + 1) * y := by
      have : (1099511627776 + 1) * 1 ≤ (1099511627776 + 1) * y := Int.mul_le_mul_of_nonneg_left y1 (by omega)
      omega
    have := Int.ediv_lt_of_lt_mul (by omega) this
    omega
  rw [Int.add_mul, Int.one_mul] at p3
  rw [Int.sub_mul, Int.one_mul] at p4
  obtain ⟨d, hd⟩ : ∃ d, x / y = d := ⟨_, rfl⟩
  obtain ⟨u, hu⟩ : ∃ d, upZ x y = d := ⟨_, rfl⟩
  rw [hd] at CD CN p1 p3 p5 p6 p7 p8 d0 d1
  rw [hu] at CU p2 p4 p5 p6 p7 p8
  clear hd hu
  obtain ⟨DY, hDY⟩ : ∃ p, d * y = p := ⟨_, rfl⟩
  obtain ⟨UY, hUY⟩ : ∃ p, u * y = p := ⟨_, rfl⟩
  rw [hDY] at p1 p3 p5 p8
  rw [hUY] at p2 p4 p8
  have v1 : IntKind.i64.wrap (d * y) = DY := by rw [hDY]; exact IntWalk.i64_in _ (by omega)
  have v2 : IntKind.i64.wrap (u * y) = UY := by rw [hUY]; exact IntWalk.i64_in _ (by omega)
  have v3 : IntKind.i64.wrap ((d + 1) * y) = DY + y := by rw [Int.add_mul, Int.one_mul, hDY]; exact IntWalk.i64_in _ (by omega)
  have v4 : IntKind.i64.wrap ((u - 1) * y) = UY - y := by rw [Int.sub_mul, Int.one_mul, hUY]; exact IntWalk.i64_in _ (by omega)
  clear hDY hUY p8
  have hcase : (u = d ∧ DY = x) ∨ (u ≠ d ∧ DY ≠ x) := by
    by_cases h : u = d
    · exact .inl ⟨h, p5.1 h⟩
    · exact .inr ⟨h, fun k => h (p5.2 k)⟩
  clear p5
  have HC := Lib.hid hcase
  clear hcase
  go_enter Try.func6, Try.ntmps6
  go_wp2_with fail
  refine (CA.out _).mono ?_
  rintro e w1 ⟨rfl, rfl⟩
  go_wp2_with fail
  clear hx
  refine (CB.out _).mono ?_
  rintro e w1 ⟨rfl, rfl⟩
  go_wp2_with fail
  clear hy
  refine (CD.out _).mono ?_
  rintro e w1 ⟨rfl, rfl⟩
  go_wp2_with fail
  refine (CU.out _).mono ?_
  rintro e w1 ⟨rfl, rfl⟩
  rcases HC.out with ⟨c1, c2⟩ | ⟨c1, c2⟩
  · subst c1 c2
    go_wp2_with fail
    refine (CN.out _).mono ?_
    rintro e w1 ⟨rfl, rfl⟩
    go_wp2_with fail
    refine (lives_any _).mono ?_
    rintro e w2 ⟨rfl, hb⟩
    have HB := Lib.hid hb
    clear hb
    go_wp2
    go_ret
    exact ⟨rfl, HB.out⟩
  · have c3 : (u == d) = false := by simpa using c1
    have c4 : (DY == x) = false := by simpa using c2
    clear c1 c2
    go_wp2_with fail
    refine (CN.out _).mono ?_
    rintro e w1 ⟨rfl, rfl⟩
    go_wp2_with fail
    refine (lives_any _).mono ?_
    rintro e w2 ⟨rfl, hb⟩
    have HB := Lib.hid hb
    clear hb
    go_wp2
    go_ret
    exact ⟨rfl, HB.out⟩
end Go.Proofs.Ytphdpdmkoogkkaa
