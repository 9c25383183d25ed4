/- Layer 1: the walk of the reference's Cmp (as Euclid). -/
import Derived.Test.YtphdpdmkoogkkaaFixH
namespace Go.Proofs.Ytphdpdmkoogkkaa
open Go.RowKit
theorem wrap_rest {a X p : Int} (h1 : -9223372036854775808 ≤ a) (h2 : a ≤ 9223372036854775807) (h : a - X = p) (p0 : 0 ≤ p) (p1 : p ≤ 9223372036854775807) : wrap64 (a - wrap64 X) = p := by
  unfold wrap64; omega
theorem cmpZ_mul_comm (p d q b : Int) : cmpZ (p * d) (q * b) = cmpZ (d * p) (b * q) := by rw [Int.mul_comm p, Int.mul_comm q]
set_option maxHeartbeats 2000000 in
theorem rcmp_any (k : Nat) : ∀ (a b c d : Int) (w : World), -9223372036854775808 ≤ a → a ≤ 9223372036854775807 → 1 ≤ b → b ≤ 9223372036854775807 → -9223372036854775808 ≤ c → c ≤ 9223372036854775807 → 1 ≤ d → d ≤ 9223372036854775807 → b + d ≤ (k : Int) →
    Calls Try.prog 33 #[.int .i64 a, .int .i64 b, .int .i64 c, .int .i64 d] w fun e w' => e = .returned (.int .i64 (cmpZ (a * d) (c * b))) ∧ w = w' := by
  induction k with
  | zero => intro a b c d w h1 h2 hb hb2 h3 h4 hd hd2 hk; omega
  | succ k ih =>
    intro a b c d w h1 h2 hb hb2 h3 h4 hd hd2 hk
    have IH := Lib.hid ih
    clear ih
    have D1 := Lib.hid (fun w => rdown_any a b w h1 h2 hb hb2)
    have D2 := Lib.hid (fun w => rdown_any c d w h3 h4 hd hd2)
    obtain ⟨-, -, -, -, -, -, -, e1, p0, p1⟩ := quo_bounds a b hb h1 h2
    obtain ⟨-, -, -, -, -, -, -, e2, q0, q1⟩ := quo_bounds c d hd h3 h4
    rcases (show a / b < c / d ∨ c / d < a / b ∨ a / b = c / d by omega) with h | h | h
    · rw [cmp_whole_lt hb hd h]
      obtain ⟨x, hx⟩ : ∃ x, a / b = x := ⟨_, rfl⟩
      obtain ⟨y, hy⟩ : ∃ x, c / d = x := ⟨_, rfl⟩
      rw [hx] at D1 h
      rw [hy] at D2 h
      clear hx hy e1 e2 p0 p1 q0 q1 hk
      go_enter Try.func33, Try.ntmps33
      go_wp2_with fail
      refine (D1.out _).mono ?_
      rintro e w1 ⟨rfl, rfl⟩
      go_wp2_with fail
      refine (D2.out _).mono ?_
      rintro e w1 ⟨rfl, rfl⟩
      go_wp2_with fail
      go_ret
      exact ⟨rfl, rfl⟩
    · rw [cmp_whole_gt hb hd h]
      obtain ⟨x, hx⟩ : ∃ x, a / b = x := ⟨_, rfl⟩
      obtain ⟨y, hy⟩ : ∃ x, c / d = x := ⟨_, rfl⟩
      rw [hx] at D1 h
      rw [hy] at D2 h
      clear hx hy e1 e2 p0 p1 q0 q1 hk
      have h' : ¬ x < y := by omega
      go_enter Try.func33, Try.ntmps33
      go_wp2_with fail
      refine (D1.out _).mono ?_
      rintro e w1 ⟨rfl, rfl⟩
      go_wp2_with fail
      refine (D2.out _).mono ?_
      rintro e w1 ⟨rfl, rfl⟩
      go_wp2_with fail
      go_ret
      exact ⟨rfl, rfl⟩
    · rw [cmp_whole_eq h]
      rw [← h] at D2 e2
      obtain ⟨x, hx⟩ : ∃ x, a / b = x := ⟨_, rfl⟩
      rw [hx] at D1 D2 e1 e2
      obtain ⟨p, hp⟩ : ∃ p, a % b = p := ⟨_, rfl⟩
      obtain ⟨q, hq⟩ : ∃ p, c % d = p := ⟨_, rfl⟩
      rw [hp] at e1 p0 p1 ⊢
      rw [hq] at e2 q0 q1 ⊢
      have m1 : wrap64 (a - wrap64 (x * b)) = p := wrap_rest h1 h2 (by rw [Int.mul_comm]; omega) p0 (by omega)
      have m2 : wrap64 (c - wrap64 (x * d)) = q := wrap_rest h3 h4 (by rw [Int.mul_comm]; omega) q0 (by omega)
      have hpq : p = 0 ∧ q = 0 ∨ p = 0 ∧ 0 < q ∨ 0 < p ∧ q = 0 ∨ 0 < p ∧ 0 < q := by omega
      obtain ⟨X1, hX1⟩ : ∃ z, wrap64 (x * b) = z := ⟨_, rfl⟩
      obtain ⟨X2, hX2⟩ : ∃ z, wrap64 (x * d) = z := ⟨_, rfl⟩
      rw [hX1] at m1
      rw [hX2] at m2
      have n1 : IntKind.i64.wrap (x * b) = X1 := (IntWalk.i64_left _).trans hX1
      have n2 : IntKind.i64.wrap (x * d) = X2 := (IntWalk.i64_left _).trans hX2
      have n3 : IntKind.i64.wrap (a - X1) = p := (IntWalk.i64_left _).trans m1
      have n4 : IntKind.i64.wrap (c - X2) = q := (IntWalk.i64_left _).trans m2
      have HX := Lib.hid (And.intro (And.intro hX1 hX2) (And.intro m1 m2))
      clear hx hp hq h e1 e2
      rcases hpq with ⟨rfl, rfl⟩ | ⟨rfl, hq0⟩ | ⟨hp0, rfl⟩ | ⟨hp0, hq0⟩
      · rw [Int.zero_mul, Int.zero_mul, cmpZ_self]
        go_enter Try.func33, Try.ntmps33
        go_wp2_with fail
        refine (D1.out _).mono ?_
        rintro e w1 ⟨rfl, rfl⟩
        go_wp2_with fail
        refine (D2.out _).mono ?_
        rintro e w1 ⟨rfl, rfl⟩
        go_wp2_with fail
        go_ret
        exact ⟨rfl, rfl⟩
      · have hz : cmpZ (0 * d) (q * b) = -1 := cmpZ_of_lt (by rw [Int.zero_mul]; exact Int.mul_pos hq0 (by omega))
        rw [hz]
        have hq' : (q == 0) = false := by simp; omega
        clear hz
        go_enter Try.func33, Try.ntmps33
        go_wp2_with fail
        refine (D1.out _).mono ?_
        rintro e w1 ⟨rfl, rfl⟩
        go_wp2_with fail
        refine (D2.out _).mono ?_
        rintro e w1 ⟨rfl, rfl⟩
        go_wp2_with fail
        go_ret
        exact ⟨rfl, rfl⟩
      · have hz : cmpZ (p * d) (0 * b) = 1 := cmpZ_of_gt (by rw [Int.zero_mul]; exact Int.mul_pos hp0 (by omega))
        rw [hz]
        have hp' : (p == 0) = false := by simp; omega
        clear hz
        go_enter Try.func33, Try.ntmps33
        go_wp2_with fail
        refine (D1.out _).mono ?_
        rintro e w1 ⟨rfl, rfl⟩
        go_wp2_with fail
        refine (D2.out _).mono ?_
        rintro e w1 ⟨rfl, rfl⟩
        go_wp2_with fail
        go_ret
        exact ⟨rfl, rfl⟩
      · have hp' : (p == 0) = false := by simp; omega
        have hq' : (q == 0) = false := by simp; omega
        rw [cmpZ_mul_comm]
        have CR := Lib.hid (fun w => IH.out d q b p w (by omega) (by omega) (by omega) (by omega) (by omega) (by omega) (by omega) (by omega) (by omega))
        obtain ⟨V, hV⟩ : ∃ z, cmpZ (d * p) (b * q) = z := ⟨_, rfl⟩
        rw [hV] at CR ⊢
        clear hV IH hk
        go_enter Try.func33, Try.ntmps33
        go_wp2_with fail
        refine (D1.out _).mono ?_
        rintro e w1 ⟨rfl, rfl⟩
        go_wp2_with fail
        refine (D2.out _).mono ?_
        rintro e w1 ⟨rfl, rfl⟩
        go_wp2_with fail
        refine (CR.out _).mono ?_
        rintro e w1 ⟨rfl, rfl⟩
        go_wp2
        go_ret
        exact ⟨rfl, rfl⟩
end Go.Proofs.Ytphdpdmkoogkkaa
