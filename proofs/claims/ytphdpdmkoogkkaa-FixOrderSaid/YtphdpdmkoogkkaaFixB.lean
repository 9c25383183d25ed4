/- Layer 1: the walk of Part, at any numbers. -/
import Derived.Test.YtphdpdmkoogkkaaDiv64
import Derived.Test.YtphdpdmkoogkkaaPartPlain
namespace Go.Proofs.Ytphdpdmkoogkkaa
open Go.RowKit
def PartPost (Q : Nat) (w : World) (e : Ending) (w' : World) : Prop := e = .returned (.int .i64 (Q : Int)) ∧ ∃ n, w' = w.drewN n
theorem part_any (n k d : Nat) (w : World) (hn : n < 9223372036854775808) (hk : k < 9223372036854775808) (hd : 1 ≤ d) (hd1 : d < 9223372036854775808) :
    Calls Try.prog 13 #[.int .i64 n, .int .i64 k, .int .i64 d] w (PartPost (partN n k d) w) := by
  have hm := Try.bits_Mul64 n k (by omega) (by omega) w
  obtain ⟨X, hX⟩ : ∃ X, n * k = X := ⟨_, rfl⟩
  unfold partN
  rw [hX] at hm ⊢
  obtain ⟨hi, hhi⟩ : ∃ h, X / 18446744073709551616 = h := ⟨_, rfl⟩
  obtain ⟨lo, hlo⟩ : ∃ h, X % 18446744073709551616 = h := ⟨_, rfl⟩
  rw [hhi, hlo] at hm
  have hXe : hi * 18446744073709551616 + lo = X := by rw [← hhi, ← hlo]; exact Nat.div_add_mod' X 18446744073709551616
  have hlo1 : lo < 18446744073709551616 := by rw [← hlo]; exact Nat.mod_lt _ (by omega)
  have hhi1 : hi < 18446744073709551616 := by
    have : n * k < 9223372036854775808 * 9223372036854775808 := Nat.mul_lt_mul'' hn hk
    omega
  have HM := Lib.hid hm
  have c1 : ¬ (d : Int) < 1 := by omega
  have c3 : ¬ (n : Int) < 0 := by omega
  have c4 : ¬ (k : Int) < 0 := by omega
  have c5 : (0 : Int) < d := by omega
  clear hm hX hhi hlo
  by_cases h1 : d ≤ hi
  · have e1 : min (X / d) 4611686018427387903 = 4611686018427387903 := by
      have : 18446744073709551616 ≤ X / d := (Nat.le_div_iff_mul_le (by omega)).2 (by
        have : d * 18446744073709551616 ≤ hi * 18446744073709551616 := Nat.mul_le_mul_right _ h1
        rw [Nat.mul_comm]; omega)
      omega
    rw [e1]
    have h1' : (d : Int) ≤ hi := by omega
    clear hXe e1
    go_enter Try.func13, Try.ntmps13
    go_wp2_with fail
    refine HM.out.mono ?_
    rintro e w1 ⟨rfl, rfl⟩
    go_wp2
    go_ret
    exact ⟨rfl, 0, rfl⟩
  · have h1' : ¬ (d : Int) ≤ hi := by omega
    have hq : X / d < 18446744073709551616 := (Nat.div_lt_iff_lt_mul (by omega)).2 (by
      have : (hi + 1) * 18446744073709551616 ≤ d * 18446744073709551616 := Nat.mul_le_mul_right _ (by omega)
      rw [Nat.mul_comm]; omega)
    have HD : Hid (∀ w, Calls Try.prog 35 #[.int .u64 hi, .int .u64 lo, .int .u64 d] w (DivPost (X / d) w)) := Lib.hid (by
      intro w
      by_cases h0 : hi = 0
      · subst h0
        obtain rfl : lo = X := by omega
        refine (div64_low lo d w hd (by omega) hlo1).mono ?_
        rintro e w' ⟨rfl, n, rfl⟩
        exact ⟨⟨_, rfl⟩, n, rfl⟩
      · have := div64_high hi lo d w (by omega) (by omega) (by omega) hlo1
        rwa [hXe] at this)
    obtain ⟨Q, hQ⟩ : ∃ Q, X / d = Q := ⟨_, rfl⟩
    rw [hQ] at hq HD ⊢
    clear hXe hQ
    by_cases hQ2 : Q ≤ 4611686018427387903
    · rw [Nat.min_eq_left hQ2]
      have c6 : (Q : Int) ≤ 4611686018427387903 := by omega
      go_enter Try.func13, Try.ntmps13
      go_wp2_with fail
      refine HM.out.mono ?_
      rintro e w1 ⟨rfl, rfl⟩
      go_wp2_with fail
      refine (HD.out _).mono ?_
      rintro e w2 ⟨⟨r, rfl⟩, m, rfl⟩
      go_wp2
      go_ret
      exact ⟨ret_int (by omega), _, rfl⟩
    · rw [Nat.min_eq_right (by omega)]
      have c6 : (4611686018427387903 : Int) ≤ Q := by omega
      have c7 : ¬ (Q : Int) ≤ 4611686018427387903 := by omega
      go_enter Try.func13, Try.ntmps13
      go_wp2_with fail
      refine HM.out.mono ?_
      rintro e w1 ⟨rfl, rfl⟩
      go_wp2_with fail
      refine (HD.out _).mono ?_
      rintro e w2 ⟨⟨r, rfl⟩, m, rfl⟩
      go_wp2
      go_ret
      exact ⟨ret_int (by omega), _, rfl⟩
end Go.Proofs.Ytphdpdmkoogkkaa
