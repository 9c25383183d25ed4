/- The walk of fix.Part where the product is small; of Down. -/
import Derived.Test.YtphdpdmkoogkkaaAround
import Derived.Test.YtphdpdmkoogkkaaShelf
import Derived.BigQuiet
namespace Go.Proofs.Ytphdpdmkoogkkaa
open Go.RowKit
theorem div64_low (lo y : Nat) (w : World) (hy : 1 ≤ y) (hy1 : y < 9223372036854775808) (hlo : lo < 18446744073709551616) :
    Calls Try.prog 35 #[.int .u64 0, .int .u64 lo, .int .u64 y] w fun e w' => e = .returned (.tuple #[.int .u64 ((lo / y : Nat) : Int), .int .u64 ((lo % y : Nat) : Int)]) ∧ ∃ n, w' = w.drewN n := by
  have h0 : ((y : Int) == 0) = false := by simp; omega
  have h1 : ¬ (y : Int) ≤ 0 := by omega
  have h2 : ¬ y = 0 := by omega
  have q0 : (lo : Int) / y = ((lo / y : Nat) : Int) := by simp
  have r0 : (lo : Int) % y = ((lo % y : Nat) : Int) := by simp
  have q1 : lo / y ≤ lo := Nat.div_le_self _ _
  have r1 : lo % y ≤ lo := Nat.mod_le _ _
  have q2 : (lo : Int).tdiv y = ((lo / y : Nat) : Int) := by rw [Int.tdiv_eq_ediv_of_nonneg (by omega)]; exact q0
  have r2 : (lo : Int).tmod y = ((lo % y : Nat) : Int) := by rw [Int.tmod_eq_emod_of_nonneg (by omega)]; exact r0
  obtain ⟨q, hq⟩ : ∃ q, lo / y = q := ⟨_, rfl⟩
  obtain ⟨r, hr⟩ : ∃ r, lo % y = r := ⟨_, rfl⟩
  rw [hq] at q0 q1 q2
  rw [hr] at r0 r1 r2
  rw [hq, hr]
  have q3 : IntKind.u64.wrap (q : Int) = q := by rw [IntKind.wrap_u64]; omega
  have r3 : IntKind.u64.wrap (r : Int) = r := by rw [IntKind.wrap_u64]; omega
  clear hq hr
  go_enter Try.func35, Try.ntmps35
  go_wp2_with fail
  go_quiet (fail)
  go_wp2
  go_ret2
  exact ⟨rfl, _, rfl⟩
theorem part_small (n k d : Nat) (w : World) (hn : n < 4611686018427387904) (hk : k < 4611686018427387904) (hd : 1 ≤ d) (hd1 : d < 4611686018427387904) (hp : n * k < 4611686018427387904) :
    Calls Try.prog 13 #[.int .i64 n, .int .i64 k, .int .i64 d] w fun e w' => e = .returned (.int .i64 ((n * k / d : Nat) : Int)) ∧ ∃ n, w' = w.drewN n := by
  have hm := Try.bits_Mul64 n k (by omega) (by omega) w
  have e1 : n * k / 18446744073709551616 = 0 := by omega
  have e2 : n * k % 18446744073709551616 = n * k := by omega
  rw [e1, e2] at hm
  have hq : n * k / d ≤ n * k := Nat.div_le_self _ _
  obtain ⟨X, hX⟩ : ∃ X, n * k = X := ⟨_, rfl⟩
  rw [hX] at hm hp hq ⊢
  obtain ⟨Q, hQ⟩ : ∃ Q, X / d = Q := ⟨_, rfl⟩
  have HD := Lib.hid (fun w => div64_low X d w hd (by omega) (by omega))
  rw [hQ] at hq HD ⊢
  have HM := Lib.hid hm
  have c1 : ¬ (d : Int) < 1 := by omega
  have c2 : (Q : Int) ≤ 4611686018427387903 := by omega
  have c3 : ¬ (n : Int) < 0 := by omega
  have c4 : ¬ (k : Int) < 0 := by omega
  have c5 : (0 : Int) < d := by omega
  clear hm e1 e2 hX hQ
  go_enter Try.func13, Try.ntmps13
  go_wp2_with fail
  refine HM.out.mono ?_
  rintro e w1 ⟨rfl, rfl⟩
  go_wp2_with fail
  refine (HD.out _).mono ?_
  rintro e w2 ⟨rfl, m, rfl⟩
  go_wp2
  go_ret
  exact ⟨ret_int (by omega), _, rfl⟩
end Go.Proofs.Ytphdpdmkoogkkaa
