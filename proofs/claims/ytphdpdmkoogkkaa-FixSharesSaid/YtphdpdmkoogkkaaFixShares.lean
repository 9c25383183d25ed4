/- Layer 1: the walk of FixShares. -/
import Derived.Test.YtphdpdmkoogkkaaFixD
import Derived.Outline
namespace Go.Proofs.Ytphdpdmkoogkkaa
open Go.RowKit
theorem partS {n k d : Nat} {Q : Nat} (w : World) (hn : n < 9223372036854775808) (hk : k < 9223372036854775808) (hd : 1 ≤ d) (hd1 : d < 9223372036854775808) (hQ : partN n k d = Q) :
    Calls Try.prog 13 #[.int .i64 n, .int .i64 k, .int .i64 d] w fun e w' => e = .returned (.int .i64 (Q : Int)) ∧ Below w.heap.size w w' :=
  (part_any n k d w hn hk hd hd1).mono fun e w' h => by rw [hQ] at h; exact h.below
theorem nat_around (n m : Int) (hm : 1 ≤ m) : ∃ A : Nat, around n m = (A : Int) ∧ (A : Int) < m := by
  have h0 := around_nonneg n m hm
  have h1 := around_lt n m hm
  exact ⟨(around n m).toNat, by omega, by omega⟩
set_option maxRecDepth 100000 in
set_option maxHeartbeats 1000000 in
theorem shares_walk (n m num den : Int) (w : World) (h1 : -9223372036854775808 ≤ n) (h2 : n ≤ 9223372036854775807) (h3 : -9223372036854775808 ≤ m) (h4 : m ≤ 9223372036854775807) (h5 : -9223372036854775808 ≤ num) (h6 : num ≤ 9223372036854775807) (h7 : -9223372036854775808 ≤ den) (h8 : den ≤ 9223372036854775807) :
    Calls Try.prog 3 #[.int .i64 n, .int .i64 m, .int .i64 num, .int .i64 den] w (TruePost w) := by
  obtain ⟨A, hA, hA1⟩ := nat_around n 1073741824 (by omega)
  obtain ⟨B, hB, hB1⟩ := nat_around m 1073741824 (by omega)
  obtain ⟨K, hK, hK1⟩ := nat_around num 1073741824 (by omega)
  obtain ⟨D0, hD, hD1⟩ := nat_around den 1073741824 (by omega)
  obtain ⟨S, hS, hS1⟩ := nat_around n 4611686018427387904 (by omega)
  have CA := Lib.hid (fun w => around_any n 1073741824 w h1 h2 (by omega))
  have CB := Lib.hid (fun w => around_any m 1073741824 w h3 h4 (by omega))
  have CK := Lib.hid (fun w => around_any num 1073741824 w h5 h6 (by omega))
  have CD := Lib.hid (fun w => around_any den 1073741824 w h7 h8 (by omega))
  have CS := Lib.hid (fun w => some_any n w h1 h2)
  rw [hA] at CA
  rw [hB] at CB
  rw [hK] at CK
  rw [hD] at CD
  rw [hS] at CS
  obtain ⟨D, hDD⟩ : ∃ D, 1 + D0 = D := ⟨_, rfl⟩
  have eD : (1 : Int) + (D0 : Int) = (D : Int) := by omega
  have hD2 : (1 : Int) ≤ D := by omega
  have hD3 : (D : Int) ≤ 1073741824 := by omega
  have hAK : A * K ≤ 1073741824 * 1073741824 := Nat.mul_le_mul (by omega) (by omega)
  have hBK : B * K ≤ 1073741824 * 1073741824 := Nat.mul_le_mul (by omega) (by omega)
  have hABK : (A + B) * K ≤ 2147483648 * 1073741824 := Nat.mul_le_mul (by omega) (by omega)
  have HED := Lib.hid eD
  clear hA hB hK hD hS hDD
  obtain ⟨s1, s2⟩ := part_plain (a := A) (k := K) (d := D) (by omega)
  obtain ⟨s3, s4⟩ := part_sum (a := A) (b := B) (k := K) (d := D) (by omega)
  have hx : partN A K D = A * K / D := partN_small (by omega)
  have hy : partN B K D = B * K / D := partN_small (by omega)
  have hz : partN (A + B) K D = (A + B) * K / D := partN_small (by omega)
  have hx' : partN K A D = A * K / D := by rw [partN_small (by rw [Nat.mul_comm]; omega), Nat.mul_comm]
  have hq1 : A * K / D ≤ A * K := Nat.div_le_self _ _
  have hq2 : B * K / D ≤ B * K := Nat.div_le_self _ _
  have hq3 : (A + B) * K / D ≤ (A + B) * K := Nat.div_le_self _ _
  obtain ⟨x, hxe⟩ : ∃ x, A * K / D = x := ⟨_, rfl⟩
  obtain ⟨y, hye⟩ : ∃ x, B * K / D = x := ⟨_, rfl⟩
  obtain ⟨z, hze⟩ : ∃ x, (A + B) * K / D = x := ⟨_, rfl⟩
  rw [hxe] at s1 s2 s3 s4 hx hx' hq1
  rw [hye] at s3 s4 hy hq2
  rw [hze] at s3 s4 hz hq3
  have P1 := Lib.hid (fun w => partS (n := A) (k := K) (d := D) w (by omega) (by omega) (by omega) (by omega) hx)
  have P2 := Lib.hid (fun w => partS (n := B) (k := K) (d := D) w (by omega) (by omega) (by omega) (by omega) hy)
  have P3 := Lib.hid (fun w => partS (n := A + B) (k := K) (d := D) w (by omega) (by omega) (by omega) (by omega) hz)
  have P4 := Lib.hid (fun w => partS (n := A) (k := D) (d := D) w (by omega) (by omega) (by omega) (by omega) (partN_self (by omega) (by omega)))
  have P5 := Lib.hid (fun w => partS (n := K) (k := A) (d := D) w (by omega) (by omega) (by omega) (by omega) hx')
  have P6 := Lib.hid (fun w => partS (n := S) (k := D) (d := D) w (by omega) (by omega) (by omega) (by omega) (partN_self (by omega) (by omega)))
  rw [show ((A + B : Nat) : Int) = (A : Int) + B from Int.natCast_add A B] at P3
  obtain ⟨AK, hAKe⟩ : ∃ p, A * K = p := ⟨_, rfl⟩
  obtain ⟨XD, hXD⟩ : ∃ p, x * D = p := ⟨_, rfl⟩
  obtain ⟨YD, hYD⟩ : ∃ p, (x + 1) * D = p := ⟨_, rfl⟩
  have hYX : YD = XD + D := by rw [← hYD, ← hXD, Nat.add_mul, Nat.one_mul]
  rw [hAKe] at s1 s2 hAK hq1
  rw [hXD] at s1
  rw [hYD] at s2
  have v1 : IntKind.i64.wrap ((x : Int) * (D : Int)) = (XD : Int) := by rw [← Int.natCast_mul, hXD]; exact IntWalk.i64_in _ (by omega)
  have v2 : IntKind.i64.wrap ((A : Int) * (K : Int)) = (AK : Int) := by rw [← Int.natCast_mul, hAKe]; exact IntWalk.i64_in _ (by omega)
  have v3 : IntKind.i64.wrap (((x : Int) + 1) * (D : Int)) = (YD : Int) := by
    have : ((x : Int) + 1) * D = (YD : Int) := by rw [← hYD]; push_cast; rfl
    rw [this]; exact IntWalk.i64_in _ (by omega)
  have i1 : (XD : Int) ≤ AK := by omega
  have i2 : (AK : Int) < YD := by omega
  have i3 : (x : Int) + y ≤ z := by omega
  have i4 : (z : Int) ≤ x + y + 1 := by omega
  have i5 : (z : Int) ≤ 4611686018427387904 := by omega
  have i6 : (x : Int) ≤ 1152921504606846976 := by omega
  have i7 : (y : Int) ≤ 1152921504606846976 := by omega
  have i8 : (x : Int) ≤ z := by omega
  clear hAK hBK hABK hx hy hz hx' hq1 hq2 hq3 hxe hye hze hAKe hXD hYD hYX s1 s2 s3 s4
  clear HED
  have jA : (0 : Int) ≤ (A : Int) := by omega
  have jB : (0 : Int) ≤ (B : Int) := by omega
  have jK : (0 : Int) ≤ (K : Int) := by omega
  have jD0 : (0 : Int) ≤ (D0 : Int) := by omega
  have jS : (0 : Int) ≤ (S : Int) := by omega
  have jx : (0 : Int) ≤ (x : Int) := by omega
  have jy : (0 : Int) ≤ (y : Int) := by omega
  have jz : (0 : Int) ≤ (z : Int) := by omega
  have jAK : (0 : Int) ≤ (AK : Int) := by omega
  have jXD : (0 : Int) ≤ (XD : Int) := by omega
  have jYD : (0 : Int) ≤ (YD : Int) := by omega
  generalize (A : Int) = a' at *
  generalize (B : Int) = b' at *
  generalize (K : Int) = k' at *
  generalize (D0 : Int) = d0' at *
  generalize (D : Int) = d' at *
  generalize (S : Int) = s' at *
  generalize (x : Int) = x' at *
  generalize (y : Int) = y' at *
  generalize (z : Int) = z' at *
  generalize (AK : Int) = ak' at *
  generalize (XD : Int) = xd' at *
  generalize (YD : Int) = yd' at *
  go_enter Try.func3, Try.ntmps3
  go_wp2_with fail
  with_reducible refine (CA.out _).mono ?_
  rintro e w1 ⟨rfl, rfl⟩
  go_wp2_with fail
  with_reducible refine (CB.out _).mono ?_
  rintro e w1 ⟨rfl, rfl⟩
  go_wp2_with fail
  with_reducible refine (CK.out _).mono ?_
  rintro e w1 ⟨rfl, rfl⟩
  go_wp2_with fail
  with_reducible refine (CD.out _).mono ?_
  rintro e w1 ⟨rfl, rfl⟩
  go_wp2_with fail
  clear eD
  with_reducible refine (P1.out _).mono ?_
  rintro e w1 ⟨rfl, hb⟩
  have HB1 := Lib.hid hb
  clear hb
  go_wp2_with fail
  with_reducible refine (P2.out _).mono ?_
  rintro e w2 ⟨rfl, hb⟩
  have HB2 := Lib.hid (HB1.out.trans (hb.mono HB1.out.size))
  clear hb HB1
  go_wp2_with fail
  with_reducible refine (P3.out _).mono ?_
  rintro e w3 ⟨rfl, hb⟩
  have HB3 := Lib.hid (HB2.out.trans (hb.mono HB2.out.size))
  clear hb HB2
  go_wp2_with fail
  with_reducible refine (P4.out _).mono ?_
  rintro e w4 ⟨rfl, hb⟩
  have HB4 := Lib.hid (HB3.out.trans (hb.mono HB3.out.size))
  clear hb HB3
  go_wp2_with fail
  with_reducible refine (P1.out _).mono ?_
  rintro e w5 ⟨rfl, hb⟩
  have HB5 := Lib.hid (HB4.out.trans (hb.mono HB4.out.size))
  clear hb HB4
  go_wp2_with fail
  with_reducible refine (P5.out _).mono ?_
  rintro e w6 ⟨rfl, hb⟩
  have HB6 := Lib.hid (HB5.out.trans (hb.mono HB5.out.size))
  clear hb HB5
  go_wp2_with fail
  with_reducible refine (CS.out _).mono ?_
  rintro e w7 ⟨rfl, rfl⟩
  go_wp2_with fail
  with_reducible refine (P6.out _).mono ?_
  rintro e w7 ⟨rfl, hb⟩
  have HB7 := Lib.hid (HB6.out.trans (hb.mono HB6.out.size))
  clear hb HB6
  go_wp2_with fail
  with_reducible refine (CS.out _).mono ?_
  rintro e w8 ⟨rfl, rfl⟩
  go_wp2_with fail
  refine (lives_any _).mono ?_
  rintro e w9 ⟨rfl, hb⟩
  have HB9 := Lib.hid (HB7.out.trans (hb.mono HB7.out.size))
  clear hb HB7
  go_wp2
  go_ret
  exact ⟨rfl, HB9.out⟩
end Go.Proofs.Ytphdpdmkoogkkaa
