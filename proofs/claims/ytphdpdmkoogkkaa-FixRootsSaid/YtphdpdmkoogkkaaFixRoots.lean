/- Layer 1: the walk of FixRoots. -/
import Derived.Test.YtphdpdmkoogkkaaFixE
namespace Go.Proofs.Ytphdpdmkoogkkaa
open Go.RowKit
theorem nat_around' (n m : Int) (hm : 1 ≤ m) : ∃ A : Nat, around n m = (A : Int) ∧ (A : Int) < m := by
  have h0 := around_nonneg n m hm
  have h1 := around_lt n m hm
  exact ⟨(around n m).toNat, by omega, by omega⟩
set_option maxHeartbeats 1000000 in
theorem roots_walk (n m : Int) (w : World) (h1 : -9223372036854775808 ≤ n) (h2 : n ≤ 9223372036854775807) (h3 : -9223372036854775808 ≤ m) (h4 : m ≤ 9223372036854775807) :
    Calls Try.prog 7 #[.int .i64 n, .int .i64 m] w (TruePost w) := by
  obtain ⟨A, hA, hA1⟩ := nat_around' n 4611686018427387904 (by omega)
  obtain ⟨B, hB, hB1⟩ := nat_around' m 4611686018427387904 (by omega)
  obtain ⟨S, hS, hS1⟩ := nat_around' m 2147483648 (by omega)
  have CA := Lib.hid (fun w => some_any n w h1 h2)
  have CB := Lib.hid (fun w => some_any m w h3 h4)
  have CS := Lib.hid (fun w => around_any m 2147483648 w h3 h4 (by omega))
  rw [hA] at CA
  rw [hB] at CB
  rw [hS] at CS
  clear hA hB hS
  have RA := Lib.hid (fun w => root_any A w (by omega))
  have RB := Lib.hid (fun w => root_any B w (by omega))
  obtain ⟨SS, hSS⟩ : ∃ s, S * S = s := ⟨_, rfl⟩
  have hSS2 : SS ≤ 2147483648 * 2147483648 := by rw [← hSS]; exact Nat.mul_le_mul (by omega) (by omega)
  have RS := Lib.hid (fun w => (root_any SS w (by omega)).mono (R' := fun e w' => e = .returned (.int .i64 (S : Int)) ∧ w = w') (fun e w' ⟨⟨r, he, hr⟩, hw⟩ => ⟨by rw [he, hr.uniq (by rw [← hSS]; exact isRoot_sq S)], hw⟩))
  have v1 : IntKind.i64.wrap ((S : Int) * (S : Int)) = (SS : Int) := by rw [← Int.natCast_mul, hSS]; exact IntWalk.i64_in _ (by omega)
  have s0 : (0 : Int) ≤ S := by omega
  have ss0 : (0 : Int) ≤ SS := by omega
  have a0 : (0 : Int) ≤ A := by omega
  have b0 : (0 : Int) ≤ B := by omega
  clear hSS hSS2
  have HAB : Hid ((A : Int) ≤ B → A ≤ B) := Lib.hid (fun h => by omega)
  generalize (S : Int) = S' at *
  generalize (SS : Int) = SS' at *
  go_enter Try.func7, Try.ntmps7
  go_wp2_with fail
  refine (CA.out _).mono ?_
  rintro e w1 ⟨rfl, rfl⟩
  go_wp2_with fail
  refine (CB.out _).mono ?_
  rintro e w1 ⟨rfl, rfl⟩
  go_wp2_with fail
  refine (RA.out _).mono ?_
  rintro e w1 ⟨⟨r, rfl, hr⟩, rfl⟩
  go_wp2_with fail
  refine (CS.out _).mono ?_
  rintro e w1 ⟨rfl, rfl⟩
  have hrr : r < 2147483648 := sq_lt (Nat.lt_of_le_of_lt hr.1 (by omega))
  obtain ⟨X, hX⟩ : ∃ s, r * r = s := ⟨_, rfl⟩
  obtain ⟨Y, hY⟩ : ∃ s, (r + 1) * (r + 1) = s := ⟨_, rfl⟩
  have hr' := hr
  unfold IsRoot at hr'
  rw [hX, hY] at hr'
  have hY2 : Y ≤ 2147483648 * 2147483648 := by rw [← hY]; exact Nat.mul_le_mul (by omega) (by omega)
  have v2 : IntKind.i64.wrap ((r : Int) * (r : Int)) = (X : Int) := by rw [← Int.natCast_mul, hX]; exact IntWalk.i64_in _ (by omega)
  have v3 : IntKind.i64.wrap (((r : Int) + 1) * ((r : Int) + 1)) = (Y : Int) := by
    have : ((r : Int) + 1) * ((r : Int) + 1) = (Y : Int) := by rw [← hY]; push_cast; rfl
    rw [this]; exact IntWalk.i64_in _ (by omega)
  have i1 : (X : Int) ≤ A := by omega
  have i2 : (A : Int) < Y := by omega
  have i3 : (0 : Int) ≤ r := by omega
  have i4 : (r : Int) < 2147483648 := by omega
  have HR := Lib.hid hr
  have RB2 := Lib.hid (fun (h : (A : Int) ≤ B) w => (RB.out w).mono (R' := fun e w' => (∃ s : Int, e = .returned (.int .i64 s) ∧ (r : Int) ≤ s) ∧ w = w') (fun e w' ⟨⟨s, he, hs⟩, hw⟩ => ⟨⟨s, he, by have := HR.out.mono hs (HAB.out h); omega⟩, hw⟩))
  clear hr hr' hrr hX hY hY2 RB
  generalize (r : Int) = r' at *
  generalize (X : Int) = X' at *
  generalize (Y : Int) = Y' at *
  generalize (A : Int) = A' at *
  generalize (B : Int) = B' at *
  by_cases hAB : A' ≤ B'
  · go_wp2_with fail
    refine (RS.out _).mono ?_
    rintro e w1 ⟨rfl, rfl⟩
    go_wp2_with fail
    refine (RB2.out hAB _).mono ?_
    rintro e w1 ⟨⟨s, rfl, hs⟩, rfl⟩
    go_wp2_with fail
    refine (lives_any _).mono ?_
    rintro e w2 ⟨rfl, hb⟩
    have HB2 := Lib.hid hb
    clear hb
    go_wp2
    go_ret
    exact ⟨rfl, HB2.out⟩
  · have hAB' : B' < A' := by omega
    go_wp2_with fail
    refine (RS.out _).mono ?_
    rintro e w1 ⟨rfl, rfl⟩
    go_wp2_with fail
    refine (lives_any _).mono ?_
    rintro e w2 ⟨rfl, hb⟩
    have HB2 := Lib.hid hb
    clear hb
    go_wp2
    go_ret
    exact ⟨rfl, HB2.out⟩
end Go.Proofs.Ytphdpdmkoogkkaa
