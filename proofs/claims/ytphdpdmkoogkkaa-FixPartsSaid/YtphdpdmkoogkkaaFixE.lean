/- Layer 1: the walks of Root (the program's, the reference's). -/
import Derived.Test.YtphdpdmkoogkkaaFixD
namespace Go.Proofs.Ytphdpdmkoogkkaa
open Go.RowKit
def RootPost (n : Nat) (w : World) (e : Ending) (w' : World) : Prop := (∃ r : Nat, e = .returned (.int .i64 (r : Int)) ∧ IsRoot n r) ∧ w = w'
set_option maxRecDepth 100000 in
theorem root_any (n : Nat) (w : World) (hn : n < 9223372036854775808) : Calls Try.prog 22 #[.int .i64 n] w (RootPost n w) := by
  have c0 : ¬ (n : Int) < 0 := by omega
  have HST := Lib.hid (Bitwise.start n (by omega))
  have hn' : (n : Int) ≤ 9223372036854775807 := by omega
  have HNN := Lib.hid hn
  clear hn
  go_enter Try.func22, Try.ntmps22
  go_wp2_with fail
  go_loop [3, 8] (fun r i => ∃ (R j : Nat), j ≤ 32 ∧ r = .int .u64 R ∧ i = .int .i64 j ∧ Hid (Bitwise n R (32 - j))) (fun _ i => 32 - (intOf i).toNat)
  case atStart => exact ⟨0, 0, by omega, rfl, rfl, HST⟩
  case round =>
    obtain ⟨R, j, hj, rfl, rfl, HB⟩ := hrel
    clear HST
    by_cases hlt : j < 32
    · obtain ⟨p, hp⟩ : ∃ p, 31 - j = p := ⟨_, rfl⟩
      have hB := HB.out
      rw [show 32 - j = p + 1 by omega] at hB
      have hor := hB.or_eq
      obtain ⟨⟨g1, g2⟩, g3, g4⟩ := hB.next
      have hp32 : 2 ^ p < 4294967296 := by
        have : 2 ^ p ≤ 2 ^ 31 := Nat.pow_le_pow_right (by omega) (by omega)
        omega
      obtain ⟨P, hP⟩ : ∃ P, 2 ^ p = P := ⟨_, rfl⟩
      rw [hP] at hor g1 g2 g3 g4 hp32
      have v1 : IntKind.u64.wrap ((2 : Int) ^ (31 - j)) = (P : Int) := by
        rw [hp, show ((2 : Int) ^ p) = ((2 ^ p : Nat) : Int) by push_cast; rfl, hP, IntKind.wrap_u64]; omega
      have v2 : bits .or .u64 (R : Int) (P : Int) = ((R + P : Nat) : Int) := by
        rw [bits_or_u64_nat R P (by omega) (by omega), hor]
      obtain ⟨M, hM⟩ : ∃ M, R + P = M := ⟨_, rfl⟩
      rw [hM] at v2 g1 g2 g3 g4
      obtain ⟨MM, hMM⟩ : ∃ m, M * M = m := ⟨_, rfl⟩
      rw [hMM] at g2 g3 g4
      have v3 : IntKind.u64.wrap ((M : Int) * (M : Int)) = (MM : Int) := by rw [← Int.natCast_mul, hMM, IntKind.wrap_u64]; omega
      have G3 := Lib.hid g3
      have G4 := Lib.hid g4
      have g5 : (M : Int) < 4294967296 := by omega
      have g6 : (MM : Int) < 18446744073709551616 := by omega
      have g7 : (P : Int) < 4294967296 := by omega
      have HPE := Lib.hid hp
      have j1 : (j : Int) < 32 := by omega
      have hR0 : (0 : Int) ≤ R := by omega
      have hMM0 : (0 : Int) ≤ MM := by omega
      have hM0 : (0 : Int) ≤ M := by omega
      have hP0 : (0 : Int) ≤ P := by omega
      have g8 : (R : Int) ≤ M := by omega
      have hle : (MM : Int) ≤ n ∨ (n : Int) < MM := by omega
      have HLE := Lib.hid (show ((MM : Int) ≤ n → Bitwise n M p) ∧ ((n : Int) < MM → Bitwise n R p) from ⟨fun h => G3.out (by omega), fun h => G4.out (by omega)⟩)
      have HJ := Lib.hid (show j + 1 ≤ 32 ∧ 32 - (j + 1) = p ∧ 32 - (j + 1) < 32 - j by omega)
      clear hB hor g1 g2 g3 g4 hp32 hP hM hMM HB hp hlt hj G3 G4
      generalize hRc : (R : Int) = R' at *
      generalize hPc : (P : Int) = P' at *
      generalize hMc : (M : Int) = M' at *
      generalize hMMc : (MM : Int) = MM' at *
      have HRc := Lib.hid hRc
      have HMc := Lib.hid hMc
      clear hRc hPc hMc hMMc
      rcases hle with hle | hle
      · go_wp2_with fail
        go_round
        case rel => exact ⟨M, j + 1, HJ.out.1, by rw [HMc.out], by go_num, by rw [HJ.out.2.1]; exact HLE.out.1 hle⟩
        case measure => simpa [intOf] using HJ.out.2.2
      · have hle' : ¬ MM' ≤ (n : Int) := by omega
        go_wp2_with fail
        go_round
        case rel => exact ⟨R, j + 1, HJ.out.1, by rw [HRc.out], by go_num, by rw [HJ.out.2.1]; exact HLE.out.2 hle⟩
        case measure => simpa [intOf] using HJ.out.2.2
    · have hr : IsRoot n R := by
        have := HB.out
        rw [show 32 - j = 0 by omega] at this
        exact this.end
      have hR : (R : Int) ≤ 4294967295 := by
        have h1 : R < 4294967296 := sq_lt (Nat.lt_of_le_of_lt hr.1 (by have := HNN.out; omega))
        omega
      have hj2 : ¬ (j : Int) < 32 := by omega
      have HR := Lib.hid hr
      clear hr hlt hj HB
      generalize hRc : (R : Int) = R' at *
      have hR0 : 0 ≤ R' := by omega
      have HRc := Lib.hid hRc
      clear hRc
      go_wp2_with fail
      go_ret
      exact ⟨⟨R, by rw [HRc.out]; rfl, HR.out⟩, rfl⟩
theorem rroot_any (n : Nat) (w : World) (hn : n < 4611686018427387904) : Calls Try.prog 29 #[.int .i64 n] w (RootPost n w) := by
  have HST := Lib.hid (show (0 : Nat) * 0 ≤ n ∧ n < 2147483648 * 2147483648 ∧ (0 : Nat) < 2147483648 by omega)
  have hn' : (n : Int) ≤ 4611686018427387903 := by omega
  clear hn
  go_enter Try.func29, Try.ntmps29
  go_wp2_with fail
  go_loop [3, 4] (fun l h => ∃ (L H : Nat), (H : Int) ≤ 2147483648 ∧ l = .int .i64 L ∧ h = .int .i64 H ∧ Hid (L * L ≤ n ∧ n < H * H ∧ L < H)) (fun l h => (intOf h - intOf l).toNat)
  case atStart => exact ⟨0, 2147483648, by omega, rfl, rfl, HST⟩
  case round =>
    obtain ⟨L, H, hH, rfl, rfl, HB⟩ := hrel
    clear HST
    obtain ⟨b1, b2, b3⟩ := HB.out
    by_cases hlt : 1 < H - L
    · obtain ⟨M, hM⟩ : ∃ m, (L + H) / 2 = m := ⟨_, rfl⟩
      have e1 : ((L : Int) + H) / 2 = (M : Int) := by omega
      obtain ⟨MM, hMM⟩ : ∃ m, M * M = m := ⟨_, rfl⟩
      have hM2 : MM ≤ 2147483648 * 2147483648 := by rw [← hMM]; exact Nat.mul_le_mul (by omega) (by omega)
      have v3 : IntKind.i64.wrap ((M : Int) * (M : Int)) = (MM : Int) := by rw [← Int.natCast_mul, hMM]; exact IntWalk.i64_in _ (by omega)
      have hle : (MM : Int) ≤ n ∨ (n : Int) < MM := by omega
      have HLE := Lib.hid (show ((MM : Int) ≤ n → M * M ≤ n ∧ n < H * H ∧ M < H) ∧ ((n : Int) < MM → L * L ≤ n ∧ n < M * M ∧ L < M) from ⟨fun h => ⟨by omega, b2, by omega⟩, fun h => ⟨b1, by omega, by omega⟩⟩)
      have hMh : (M : Int) ≤ 2147483648 := by omega
      have HM1 := Lib.hid (show ((H : Int) - M).toNat < ((H : Int) - L).toNat by omega)
      have HM2 := Lib.hid (show ((M : Int) - L).toNat < ((H : Int) - L).toNat by omega)
      have h1 : (1 : Int) < (H : Int) - L := by omega
      have h2 : (0 : Int) ≤ L := by omega
      have h3 : (0 : Int) ≤ M := by omega
      clear b1 b2 b3 hlt hM hMM hM2 HB
      have HME := Lib.hid hMh
      generalize hLc : (L : Int) = L' at *
      generalize hHc : (H : Int) = H' at *
      generalize hMc : (M : Int) = M' at *
      generalize hMMc : (MM : Int) = MM' at *
      have HLc := Lib.hid hLc
      have HHc := Lib.hid hHc
      have HMc := Lib.hid hMc
      clear hLc hHc hMc hMMc
      rcases hle with hle | hle
      · go_wp2_with fail
        go_round
        case rel => exact ⟨M, H, by rw [HHc.out]; assumption, by rw [HMc.out, e1], by rw [HHc.out], HLE.out.1 hle⟩
        case measure => simpa [intOf, e1] using HM1.out
      · have hle' : ¬ MM' ≤ (n : Int) := by omega
        go_wp2_with fail
        go_round
        case rel => exact ⟨L, M, by rw [HMc.out]; exact HME.out, by rw [HLc.out], by rw [HMc.out, e1], HLE.out.2 hle⟩
        case measure => simpa [intOf, e1] using HM2.out
    · have hr : IsRoot n L := ⟨b1, by
        have : H = L + 1 := by omega
        rw [← this]; exact b2⟩
      have HR := Lib.hid hr
      have h1 : ¬ (1 : Int) < (H : Int) - L := by omega
      have h2 : (0 : Int) ≤ L := by omega
      have h3 : (L : Int) < H := by omega
      clear hr b1 b2 b3 HB hlt
      generalize hLc : (L : Int) = L' at *
      generalize hHc : (H : Int) = H' at *
      have HLc := Lib.hid hLc
      clear hLc hHc
      go_wp2_with fail
      go_ret
      exact ⟨⟨L, by rw [HLc.out]; rfl, HR.out⟩, rfl⟩
end Go.Proofs.Ytphdpdmkoogkkaa
