/- Layer 13, the references: Low, Bucket, Top, Up, Down. -/
import Derived.Test.YtobmnjigenplnaaSketchA
namespace Go.Proofs.Ytobmnjigenplnaa
open Go.RowKit
theorem low_round (p i : Nat) : (8 + p) * 2 ^ (i + 1) = (8 + p) * 2 ^ i * 2 := by rw [Nat.pow_succ, Nat.mul_assoc]
theorem low_bound (p i : Nat) (hp : p ≤ 7) (hi : i ≤ 57) : (8 + p) * 2 ^ i ≤ 2305843009213693952 := by
  have h1 : 2 ^ i ≤ 2 ^ 57 := Nat.pow_le_pow_right (by omega) hi
  have h2 : (8 + p) * 2 ^ i ≤ 15 * 2 ^ 57 := Nat.mul_le_mul (by omega) h1
  omega
theorem low_any (b : Nat) (w : World) (hb : b < 480) :
    Calls Try.prog 11 #[.int .i64 b] w fun e w' => e = .returned (.int .i64 (lowB b)) ∧ w = w' := by
  by_cases h : b < 16
  · have hb := Lib.hid (show lowB b = b from if_pos h)
    go_enter Try.func11, Try.ntmps11
    go_wp2
    go_ret
    exact ⟨by rw [hb.out]; rfl, rfl⟩
  · have hl := Lib.hid (show lowB b = (8 + (b - 16) % 8) * 2 ^ ((b - 16) / 8 + 1) from if_neg h)
    obtain ⟨s, p, hs, hp, hbs⟩ : ∃ s p, s ≤ 57 ∧ p ≤ 7 ∧ b = 16 + 8 * s + p := ⟨(b - 16) / 8, (b - 16) % 8, by omega, by omega, by omega⟩
    subst hbs
    rw [show (16 + 8 * s + p - 16) % 8 = p by omega, show (16 + 8 * s + p - 16) / 8 = s by omega] at hl
    have e1 : ((16 + 8 * s + p : Nat) : Int) - 16 = ((8 * s + p : Nat) : Int) := by omega
    have g1 : (((16 + 8 * s + p : Nat) : Int) - 16) / 8 = s := by omega
    have g2 : (((16 + 8 * s + p : Nat) : Int) - 16) % 8 = p := by omega
    obtain ⟨B, hB⟩ : ∃ B : Int, ((16 + 8 * s + p : Nat) : Int) = B := ⟨_, rfl⟩
    rw [hB] at g1 g2 ⊢
    have hB0 : 16 ≤ B := by omega
    have hB1 : B ≤ 479 := by omega
    clear e1 hB hb h
    go_enter Try.func11, Try.ntmps11
    go_wp2
    go_loop [4, 5] (fun n i => ∃ k : Nat, k ≤ s + 1 ∧ i = .int .i64 k ∧ n = .int .i64 (((8 + p) * 2 ^ k : Nat) : Int)) (fun _ i => s + 1 - (intOf i).toNat)
    case atStart => exact ⟨0, by omega, rfl, by simp⟩
    case round =>
      obtain ⟨k, hk, rfl, rfl⟩ := hrel
      by_cases hlt : k ≤ s
      · have hbd := low_bound p k hp (by omega)
        have hr := Lib.hid (low_round p k)
        generalize (8 + p) * 2 ^ k = X at *
        go_wp2
        go_round
        case rel => exact ⟨k + 1, by omega, by go_num, by rw [hr.out]; go_num⟩
        case measure => simp [intOf]; omega
      · have : k = s + 1 := by omega
        subst this
        rw [← hl.out]
        go_wp2
        go_ret
        exact ⟨rfl, rfl⟩
theorem lowB_0 : lowB 0 = 0 := rfl
theorem rbucket_any (n : Nat) (w : World) (hn : n < 4611686018427387904) :
    Calls Try.prog 13 #[.int .i64 n] w fun e w' => e = .returned (.int .i64 (bucketN n)) ∧ w = w' := by
  obtain ⟨M, hM⟩ : ∃ M : Nat, (479 : Int) ≤ M := ⟨479, by omega⟩
  have HNN := Lib.hid hn
  have hni : (n : Int) < 4611686018427387904 := by omega
  clear hn
  go_enter Try.func13, Try.ntmps13
  go_wp2_with fail
  go_loopw [3] (fun i wr => ∃ b : Nat, (b : Int) ≤ 479 ∧ i = .int .i64 b ∧ lowB b ≤ n ∧ w = wr) (fun i _ => M - (intOf i).toNat)
  case atStart => exact ⟨0, by omega, rfl, by rw [lowB_0]; omega, rfl⟩
  case round =>
    obtain ⟨b, hb, rfl, hl, rfl⟩ := hrel
    have HLB := Lib.hid hl
    clear hl
    by_cases hlt : (b : Int) < 479
    · go_wp2_with fail
      rw [show ((b : Int) + 1) = ((b + 1 : Nat) : Int) from by omega]
      refine (low_any (b + 1) w (by omega)).mono ?_
      rintro e w' ⟨rfl, rfl⟩
      by_cases hgt : n < lowB (b + 1)
      · have hb := bucketN_of (small64 HNN.out) HLB.out (by rw [lowB_succ] at hgt; omega)
        have HB := Lib.hid hb
        clear hb
        generalize lowB (b + 1) = L at *
        go_wp2
        go_ret
        exact ⟨by rw [HB.out]; rfl, rfl⟩
      · have hle : lowB (b + 1) ≤ n := by omega
        have HL := Lib.hid hle
        obtain ⟨L, hL⟩ : ∃ L, lowB (b + 1) = L := ⟨_, rfl⟩
        have hLn : ¬ n < L := by rw [← hL]; omega
        have hLd : decide (n < L) = false := by simpa using hLn
        rw [hL]
        clear hL hle hgt
        go_wp2
        go_roundw
        case rel => exact ⟨b + 1, by omega, by go_num, HL.out, by trivial⟩
        case measure => simp [intOf]; omega
    · have : b = 479 := by omega
      subst this
      have hb := bucketN_of (small64 HNN.out) HLB.out (by rw [topB_479]; omega)
      have HB := Lib.hid hb
      clear hb
      go_wp2
      go_ret
      exact ⟨by rw [HB.out]; rfl, rfl⟩
theorem rtop_any (b : Nat) (w : World) (hb : b < 480) :
    Calls Try.prog 15 #[.int .i64 b] w fun e w' => e = .returned (.int .i64 (topB b)) ∧ w = w' := by
  by_cases h : b = 479
  · subst h
    have ht := Lib.hid topB_479
    go_enter Try.func15, Try.ntmps15
    go_wp2
    go_ret
    exact ⟨by rw [ht.out]; rfl, rfl⟩
  · have hne : ((b : Int) == 479) = false := by simp; omega
    have hl := Lib.hid (lowB_succ b)
    have ht := Lib.hid (topB_le hb)
    have HN := Lib.hid (show b < 479 by omega)
    have HB4 := Lib.hid hb
    have hb0 : (b : Int) < 480 := by omega
    clear hb h
    go_enter Try.func15, Try.ntmps15
    go_wp2_with fail
    rw [show ((b : Int) + 1) = ((b + 1 : Nat) : Int) from by omega]
    refine (low_any (b + 1) w (by have := HN.out; omega)).mono ?_
    rintro e w' ⟨rfl, rfl⟩
    rw [show lowB (b + 1) = topB b + 1 from hl.out]
    have ht' := ht.out
    clear hl ht
    obtain ⟨T, hT⟩ : ∃ T, topB b = T := ⟨_, rfl⟩
    rw [hT] at ht' ⊢
    have HT := Lib.hid hT
    clear hT
    go_wp2
    go_ret
    exact ⟨by rw [HT.out]; rfl, rfl⟩
theorem rdown_any (a b : Nat) (w : World) (ha : a < 4611686018427387904) (hb : 1 ≤ b) :
    Calls Try.prog 34 #[.int .i64 a, .int .i64 b] w fun e w' => e = .returned (.int .i64 ((a / b : Nat) : Int)) ∧ w = w' := by
  have hm0 : 0 ≤ (a : Int) % b := Int.emod_nonneg _ (by omega)
  have hm1 : (a : Int) % b ≤ a := by have : (a : Int) % b = ((a % b : Nat) : Int) := by simp
                                     rw [this]; exact Int.ofNat_le.2 (Nat.mod_le _ _)
  have hq0 : 0 ≤ ((a : Int) - a % b) / b := Int.ediv_nonneg (by omega) (by omega)
  have hq1 : ((a : Int) - a % b) / b ≤ (a : Int) - a % b := Int.ediv_le_self _ (by omega)
  have hq := Lib.hid (show ((a : Int) - a % b) / b = ((a / b : Nat) : Int) by
    have : (a : Int) - a % b = b * (a / b) := by have := Int.mul_ediv_add_emod (a : Int) b; omega
    rw [this, Int.mul_ediv_cancel_left _ (by omega)]; simp)
  go_enter Try.func34, Try.ntmps34
  go_wp2
  go_ret
  exact ⟨ret_int hq.out, rfl⟩
theorem rup_any (a b : Nat) (w : World) (ha : a < 4611686018427387904) (hb : 1 ≤ b) :
    Calls Try.prog 29 #[.int .i64 a, .int .i64 b] w fun e w' => e = .returned (.int .i64 (upN a b)) ∧ w = w' := by
  have hu := upN_eq a b hb
  have hm : (a : Int) % b = ((a % b : Nat) : Int) := by simp
  have hq0 : 0 ≤ (a : Int) / b := Int.ediv_nonneg (by omega) (by omega)
  have hq1 : (a : Int) / b ≤ a := Int.ediv_le_self _ (by omega)
  by_cases h : a % b = 0
  · have hz : ((a : Int) % b == 0) = true := by simp only [beq_iff_eq]; omega
    rw [if_pos h] at hu
    have HU := Lib.hid hu
    clear hu hm h
    go_enter Try.func29, Try.ntmps29
    go_wp2
    go_ret
    exact ⟨ret_int (by rw [HU.out]; simp), rfl⟩
  · have hz : ((a : Int) % b == 0) = false := by simp only [beq_eq_false_iff_ne, ne_eq]; omega
    rw [if_neg h] at hu
    have HU := Lib.hid hu
    have hd : a / b ≤ a := Nat.div_le_self _ _
    clear hu hm h
    go_enter Try.func29, Try.ntmps29
    go_wp2_with fail
    refine (rdown_any a b w ha hb).mono ?_
    rintro e w' ⟨rfl, rfl⟩
    generalize a / b = D at *
    go_wp2
    go_ret
    exact ⟨ret_int (by rw [HU.out]; rfl), rfl⟩
end Go.Proofs.Ytobmnjigenplnaa
