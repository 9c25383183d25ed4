/- Layer 13: contracts of Bucket, Top, Up, plus. -/
import Derived.Test.YtfmgcnmikopgeaaMaps
import Derived.Test.YtfmgcnmikopgeaaAround
import Derived.Test.YtfmgcnmikopgeaaSketchPlain
import Derived.Test.YtfmgcnmikopgeaaShelf
namespace Go.Proofs.Ytfmgcnmikopgeaa
open Go.RowKit
theorem bucket_parts (n : Nat) (hn : n < 4611686018427387904) (h : ¬ n < 16) : 5 ≤ Lib.bitLen n ∧ Lib.bitLen n ≤ 62 ∧ 8 ≤ n / 2 ^ (Lib.bitLen n - 5 + 1) ∧ n / 2 ^ (Lib.bitLen n - 5 + 1) ≤ 15 ∧
    bucketN n = 8 + 8 * (Lib.bitLen n - 5) + n / 2 ^ (Lib.bitLen n - 5 + 1) := by
  obtain ⟨h1, h2⟩ := bitLen_spec n (small64 hn)
  have h2 := h2 (by omega)
  have h5 : 5 ≤ Lib.bitLen n := by
    rcases Nat.lt_or_ge (Lib.bitLen n) 5 with hl | hl
    · have : 2 ^ Lib.bitLen n ≤ 2 ^ 4 := Nat.pow_le_pow_right (by omega) (by omega)
      omega
    · exact hl
  have h62 : Lib.bitLen n ≤ 62 := by
    rcases Nat.lt_or_ge 62 (Lib.bitLen n) with hl | hl
    · have : 2 ^ 62 ≤ 2 ^ (Lib.bitLen n - 1) := Nat.pow_le_pow_right (by omega) (by omega)
      omega
    · exact hl
  have hb : bucketN n = 16 + 8 * (Lib.bitLen n - 5) + n / 2 ^ (Lib.bitLen n - 4) - 8 := if_neg h
  obtain ⟨s, hs⟩ : ∃ s, Lib.bitLen n = s + 5 := ⟨Lib.bitLen n - 5, by omega⟩
  rw [hs] at h1 h2 hb ⊢
  rw [show s + 5 - 1 = s + 1 + 3 by omega, Nat.pow_add] at h2
  rw [show s + 5 = s + 1 + 4 by omega, Nat.pow_add] at h1
  rw [show s + 5 - 5 + 1 = s + 1 by omega, show s + 5 - 5 = s by omega]
  rw [show s + 5 - 5 = s by omega, show s + 5 - 4 = s + 1 by omega] at hb
  have hp : 0 < 2 ^ (s + 1) := Nat.two_pow_pos _
  have q1 : 8 ≤ n / 2 ^ (s + 1) := by rw [Nat.le_div_iff_mul_le hp]; omega
  have q2 : n / 2 ^ (s + 1) < 16 := by rw [Nat.div_lt_iff_lt_mul hp]; omega
  omega
theorem natCast_div_pow (n k : Nat) : (n : Int) / 2 ^ k = ((n / 2 ^ k : Nat) : Int) := by simp
theorem bucket_any (n : Nat) (w : World) (hn : n < 4611686018427387904) :
    Calls Try.prog 40 #[.int .i64 n] w fun e w' => e = .returned (.int .i64 (bucketN n)) ∧ w = w' := by
  by_cases h : n < 16
  · have hb := Lib.hid (show bucketN n = n from if_pos h)
    go_enter Try.func40, Try.ntmps40
    go_wp2
    go_ret
    exact ⟨by rw [hb.out]; rfl, rfl⟩
  · have hbp := bucket_parts n hn h
    go_enter Try.func40, Try.ntmps40
    go_wp2_with fail
    refine (Try.bits_Len (n : Int) w (by omega) (by omega)).mono ?_
    rintro e w' ⟨rfl, rfl⟩
    rw [Int.toNat_natCast]
    generalize Lib.bitLen n = L at *
    obtain ⟨h5, h62, q1, q2, hb⟩ := hbp
    have hq := natCast_div_pow n (L - 5 + 1)
    have HQ := Lib.hid hq
    have b1 : (n : Int) / 2 ^ (L - 5 + 1) ≤ 15 := by rw [hq]; omega
    have b0 : 8 ≤ (n : Int) / 2 ^ (L - 5 + 1) := by rw [hq]; omega
    have HB := Lib.hid hb
    clear hb hq q1 q2
    go_wp2
    go_ret
    exact ⟨ret_int (by rw [HB.out, show (n : Int) / 2 ^ (L - 5 + 1) = ((n / 2 ^ (L - 5 + 1) : Nat) : Int) from HQ.out]; omega), rfl⟩
theorem top_int (b : Nat) (h : 16 ≤ b) : (8 + ((b : Int) - 16) % 8 + 1) * 2 ^ ((b - 16) / 8 + 1) = ((topB b + 1 : Nat) : Int) := by
  have ht : topB b = (9 + (b - 16) % 8) * 2 ^ ((b - 16) / 8 + 1) - 1 := if_neg (by omega)
  have hp : 1 ≤ (9 + (b - 16) % 8) * 2 ^ ((b - 16) / 8 + 1) := Nat.mul_pos (by omega) (Nat.two_pow_pos _)
  rw [ht, Nat.sub_add_cancel hp, Int.natCast_mul, Int.natCast_pow, show (8 + ((b : Int) - 16) % 8 + 1) = ((9 + (b - 16) % 8 : Nat) : Int) by omega]
  rfl
theorem top_any (b : Nat) (w : World) (hb : b < 480) :
    Calls Try.prog 60 #[.int .i64 b] w fun e w' => e = .returned (.int .i64 (topB b)) ∧ w = w' := by
  by_cases h : b < 16
  · have hb := Lib.hid (show topB b = b from if_pos h)
    go_enter Try.func60, Try.ntmps60
    go_wp2
    go_ret
    exact ⟨by rw [hb.out]; rfl, rfl⟩
  · have hx := top_int b (by omega)
    have ht := topB_le hb
    have HX := Lib.hid hx
    have b1 : (8 + ((b : Int) - 16) % 8 + 1) * 2 ^ ((b - 16) / 8 + 1) ≤ 4611686018427387904 := by rw [hx]; omega
    have b0 : 1 ≤ (8 + ((b : Int) - 16) % 8 + 1) * 2 ^ ((b - 16) / 8 + 1) := by rw [hx]; omega
    clear hx
    go_enter Try.func60, Try.ntmps60
    go_wp2
    go_ret
    exact ⟨ret_int (by rw [show (8 + ((b : Int) - 16) % 8 + 1) * 2 ^ ((b - 16) / 8 + 1) = _ from HX.out]; omega), rfl⟩
theorem upN_eq (a b : Nat) (hb : 1 ≤ b) : upN a b = a / b + if a % b = 0 then 0 else 1 := by
  unfold upN
  have h1 := Nat.div_add_mod a b
  have h2 := Nat.mod_lt a (show 0 < b by omega)
  split
  · rename_i h0
    rw [Nat.add_zero, show a + b - 1 = b - 1 + b * (a / b) by omega, Nat.add_mul_div_left _ _ (by omega : 0 < b), Nat.div_eq_of_lt (by omega)]
    omega
  · rename_i h0
    rw [show a + b - 1 = (a % b - 1) + b * (a / b + 1) by rw [Nat.mul_add]; omega, Nat.add_mul_div_left _ _ (by omega : 0 < b), Nat.div_eq_of_lt (by omega)]
    omega
theorem up_any (a b : Nat) (w : World) (ha : a < 4611686018427387904) (hb : 1 ≤ b) (hb1 : b < 4611686018427387904) :
    Calls Try.prog 58 #[.int .i64 a, .int .i64 b] w fun e w' => e = .returned (.int .i64 (upN a b)) ∧ w = w' := by
  have hu := upN_eq a b hb
  have hq0 : 0 ≤ (a : Int) / b := Int.ediv_nonneg (by omega) (by omega)
  have hq1 : (a : Int) / b ≤ a := Int.ediv_le_self _ (by omega)
  have hc := Lib.hid (show (a : Int) / b = ((a / b : Nat) : Int) from by simp)
  have hm : (a : Int) % b = ((a % b : Nat) : Int) := by simp
  by_cases h : a % b = 0
  · have hm0 : ¬ 0 < (a : Int) % b := by omega
    rw [if_pos h] at hu
    have HU := Lib.hid hu
    clear hu hm h
    go_enter Try.func58, Try.ntmps58
    go_wp2
    go_ret
    exact ⟨ret_int (by rw [HU.out, show (a : Int) / b = _ from hc.out]; rfl), rfl⟩
  · have hm0 : 0 < (a : Int) % b := by omega
    rw [if_neg h] at hu
    have HU := Lib.hid hu
    clear hu hm h
    go_enter Try.func58, Try.ntmps58
    go_wp2
    go_ret
    exact ⟨ret_int (by rw [HU.out, show (a : Int) / b = _ from hc.out]; rfl), rfl⟩
theorem plus_any (a b : Nat) (w : World) (ha : a ≤ 1000000) (hb : b ≤ 1000000) :
    Calls Try.prog 45 #[.int .i64 a, .int .i64 b] w fun e w' => e = .returned (.int .i64 ((a + b : Nat) : Int)) ∧ w = w' := by
  go_enter Try.func45, Try.ntmps45
  go_wp2
  go_ret
  exact ⟨rfl, rfl⟩
end Go.Proofs.Ytfmgcnmikopgeaa
