/- The walk of math/bits.Div64, whole. -/
import Derived.Test.YtphdpdmkoogkkaaPart
import Derived.Test.YtphdpdmkoogkkaaKnuth
namespace Go.Proofs.Ytphdpdmkoogkkaa
open Go.RowKit
def DivPost (Q : Nat) (w : World) (e : Ending) (w' : World) : Prop := (∃ r : Int, e = .returned (.tuple #[.int .u64 (Q : Int), .int .u64 r])) ∧ ∃ n, w' = w.drewN n
theorem divPost_of {Q Q' : Nat} {w : World} {r : Int} {v : Int} (hv : v = (Q : Int)) : DivPost Q w (.returned (.tuple #[.int .u64 v, .int .u64 r])) w := ⟨⟨r, by rw [hv]⟩, 0, rfl⟩
theorem wrapU_nat (x : Nat) : IntKind.u64.wrap (x : Int) = ((x % 18446744073709551616 : Nat) : Int) := Mul64.wrapM x
/-- The remainder behind a digit, reckoned modulo 2^64. -/
theorem digit_rest {U t1 q1 Y r1 : Nat} (hY : 0 < Y) (hY2 : Y < 18446744073709551616) (hq : (U * 4294967296 + t1) / Y = q1) (hr : (U * 4294967296 + t1) % Y = r1) (ht : t1 < 4294967296) :
    ((U * 4294967296 % 18446744073709551616 : Nat) : Int) + t1 ≤ 18446744073709551615 ∧
    IntKind.u64.wrap (((U * 4294967296 % 18446744073709551616 : Nat) : Int) + t1 - ((q1 * Y % 18446744073709551616 : Nat) : Int)) = r1 ∧ r1 < Y := by
  have hd := Nat.div_add_mod (U * 4294967296 + t1) Y
  have hl := Nat.mod_lt (U * 4294967296 + t1) hY
  rw [hq, hr, Nat.mul_comm] at hd
  rw [hr] at hl
  refine ⟨by omega, ?_, hl⟩
  rw [IntKind.wrap_u64]
  generalize q1 * Y = Z at *
  omega
set_option maxHeartbeats 4000000 in
theorem div64_high (hi lo y : Nat) (w : World) (hh : 1 ≤ hi) (hhy : hi < y) (hy1 : y < 18446744073709551616) (hlo : lo < 18446744073709551616) :
    Calls Try.prog 35 #[.int .u64 hi, .int .u64 lo, .int .u64 y] w (DivPost ((hi * 18446744073709551616 + lo) / y) w) := by
  obtain ⟨Y, U, T, hS⟩ := shifted hi lo y (by omega) hy1 hhy hlo
  have hLZ := Try.bits_LeadingZeros64 (y : Int) w (by omega) (by omega)
  have hL64 : Lib.bitLen y ≤ 64 := Lib.bitLen_le y 64 (by omega) (by omega)
  have eL : (64 - (Lib.bitLen (y : Int).toNat : Int)) = ((64 - Lib.bitLen y : Nat) : Int) := by rw [Int.toNat_natCast]; omega
  rw [eL] at hLZ
  obtain ⟨s, hs⟩ : ∃ s, 64 - Lib.bitLen y = s := ⟨_, rfl⟩
  rw [hs] at hLZ hS
  obtain ⟨s63, hYd, hYlo, hYhi, hUa, hUh, hUlt, hTd, hquo⟩ := hS
  have HLZ := Lib.hid hLZ
  have h0 : ((y : Int) == 0) = false := by simp; omega
  have h1 : ¬ (y : Int) ≤ (hi : Int) := by omega
  have h2 : ((hi : Int) == 0) = false := by simp; omega
  have p1 : IntKind.u64.wrap ((y : Int) * 2 ^ s) = (Y : Int) := by
    have : ((y : Int) * 2 ^ s) = ((y * 2 ^ s : Nat) : Int) := by push_cast; rfl
    rw [this, hYd, wrapU_nat, Nat.mod_eq_of_lt hYhi]
  obtain ⟨a, ha⟩ : ∃ a, Y / 4294967296 = a := ⟨_, rfl⟩
  obtain ⟨b, hb⟩ : ∃ b, Y % 4294967296 = b := ⟨_, rfl⟩
  have hYab : a * 4294967296 + b = Y := by omega
  have p2 : (Y : Int) / 4294967296 = (a : Int) := by omega
  have p3 : bits .and .u64 (Y : Int) 4294967295 = (b : Int) := by rw [Mul64.maskN Y hYhi, hb]
  obtain ⟨HI, hHI⟩ : ∃ h, hi * 2 ^ s = h := ⟨_, rfl⟩
  obtain ⟨LO, hLO⟩ : ∃ h, lo / 2 ^ (64 - s) = h := ⟨_, rfl⟩
  rw [hHI] at hUh hUa
  rw [hLO] at hUa
  have p4 : IntKind.u64.wrap ((hi : Int) * 2 ^ s) = (HI : Int) := by
    have : ((hi : Int) * 2 ^ s) = ((hi * 2 ^ s : Nat) : Int) := by push_cast; rfl
    rw [this, hHI, wrapU_nat, Nat.mod_eq_of_lt hUh]
  have p5 : (lo : Int) / 2 ^ (64 - s) = (LO : Int) := by rw [← hLO]; push_cast; rfl
  have hLOl : LO ≤ lo := by rw [← hLO]; exact Nat.div_le_self _ _
  have p6 : bits .or .u64 (HI : Int) (LO : Int) = (U : Int) := by rw [bits_or_u64_nat HI LO hUh (by omega), hUa]
  have hTlt : T < 18446744073709551616 := by rw [← hTd]; exact Nat.mod_lt _ (by omega)
  have p7 : IntKind.u64.wrap ((lo : Int) * 2 ^ s) = (T : Int) := by
    have : ((lo : Int) * 2 ^ s) = ((lo * 2 ^ s : Nat) : Int) := by push_cast; rfl
    rw [this, wrapU_nat, hTd]
  obtain ⟨t1, ht1⟩ : ∃ b, T / 4294967296 = b := ⟨_, rfl⟩
  obtain ⟨t0, ht0⟩ : ∃ b, T % 4294967296 = b := ⟨_, rfl⟩
  have hTt : t1 * 4294967296 + t0 = T := by rw [← ht1, ← ht0]; exact Nat.div_add_mod' T 4294967296
  have p8 : (T : Int) / 4294967296 = (t1 : Int) := by rw [Mul64.divN, ht1]
  clear hTd hHI hLO
  have p9 : bits .and .u64 (T : Int) 4294967295 = (t0 : Int) := by rw [Mul64.maskN T hTlt, ht0]
  have ha31 : 2147483648 ≤ a := by omega
  have ha32 : a < 4294967296 := by omega
  have hb32 : b < 4294967296 := by omega
  have ht1l : t1 < 4294967296 := by omega
  have ht0l : t0 < 4294967296 := by omega
  have hY0 : 0 < Y := by omega
  have hUab : U < a * 4294967296 + b := by omega
  -- the digits
  obtain ⟨D1, hD1⟩ : ∃ q, (U * 4294967296 + t1) / Y = q := ⟨_, rfl⟩
  obtain ⟨R1, hR1⟩ : ∃ q, (U * 4294967296 + t1) % Y = q := ⟨_, rfl⟩
  obtain ⟨D0, hD0⟩ : ∃ q, (R1 * 4294967296 + t0) / Y = q := ⟨_, rfl⟩
  have hj := digits_join (e0 := t0) hY0 hD1 hR1
  rw [hTt, hD0] at hj
  rw [hquo, hj]
  obtain ⟨m0, m1, hR1l⟩ := digit_rest hY0 hYhi hD1 hR1 ht1l
  have hD1l := digit_lt hUab ht1l
  have hR1ab : R1 < a * 4294967296 + b := by omega
  have hD0l := digit_lt hR1ab ht0l
  rw [hYab, hD1] at hD1l
  rw [hYab, hD0] at hD0l
  have HD1 := Lib.hid hD1
  have HD0 := Lib.hid hD0
  have HYab := Lib.hid hYab
  have m2 : IntKind.u64.wrap ((U : Int) * 4294967296) = ((U * 4294967296 % 18446744073709551616 : Nat) : Int) := by rw [← wrapU_nat, Int.natCast_mul]; rfl
  have m3 := wrapU_nat (D1 * Y)
  rw [Int.natCast_mul] at m3
  obtain ⟨M2, hM2⟩ : ∃ m, U * 4294967296 % 18446744073709551616 = m := ⟨_, rfl⟩
  obtain ⟨M3, hM3⟩ : ∃ m, D1 * Y % 18446744073709551616 = m := ⟨_, rfl⟩
  have hM3l : M3 < 18446744073709551616 := by omega
  rw [hM2] at m0 m1 m2
  rw [hM3] at m1 m3
  -- the first guesses
  have G1 := Lib.hid (Guess.start (d := t1) ha31 hb32 hUab ht1l)
  have G0 := Lib.hid (Guess.start (d := t0) ha31 hb32 hR1ab ht0l)
  obtain ⟨q1, hq1⟩ : ∃ q, U / a = q := ⟨_, rfl⟩
  obtain ⟨r1, hr1⟩ : ∃ q, U % a = q := ⟨_, rfl⟩
  obtain ⟨q0, hq0⟩ : ∃ q, R1 / a = q := ⟨_, rfl⟩
  obtain ⟨r0, hr0⟩ : ∃ q, R1 % a = q := ⟨_, rfl⟩
  rw [hq1, hr1] at G1
  rw [hq0, hr0] at G0
  have k1 : (U : Int) / (a : Int) = (q1 : Int) := by rw [← hq1]; simp
  have k1' : (U : Int).tdiv (a : Int) = (q1 : Int) := by rw [Int.tdiv_eq_ediv_of_nonneg (by omega), k1]
  have k0 : (R1 : Int) / (a : Int) = (q0 : Int) := by rw [← hq0]; simp
  have k0' : (R1 : Int).tdiv (a : Int) = (q0 : Int) := by rw [Int.tdiv_eq_ediv_of_nonneg (by omega), k0]
  have q1l := G1.out.top
  have q0l := G0.out.top
  have r1l : r1 < a := by rw [← hr1]; exact Nat.mod_lt _ (by omega)
  have r0l : r0 < a := by rw [← hr0]; exact Nat.mod_lt _ (by omega)
  obtain ⟨A1, hA1⟩ : ∃ q, q1 * a = q := ⟨_, rfl⟩
  obtain ⟨A0, hA0⟩ : ∃ q, q0 * a = q := ⟨_, rfl⟩
  have s1 := G1.out.sum
  have s0 := G0.out.sum
  rw [hA1] at s1
  rw [hA0] at s0
  have k2 : IntKind.u64.wrap ((q1 : Int) * (a : Int)) = (A1 : Int) := by rw [← Int.natCast_mul, hA1, wrapU_nat, Nat.mod_eq_of_lt (by omega)]
  have k3 : IntKind.u64.wrap ((q0 : Int) * (a : Int)) = (A0 : Int) := by rw [← Int.natCast_mul, hA0, wrapU_nat, Nat.mod_eq_of_lt (by omega)]
  have k4 : IntKind.u64.wrap ((U : Int) - (A1 : Int)) = (r1 : Int) := by rw [show (U : Int) - A1 = (r1 : Int) by omega, wrapU_nat, Nat.mod_eq_of_lt (by omega)]
  have k5 : IntKind.u64.wrap ((R1 : Int) - (A0 : Int)) = (r0 : Int) := by rw [show (R1 : Int) - A0 = (r0 : Int) by omega, wrapU_nat, Nat.mod_eq_of_lt (by omega)]
  have k6 : (U : Int) - (A1 : Int) = (r1 : Int) := by omega
  have k7 : (R1 : Int) - (A0 : Int) = (r0 : Int) := by omega
  have n1 : ¬ (a : Int) = 0 := by omega
  have n2 : (0 : Int) < a := by omega
  clear hLZ eL hs hquo hj hL64 hYd hUa ha hb ht1 ht0 hD1 hR1 hD0 hYab hTt hM2 hM3 hq1 hr1 hq0 hr0 hA1 hA0 s1 s0 hUab hR1ab
  go_enter Try.func35, Try.ntmps35
  go_wp2_with fail
  refine HLZ.out.mono ?_
  rintro e w1 ⟨rfl, rfl⟩
  go_wp2_with fail
  go_loop [15, 16] (fun q r => ∃ Q R : Nat, q = .int .u64 Q ∧ r = .int .u64 R ∧ Hid (Guess a b U t1 Q R) ∧ (R : Int) < 4294967296) (fun q _ => (intOf q).toNat)
  case atStart => exact ⟨q1, r1, rfl, rfl, G1, by omega⟩
  case round =>
    obtain ⟨Q, R, rfl, rfl, HG, hRl⟩ := hrel
    clear G1 k1 k1' k2 k4 k6
    have hQt := HG.out.top
    have hQb := HG.out.bounds hb32
    have cQ : (Q : Int) ≤ 4294967297 := by omega
    obtain ⟨P, hP⟩ : ∃ p, Q * b = p := ⟨_, rfl⟩
    have v1 : IntKind.u64.wrap ((Q : Int) * (b : Int)) = (P : Int) := by rw [← Int.natCast_mul, hP, wrapU_nat, Nat.mod_eq_of_lt (by omega)]
    have hUab : U < a * 4294967296 + b := by rw [HYab.out]; assumption
    by_cases hc : 4294967296 ≤ Q ∨ 4294967296 * R + t1 < P
    · rw [← hP] at hc
      obtain ⟨g1, g2⟩ := HG.out.less hUab (by assumption) hc
      have g3 : Q - 1 ≤ 4294967296 := by omega
      rw [hP] at hc
      have G2 := Lib.hid g2
      have e1 : (Q : Int) - 1 = ((Q - 1 : Nat) : Int) := by omega
      have f1 : (1 : Int) ≤ Q := by omega
      clear g2 hUab hP
      by_cases h3 : 4294967296 ≤ R + a
      · have hq := G2.out.broke (by rw [HYab.out]; assumption) hb32 g3 h3
        rw [HYab.out, HD1.out] at hq
        have e2 : (Q : Int) - 1 = (D1 : Int) := by omega
        have h3' : (4294967296 : Int) ≤ (R : Int) + a := by omega
        clear G2 HG e1 hq
        by_cases h4 : 4294967296 ≤ Q
        · have h4' : (4294967296 : Int) ≤ Q := by omega
          clear hc
          go_wp2_with fail
          go_loop [18, 16] (fun q r => ∃ Q R : Nat, q = .int .u64 Q ∧ r = .int .u64 R ∧ Hid (Guess a b R1 t0 Q R) ∧ (R : Int) < 4294967296) (fun q _ => (intOf q).toNat)
          case atStart => exact ⟨q0, r0, rfl, rfl, G0, by omega⟩
          case round =>
            obtain ⟨Q, R, rfl, rfl, HG, hRl⟩ := hrel
            clear G0 k0 k0' k3 k5 k7
            have hQt := HG.out.top
            have hQb := HG.out.bounds hb32
            have cQ : (Q : Int) ≤ 4294967297 := by omega
            obtain ⟨P, hP⟩ : ∃ p, Q * b = p := ⟨_, rfl⟩
            have v1 : IntKind.u64.wrap ((Q : Int) * (b : Int)) = (P : Int) := by rw [← Int.natCast_mul, hP, wrapU_nat, Nat.mod_eq_of_lt (by omega)]
            have hUab : R1 < a * 4294967296 + b := by rw [HYab.out]; assumption
            by_cases hc : 4294967296 ≤ Q ∨ 4294967296 * R + t0 < P
            · rw [← hP] at hc
              obtain ⟨g1, g2⟩ := HG.out.less hUab (by assumption) hc
              have g3 : Q - 1 ≤ 4294967296 := by omega
              rw [hP] at hc
              have G2 := Lib.hid g2
              have e1 : (Q : Int) - 1 = ((Q - 1 : Nat) : Int) := by omega
              have f1 : (1 : Int) ≤ Q := by omega
              clear g2 hUab hP
              by_cases h3 : 4294967296 ≤ R + a
              · have hq := G2.out.broke (by rw [HYab.out]; assumption) hb32 g3 h3
                rw [HYab.out, HD0.out] at hq
                have e2 : (Q : Int) - 1 = (D0 : Int) := by omega
                have h3' : (4294967296 : Int) ≤ (R : Int) + a := by omega
                clear G2 HG e1 hq
                by_cases h4 : 4294967296 ≤ Q
                · have h4' : (4294967296 : Int) ≤ Q := by omega
                  clear hc
                  go_wp2_with fail
                  go_ret2
                  exact divPost_of (Q' := 0) (by omega)
                · have h4' : ¬ (4294967296 : Int) ≤ Q := by omega
                  have h5 : 4294967296 * (R : Int) + t0 < P := by omega
                  clear hc
                  go_wp2_with fail
                  go_ret2
                  exact divPost_of (Q' := 0) (by omega)
              · have h3' : ¬ (4294967296 : Int) ≤ (R : Int) + a := by omega
                clear HG
                by_cases h4 : 4294967296 ≤ Q
                · have h4' : (4294967296 : Int) ≤ Q := by omega
                  clear hc
                  have HE := Lib.hid e1
                  clear e1
                  go_wp2_with fail
                  go_round
                  case rel => exact ⟨Q - 1, R + a, by rw [HE.out], by go_num, G2, by omega⟩
                  case measure => simp [intOf] <;> omega
                · have h4' : ¬ (4294967296 : Int) ≤ Q := by omega
                  have h5 : 4294967296 * (R : Int) + t0 < P := by omega
                  clear hc
                  have HE := Lib.hid e1
                  clear e1
                  go_wp2_with fail
                  go_round
                  case rel => exact ⟨Q - 1, R + a, by rw [HE.out], by go_num, G2, by omega⟩
                  case measure => simp [intOf] <;> omega
            · have hq := HG.out.done (by rw [HYab.out]; assumption) (by rw [hP]; omega)
              rw [HYab.out, HD0.out] at hq
              have h4' : ¬ (4294967296 : Int) ≤ Q := by omega
              have h5 : ¬ 4294967296 * (R : Int) + t0 < P := by omega
              clear hc HG hP hUab
              subst hq
              go_wp2_with fail
              go_ret2
              exact divPost_of (Q' := 0) (by omega)
        · have h4' : ¬ (4294967296 : Int) ≤ Q := by omega
          have h5 : 4294967296 * (R : Int) + t1 < P := by omega
          clear hc
          go_wp2_with fail
          go_loop [18, 16] (fun q r => ∃ Q R : Nat, q = .int .u64 Q ∧ r = .int .u64 R ∧ Hid (Guess a b R1 t0 Q R) ∧ (R : Int) < 4294967296) (fun q _ => (intOf q).toNat)
          case atStart => exact ⟨q0, r0, rfl, rfl, G0, by omega⟩
          case round =>
            obtain ⟨Q, R, rfl, rfl, HG, hRl⟩ := hrel
            clear G0 k0 k0' k3 k5 k7
            have hQt := HG.out.top
            have hQb := HG.out.bounds hb32
            have cQ : (Q : Int) ≤ 4294967297 := by omega
            obtain ⟨P, hP⟩ : ∃ p, Q * b = p := ⟨_, rfl⟩
            have v1 : IntKind.u64.wrap ((Q : Int) * (b : Int)) = (P : Int) := by rw [← Int.natCast_mul, hP, wrapU_nat, Nat.mod_eq_of_lt (by omega)]
            have hUab : R1 < a * 4294967296 + b := by rw [HYab.out]; assumption
            by_cases hc : 4294967296 ≤ Q ∨ 4294967296 * R + t0 < P
            · rw [← hP] at hc
              obtain ⟨g1, g2⟩ := HG.out.less hUab (by assumption) hc
              have g3 : Q - 1 ≤ 4294967296 := by omega
              rw [hP] at hc
              have G2 := Lib.hid g2
              have e1 : (Q : Int) - 1 = ((Q - 1 : Nat) : Int) := by omega
              have f1 : (1 : Int) ≤ Q := by omega
              clear g2 hUab hP
              by_cases h3 : 4294967296 ≤ R + a
              · have hq := G2.out.broke (by rw [HYab.out]; assumption) hb32 g3 h3
                rw [HYab.out, HD0.out] at hq
                have e2 : (Q : Int) - 1 = (D0 : Int) := by omega
                have h3' : (4294967296 : Int) ≤ (R : Int) + a := by omega
                clear G2 HG e1 hq
                by_cases h4 : 4294967296 ≤ Q
                · have h4' : (4294967296 : Int) ≤ Q := by omega
                  clear hc
                  go_wp2_with fail
                  go_ret2
                  exact divPost_of (Q' := 0) (by omega)
                · have h4' : ¬ (4294967296 : Int) ≤ Q := by omega
                  have h5 : 4294967296 * (R : Int) + t0 < P := by omega
                  clear hc
                  go_wp2_with fail
                  go_ret2
                  exact divPost_of (Q' := 0) (by omega)
              · have h3' : ¬ (4294967296 : Int) ≤ (R : Int) + a := by omega
                clear HG
                by_cases h4 : 4294967296 ≤ Q
                · have h4' : (4294967296 : Int) ≤ Q := by omega
                  clear hc
                  have HE := Lib.hid e1
                  clear e1
                  go_wp2_with fail
                  go_round
                  case rel => exact ⟨Q - 1, R + a, by rw [HE.out], by go_num, G2, by omega⟩
                  case measure => simp [intOf] <;> omega
                · have h4' : ¬ (4294967296 : Int) ≤ Q := by omega
                  have h5 : 4294967296 * (R : Int) + t0 < P := by omega
                  clear hc
                  have HE := Lib.hid e1
                  clear e1
                  go_wp2_with fail
                  go_round
                  case rel => exact ⟨Q - 1, R + a, by rw [HE.out], by go_num, G2, by omega⟩
                  case measure => simp [intOf] <;> omega
            · have hq := HG.out.done (by rw [HYab.out]; assumption) (by rw [hP]; omega)
              rw [HYab.out, HD0.out] at hq
              have h4' : ¬ (4294967296 : Int) ≤ Q := by omega
              have h5 : ¬ 4294967296 * (R : Int) + t0 < P := by omega
              clear hc HG hP hUab
              subst hq
              go_wp2_with fail
              go_ret2
              exact divPost_of (Q' := 0) (by omega)
      · have h3' : ¬ (4294967296 : Int) ≤ (R : Int) + a := by omega
        clear HG
        by_cases h4 : 4294967296 ≤ Q
        · have h4' : (4294967296 : Int) ≤ Q := by omega
          clear hc
          have HE := Lib.hid e1
          clear e1
          go_wp2_with fail
          go_round
          case rel => exact ⟨Q - 1, R + a, by rw [HE.out], by go_num, G2, by omega⟩
          case measure => simp [intOf] <;> omega
        · have h4' : ¬ (4294967296 : Int) ≤ Q := by omega
          have h5 : 4294967296 * (R : Int) + t1 < P := by omega
          clear hc
          have HE := Lib.hid e1
          clear e1
          go_wp2_with fail
          go_round
          case rel => exact ⟨Q - 1, R + a, by rw [HE.out], by go_num, G2, by omega⟩
          case measure => simp [intOf] <;> omega
    · have hq := HG.out.done (by rw [HYab.out]; assumption) (by rw [hP]; omega)
      rw [HYab.out, HD1.out] at hq
      have h4' : ¬ (4294967296 : Int) ≤ Q := by omega
      have h5 : ¬ 4294967296 * (R : Int) + t1 < P := by omega
      clear hc HG hP hUab
      subst hq
      go_wp2_with fail
      go_loop [18, 16] (fun q r => ∃ Q R : Nat, q = .int .u64 Q ∧ r = .int .u64 R ∧ Hid (Guess a b R1 t0 Q R) ∧ (R : Int) < 4294967296) (fun q _ => (intOf q).toNat)
      case atStart => exact ⟨q0, r0, rfl, rfl, G0, by omega⟩
      case round =>
        obtain ⟨Q, R, rfl, rfl, HG, hRl⟩ := hrel
        clear G0 k0 k0' k3 k5 k7
        have hQt := HG.out.top
        have hQb := HG.out.bounds hb32
        have cQ : (Q : Int) ≤ 4294967297 := by omega
        obtain ⟨P, hP⟩ : ∃ p, Q * b = p := ⟨_, rfl⟩
        have v1 : IntKind.u64.wrap ((Q : Int) * (b : Int)) = (P : Int) := by rw [← Int.natCast_mul, hP, wrapU_nat, Nat.mod_eq_of_lt (by omega)]
        have hUab : R1 < a * 4294967296 + b := by rw [HYab.out]; assumption
        by_cases hc : 4294967296 ≤ Q ∨ 4294967296 * R + t0 < P
        · rw [← hP] at hc
          obtain ⟨g1, g2⟩ := HG.out.less hUab (by assumption) hc
          have g3 : Q - 1 ≤ 4294967296 := by omega
          rw [hP] at hc
          have G2 := Lib.hid g2
          have e1 : (Q : Int) - 1 = ((Q - 1 : Nat) : Int) := by omega
          have f1 : (1 : Int) ≤ Q := by omega
          clear g2 hUab hP
          by_cases h3 : 4294967296 ≤ R + a
          · have hq := G2.out.broke (by rw [HYab.out]; assumption) hb32 g3 h3
            rw [HYab.out, HD0.out] at hq
            have e2 : (Q : Int) - 1 = (D0 : Int) := by omega
            have h3' : (4294967296 : Int) ≤ (R : Int) + a := by omega
            clear G2 HG e1 hq
            by_cases h4 : 4294967296 ≤ Q
            · have h4' : (4294967296 : Int) ≤ Q := by omega
              clear hc
              go_wp2_with fail
              go_ret2
              exact divPost_of (Q' := 0) (by omega)
            · have h4' : ¬ (4294967296 : Int) ≤ Q := by omega
              have h5 : 4294967296 * (R : Int) + t0 < P := by omega
              clear hc
              go_wp2_with fail
              go_ret2
              exact divPost_of (Q' := 0) (by omega)
          · have h3' : ¬ (4294967296 : Int) ≤ (R : Int) + a := by omega
            clear HG
            by_cases h4 : 4294967296 ≤ Q
            · have h4' : (4294967296 : Int) ≤ Q := by omega
              clear hc
              have HE := Lib.hid e1
              clear e1
              go_wp2_with fail
              go_round
              case rel => exact ⟨Q - 1, R + a, by rw [HE.out], by go_num, G2, by omega⟩
              case measure => simp [intOf] <;> omega
            · have h4' : ¬ (4294967296 : Int) ≤ Q := by omega
              have h5 : 4294967296 * (R : Int) + t0 < P := by omega
              clear hc
              have HE := Lib.hid e1
              clear e1
              go_wp2_with fail
              go_round
              case rel => exact ⟨Q - 1, R + a, by rw [HE.out], by go_num, G2, by omega⟩
              case measure => simp [intOf] <;> omega
        · have hq := HG.out.done (by rw [HYab.out]; assumption) (by rw [hP]; omega)
          rw [HYab.out, HD0.out] at hq
          have h4' : ¬ (4294967296 : Int) ≤ Q := by omega
          have h5 : ¬ 4294967296 * (R : Int) + t0 < P := by omega
          clear hc HG hP hUab
          subst hq
          go_wp2_with fail
          go_ret2
          exact divPost_of (Q' := 0) (by omega)
end Go.Proofs.Ytphdpdmkoogkkaa
