/- Layer 1: the walks of Cmp (the program's, the reference's). -/
import Derived.Test.YtphdpdmkoogkkaaFixD
namespace Go.Proofs.Ytphdpdmkoogkkaa
open Go.RowKit
theorem nanI_any (x : Int) (w : World) : Calls Try.prog 42 #[.int .i64 x] w fun e w' => e = .returned (.bool false) ∧ w = w' := by
  go_enter Try.func42, Try.ntmps42
  go_wp2
  go_ret
  exact ⟨rfl, rfl⟩
theorem nanU_any (x : Int) (w : World) : Calls Try.prog 43 #[.int .u64 x] w fun e w' => e = .returned (.bool false) ∧ w = w' := by
  go_enter Try.func43, Try.ntmps43
  go_wp2
  go_ret
  exact ⟨rfl, rfl⟩
theorem cmpI_any (x y : Int) (w : World) : Calls Try.prog 37 #[.int .i64 x, .int .i64 y] w fun e w' => e = .returned (.int .i64 (cmpZ x y)) ∧ w = w' := by
  have HX := Lib.hid (fun w => nanI_any x w)
  have HY := Lib.hid (fun w => nanI_any y w)
  rcases (show x < y ∨ y < x ∨ x = y by omega) with h | h | h
  · rw [cmpZ_of_lt h]
    go_enter Try.func37, Try.ntmps37
    go_wp2_with fail
    refine (HX.out _).mono ?_
    rintro e w1 ⟨rfl, rfl⟩
    go_wp2_with fail
    refine (HY.out _).mono ?_
    rintro e w1 ⟨rfl, rfl⟩
    go_wp2
    go_ret
    exact ⟨rfl, rfl⟩
  · rw [cmpZ_of_gt h]
    have h2 : ¬ x < y := by omega
    go_enter Try.func37, Try.ntmps37
    go_wp2_with fail
    refine (HX.out _).mono ?_
    rintro e w1 ⟨rfl, rfl⟩
    go_wp2_with fail
    refine (HY.out _).mono ?_
    rintro e w1 ⟨rfl, rfl⟩
    go_wp2
    go_ret
    exact ⟨rfl, rfl⟩
  · subst h
    rw [cmpZ_self]
    go_enter Try.func37, Try.ntmps37
    go_wp2_with fail
    refine (HX.out _).mono ?_
    rintro e w1 ⟨rfl, rfl⟩
    go_wp2_with fail
    refine (HY.out _).mono ?_
    rintro e w1 ⟨rfl, rfl⟩
    go_wp2
    go_ret
    exact ⟨rfl, rfl⟩
theorem cmpU_any (x y : Int) (w : World) : Calls Try.prog 40 #[.int .u64 x, .int .u64 y] w fun e w' => e = .returned (.int .i64 (cmpZ x y)) ∧ w = w' := by
  have HX := Lib.hid (fun w => nanU_any x w)
  have HY := Lib.hid (fun w => nanU_any y w)
  rcases (show x < y ∨ y < x ∨ x = y by omega) with h | h | h
  · rw [cmpZ_of_lt h]
    go_enter Try.func40, Try.ntmps40
    go_wp2_with fail
    refine (HX.out _).mono ?_
    rintro e w1 ⟨rfl, rfl⟩
    go_wp2_with fail
    refine (HY.out _).mono ?_
    rintro e w1 ⟨rfl, rfl⟩
    go_wp2
    go_ret
    exact ⟨rfl, rfl⟩
  · rw [cmpZ_of_gt h]
    have h2 : ¬ x < y := by omega
    go_enter Try.func40, Try.ntmps40
    go_wp2_with fail
    refine (HX.out _).mono ?_
    rintro e w1 ⟨rfl, rfl⟩
    go_wp2_with fail
    refine (HY.out _).mono ?_
    rintro e w1 ⟨rfl, rfl⟩
    go_wp2
    go_ret
    exact ⟨rfl, rfl⟩
  · subst h
    rw [cmpZ_self]
    go_enter Try.func40, Try.ntmps40
    go_wp2_with fail
    refine (HX.out _).mono ?_
    rintro e w1 ⟨rfl, rfl⟩
    go_wp2_with fail
    refine (HY.out _).mono ?_
    rintro e w1 ⟨rfl, rfl⟩
    go_wp2
    go_ret
    exact ⟨rfl, rfl⟩
theorem or2_any (p q : Int) (b : Nat) (w : World) (h : BlockAt w b 3 [.int .i64 p, .int .i64 q]) :
    Calls Try.prog 39 #[.slice (some ⟨b, 0, none⟩) 2 2] w fun e w' => e = .returned (.int .i64 (if p ≠ 0 then p else q)) ∧ w = w' := by
  have c0 := h.cell 0 _ rfl
  have c1 := h.cell 1 _ rfl
  clear h
  by_cases hp : p = 0
  · subst hp
    rw [if_neg (by simp)]
    by_cases hq : q = 0
    · subst hq
      go_enter Try.func39, Try.ntmps39
      go_wp2_with fail
      refine wp_loop_rounds 3 ?_
      rw [rounds_succ]
      go_wp2_with fail
      rw [rounds_succ]
      go_wp2_with fail
      rw [rounds_succ]
      go_wp2
      go_ret
      exact ⟨rfl, rfl⟩
    · have hq' : (q == 0) = false := by simpa using hq
      have hq'' : (q != 0) = true := by simpa using hq
      go_enter Try.func39, Try.ntmps39
      go_wp2_with fail
      refine wp_loop_rounds 2 ?_
      rw [rounds_succ]
      go_wp2_with fail
      rw [rounds_succ]
      go_wp2
      go_ret
      exact ⟨rfl, rfl⟩
  · rw [if_pos hp]
    have hq' : (p == 0) = false := by simpa using hp
    have hq'' : (p != 0) = true := by simpa using hp
    go_enter Try.func39, Try.ntmps39
    go_wp2_with fail
    refine wp_loop_rounds 1 ?_
    rw [rounds_succ]
    go_wp2
    go_ret
    exact ⟨rfl, rfl⟩
theorem rest_any (a b : Int) (w : World) (h1 : -9223372036854775808 ≤ a) (h2 : a ≤ 9223372036854775807) (hb : 1 ≤ b) (hb2 : b ≤ 9223372036854775807) :
    Calls Try.prog 38 #[.int .i64 a, .int .i64 b] w fun e w' => e = .returned (.int .u64 (a % b)) ∧ w = w' := by
  obtain ⟨q1, q2, q3, q4, q5, q6, q7, q8, q9, q10⟩ := quo_bounds a b hb h1 h2
  have b0 : ¬ b = 0 := by omega
  have hs : (a.tmod b < 0 ∧ a.tmod b + b = a % b) ∨ (0 ≤ a.tmod b ∧ a.tmod b = a % b) := by
    rcases down_split a b hb with ⟨c1, c2⟩ | ⟨c1, c2⟩
    · left
      refine ⟨c1, ?_⟩
      rw [← c2, Int.mul_sub] at q8
      omega
    · right
      rw [← c2] at q8
      omega
  clear q7 q8
  obtain ⟨R, hR⟩ : ∃ R, a % b = R := ⟨_, rfl⟩
  obtain ⟨T, hT⟩ : ∃ T, a.tmod b = T := ⟨_, rfl⟩
  rw [hR] at hs q9 q10 ⊢
  rw [hT] at hs q5 q6
  clear hR
  rcases hs with ⟨c1, c2⟩ | ⟨c1, c2⟩
  · subst c2
    have v2 : IntKind.u64.wrap (T + b) = T + b := by rw [IntKind.wrap_u64]; omega
    go_enter Try.func38, Try.ntmps38
    go_wp2
    go_ret
    exact ⟨rfl, rfl⟩
  · subst c2
    have c3 : ¬ T < 0 := by omega
    have v2 : IntKind.u64.wrap T = T := by rw [IntKind.wrap_u64]; omega
    go_enter Try.func38, Try.ntmps38
    go_wp2
    go_ret
    exact ⟨rfl, rfl⟩
theorem cmp_words (x y : Nat) : (if cmpZ ((x / 18446744073709551616 : Nat) : Int) ((y / 18446744073709551616 : Nat) : Int) ≠ 0 then cmpZ ((x / 18446744073709551616 : Nat) : Int) ((y / 18446744073709551616 : Nat) : Int) else cmpZ ((x % 18446744073709551616 : Nat) : Int) ((y % 18446744073709551616 : Nat) : Int)) = cmpZ (x : Int) (y : Int) := by
  unfold cmpZ
  repeat' split
  all_goals omega
def CmpPost (v : Int) (w : World) (e : Ending) (w' : World) : Prop := e = .returned (.int .i64 v) ∧ Below w.heap.size w w'
set_option maxHeartbeats 1000000 in
theorem cmp_any (a b c d : Int) (w : World) (h1 : -9223372036854775808 ≤ a) (h2 : a ≤ 9223372036854775807) (hb : 1 ≤ b) (hb2 : b ≤ 9223372036854775807) (h3 : -9223372036854775808 ≤ c) (h4 : c ≤ 9223372036854775807) (hd : 1 ≤ d) (hd2 : d ≤ 9223372036854775807) :
    Calls Try.prog 32 #[.int .i64 a, .int .i64 b, .int .i64 c, .int .i64 d] w (CmpPost (cmpZ (a * d) (c * b)) w) := by
  have D1 := Lib.hid (fun w => down_any a b w h1 h2 hb hb2)
  have D2 := Lib.hid (fun w => down_any c d w h3 h4 hd hd2)
  have C1 := Lib.hid (fun w => cmpI_any (a / b) (c / d) w)
  have R1 := Lib.hid (fun w => rest_any a b w h1 h2 hb hb2)
  have R2 := Lib.hid (fun w => rest_any c d w h3 h4 hd hd2)
  have b1 : ¬ b < 1 := by omega
  have d1 : ¬ d < 1 := by omega
  have hx := quo_bounds a b hb h1 h2
  have hy := quo_bounds c d hd h3 h4
  rcases (show a / b < c / d ∨ c / d < a / b ∨ a / b = c / d by omega) with h | h | h
  · rw [cmp_whole_lt hb hd h]
    rw [cmpZ_of_lt h] at C1
    clear hx hy h
    obtain ⟨x, hx⟩ : ∃ x, a / b = x := ⟨_, rfl⟩
    obtain ⟨y, hy⟩ : ∃ x, c / d = x := ⟨_, rfl⟩
    rw [hx] at D1 C1
    rw [hy] at D2 C1
    clear hx hy
    go_enter Try.func32, Try.ntmps32
    go_wp2_with fail
    refine (D1.out _).mono ?_
    rintro e w1 ⟨rfl, rfl⟩
    go_wp2_with fail
    refine (D2.out _).mono ?_
    rintro e w1 ⟨rfl, rfl⟩
    go_wp2_with fail
    refine (C1.out _).mono ?_
    rintro e w1 ⟨rfl, rfl⟩
    go_wp2
    go_ret
    exact ⟨rfl, Below.refl _ _⟩
  · rw [cmp_whole_gt hb hd h]
    rw [cmpZ_of_gt h] at C1
    clear hx hy h
    obtain ⟨x, hx⟩ : ∃ x, a / b = x := ⟨_, rfl⟩
    obtain ⟨y, hy⟩ : ∃ x, c / d = x := ⟨_, rfl⟩
    rw [hx] at D1 C1
    rw [hy] at D2 C1
    clear hx hy
    go_enter Try.func32, Try.ntmps32
    go_wp2_with fail
    refine (D1.out _).mono ?_
    rintro e w1 ⟨rfl, rfl⟩
    go_wp2_with fail
    refine (D2.out _).mono ?_
    rintro e w1 ⟨rfl, rfl⟩
    go_wp2_with fail
    refine (C1.out _).mono ?_
    rintro e w1 ⟨rfl, rfl⟩
    go_wp2
    go_ret
    exact ⟨rfl, Below.refl _ _⟩
  · rw [cmp_whole_eq h]
    rw [h, cmpZ_self] at C1
    rw [h] at D1
    obtain ⟨-, -, -, -, -, -, -, -, r0, r1⟩ := hx
    obtain ⟨-, -, -, -, -, -, -, -, r2, r3⟩ := hy
    obtain ⟨y, hy⟩ : ∃ x, c / d = x := ⟨_, rfl⟩
    rw [hy] at D1 D2 C1
    clear hy h
    obtain ⟨RA, hRA⟩ : ∃ r : Nat, a % b = (r : Int) := ⟨(a % b).toNat, by omega⟩
    obtain ⟨RC, hRC⟩ : ∃ r : Nat, c % d = (r : Int) := ⟨(c % d).toNat, by omega⟩
    obtain ⟨B, hBe⟩ : ∃ r : Nat, b = (r : Int) := ⟨b.toNat, by omega⟩
    obtain ⟨D, hDe⟩ : ∃ r : Nat, d = (r : Int) := ⟨d.toNat, by omega⟩
    have M1 := Lib.hid (fun w => Try.bits_Mul64 RA D (by omega) (by omega) w)
    have M2 := Lib.hid (fun w => Try.bits_Mul64 RC B (by omega) (by omega) w)
    have hw := cmp_words (RA * D) (RC * B)
    have he : cmpZ (a % b * d) (c % d * b) = cmpZ ((RA * D : Nat) : Int) ((RC * B : Nat) : Int) := by rw [hRA, hRC, hBe, hDe, Int.natCast_mul, Int.natCast_mul]
    rw [he, ← hw]
    rw [hRA] at R1
    rw [hRC] at R2
    rw [← hBe] at M2
    rw [← hDe] at M1
    obtain ⟨H1, hH1⟩ : ∃ z : Int, ((RA * D / 18446744073709551616 : Nat) : Int) = z := ⟨_, rfl⟩
    obtain ⟨L1, hL1⟩ : ∃ z : Int, ((RA * D % 18446744073709551616 : Nat) : Int) = z := ⟨_, rfl⟩
    obtain ⟨H2, hH2⟩ : ∃ z : Int, ((RC * B / 18446744073709551616 : Nat) : Int) = z := ⟨_, rfl⟩
    obtain ⟨L2, hL2⟩ : ∃ z : Int, ((RC * B % 18446744073709551616 : Nat) : Int) = z := ⟨_, rfl⟩
    rw [hH1, hL1] at M1
    rw [hH2, hL2] at M2
    rw [hH1, hL1, hH2, hL2]
    have K1 := Lib.hid (fun w => cmpU_any H1 H2 w)
    have K2 := Lib.hid (fun w => cmpU_any L1 L2 w)
    obtain ⟨k1, hk1⟩ : ∃ z : Int, cmpZ H1 H2 = z := ⟨_, rfl⟩
    obtain ⟨k2, hk2⟩ : ∃ z : Int, cmpZ L1 L2 = z := ⟨_, rfl⟩
    rw [hk1] at K1
    rw [hk2] at K2
    rw [hk1, hk2]
    have HO := Lib.hid (fun w => or2_any k1 k2 w.heap.size (w.alloc (.cells #[.int .i64 k1, .int .i64 k2] 3)) (BlockAt.new w _ [.int .i64 k1, .int .i64 k2]))
    obtain ⟨kk, hkk⟩ : ∃ z : Int, (if k1 ≠ 0 then k1 else k2) = z := ⟨_, rfl⟩
    rw [hkk] at HO ⊢
    have v1 : IntKind.u64.wrap b = b := by rw [IntKind.wrap_u64]; omega
    have v2 : IntKind.u64.wrap d = d := by rw [IntKind.wrap_u64]; omega
    clear hRA hRC hBe hDe hw he hH1 hL1 hH2 hL2 hk1 hk2 hkk r0 r1 r2 r3
    generalize (RA : Int) = ra at *
    generalize (RC : Int) = rc at *
    go_enter Try.func32, Try.ntmps32
    go_wp2_with fail
    refine (D1.out _).mono ?_
    rintro e w1 ⟨rfl, rfl⟩
    go_wp2_with fail
    refine (D2.out _).mono ?_
    rintro e w1 ⟨rfl, rfl⟩
    go_wp2_with fail
    refine (C1.out _).mono ?_
    rintro e w1 ⟨rfl, rfl⟩
    go_wp2_with fail
    refine (R1.out _).mono ?_
    rintro e w1 ⟨rfl, rfl⟩
    go_wp2_with fail
    refine (M1.out _).mono ?_
    rintro e w1 ⟨rfl, rfl⟩
    go_wp2_with fail
    refine (R2.out _).mono ?_
    rintro e w1 ⟨rfl, rfl⟩
    go_wp2_with fail
    refine (M2.out _).mono ?_
    rintro e w1 ⟨rfl, rfl⟩
    go_wp2_with fail
    refine (K1.out _).mono ?_
    rintro e w1 ⟨rfl, rfl⟩
    go_wp2_with fail
    refine (K2.out _).mono ?_
    rintro e w1 ⟨rfl, rfl⟩
    go_wp2_with fail
    refine (HO.out _).mono ?_
    rintro e w1 ⟨rfl, rfl⟩
    go_wp2
    go_ret
    exact ⟨rfl, (Below.refl _ _).alloc (Nat.le_refl _) _⟩
end Go.Proofs.Ytphdpdmkoogkkaa
