/- Layer 1: the walk of the reference's Part, bit by bit. -/
import Derived.Test.YtphdpdmkoogkkaaFixD
namespace Go.Proofs.Ytphdpdmkoogkkaa
open Go.RowKit
theorem bits_and_one (a : Nat) (ha : a < 9223372036854775808) : bits .and .i64 (a : Int) 1 = ((a % 2 : Nat) : Int) := by
  have h1 : (BitVec.ofInt 64 (a : Int)).toNat = a := by
    rw [BitVec.ofInt_natCast, BitVec.toNat_ofNat]; exact Nat.mod_eq_of_lt (by omega)
  have h2 : (BitVec.ofInt 64 (1 : Int)).toNat = 1 := by decide
  show IntKind.i64.wrap ((BitVec.ofInt 64 (a : Int) &&& BitVec.ofInt 64 (1 : Int)).toNat : Int) = _
  rw [BitVec.toNat_and, h1, h2, Nat.and_one_is_mod]
  exact IntWalk.i64_in _ (by omega)
/-- In integers: what the reference holds of x. -/
def PBZ (x den : Nat) (q r : Int) : Prop := 0 ≤ q ∧ 0 ≤ r ∧ PBit x den q.toNat r.toNat
theorem PBZ.zero (den : Nat) : PBZ 0 den 0 0 := ⟨by omega, by omega, PBit.zero den⟩
theorem PBZ.bounds {x den : Nat} {q r : Int} (h : PBZ x den q r) (hd : 0 < den) : 0 ≤ q ∧ q ≤ 9223372036854775807 ∧ 0 ≤ r ∧ r < (den : Int) := by
  obtain ⟨h1, h2, h3⟩ := h
  have := h3.q_le
  have := h3.r_lt hd
  omega
theorem PBZ.to {x den : Nat} {q' r' : Int} {Q R : Nat} (h : PBit x den Q R) (hq : q' = (Q : Int)) (hr : r' = (R : Int)) : PBZ x den q' r' := by
  subst hq hr
  exact ⟨by omega, by omega, by simpa using h⟩
theorem PBZ.cut {x den : Nat} {q r : Int} (h : PBZ x den q r) (hq : 4611686018427387903 < q) : PBZ x den 4611686018427387903 r := by
  obtain ⟨h1, h2, h3⟩ := h
  exact PBZ.to h3.cut (by omega) (by omega)
theorem PBZ.twice_hi {x den : Nat} {q r : Int} (hd : 0 < den) (h : PBZ x den q r) (hq : q ≤ 4611686018427387903) (hc : (den : Int) ≤ r * 2) : PBZ (2 * x) den (q * 2 + 1) (r * 2 - den) := by
  obtain ⟨h1, h2, h3⟩ := h
  exact PBZ.to ((h3.twice hd (by omega)).1 (by omega)) (by omega) (by omega)
theorem PBZ.twice_lo {x den : Nat} {q r : Int} (hd : 0 < den) (h : PBZ x den q r) (hq : q ≤ 4611686018427387903) (hc : r * 2 < den) : PBZ (2 * x) den (q * 2) (r * 2) := by
  obtain ⟨h1, h2, h3⟩ := h
  exact PBZ.to ((h3.twice hd (by omega)).2 (by omega)) (by omega) (by omega)
theorem PBZ.more_hi {x num den : Nat} {q r : Int} (hd : 0 < den) (hn : num ≤ 4611686018427387903) (h : PBZ x den q r) (hq : q ≤ 4611686018427387903) (hc : (den : Int) ≤ r + ((num % den : Nat) : Int)) : PBZ (x + num) den (q + ((num / den : Nat) : Int) + 1) (r + ((num % den : Nat) : Int) - den) := by
  obtain ⟨h1, h2, h3⟩ := h
  exact PBZ.to ((h3.more hd hn (by omega)).1 (by omega)) (by omega) (by omega)
theorem PBZ.more_lo {x num den : Nat} {q r : Int} (hd : 0 < den) (hn : num ≤ 4611686018427387903) (h : PBZ x den q r) (hq : q ≤ 4611686018427387903) (hc : r + ((num % den : Nat) : Int) < den) : PBZ (x + num) den (q + ((num / den : Nat) : Int)) (r + ((num % den : Nat) : Int)) := by
  obtain ⟨h1, h2, h3⟩ := h
  exact PBZ.to ((h3.more hd hn (by omega)).2 (by omega)) (by omega) (by omega)
theorem PBZ.bit0 {n num den i : Nat} {q r : Int} (h : PBZ (2 * (n / 2 ^ (i + 1) * num)) den q r) (hb : n / 2 ^ i % 2 = 0) : PBZ (n / 2 ^ i * num) den q r := ⟨h.1, h.2.1, h.2.2.bit0 hb⟩
theorem PBZ.bit1 {n num den i : Nat} {q r : Int} (h : PBZ (2 * (n / 2 ^ (i + 1) * num) + num) den q r) (hb : n / 2 ^ i % 2 = 1) : PBZ (n / 2 ^ i * num) den q r := ⟨h.1, h.2.1, h.2.2.bit1 hb⟩
theorem PBZ.end {n num den : Nat} {q r : Int} (h : PBZ (n / 2 ^ 0 * num) den q r) : min q 4611686018427387903 = ((partN n num den : Nat) : Int) := by
  obtain ⟨h1, h2, h3⟩ := h
  have := h3.end
  omega
set_option maxHeartbeats 4000000 in
theorem rpart_any (n num den : Nat) (w : World) (hn : n ≤ 4611686018427387903) (hk : num ≤ 4611686018427387903) (hd : 1 ≤ den) (hd1 : den ≤ 4611686018427387903) :
    Calls Try.prog 28 #[.int .i64 n, .int .i64 num, .int .i64 den] w fun e w' => e = .returned (.int .i64 ((partN n num den : Nat) : Int)) ∧ w = w' := by
  have hw0 : ((num : Int) / (den : Int)) = ((num / den : Nat) : Int) := by simp
  have hr0 : ((num : Int) % (den : Int)) = ((num % den : Nat) : Int) := by simp
  have hwl : num / den ≤ num := Nat.div_le_self _ _
  have hrl : num % den < den := Nat.mod_lt _ (by omega)
  have HK := Lib.hid hk
  have HN := Lib.hid hn
  have HD := Lib.hid hd
  have HST := Lib.hid (show PBZ (n / 2 ^ 63 * num) den 0 0 by rw [top_bits (by omega), Nat.zero_mul]; exact PBZ.zero den)
  have hMH := Lib.hid (fun X q r h hc => PBZ.more_hi (x := X) (num := num) (den := den) (q := q) (r := r) (by omega) hk h hc)
  have hML := Lib.hid (fun X q r h hc => PBZ.more_lo (x := X) (num := num) (den := den) (q := q) (r := r) (by omega) hk h hc)
  obtain ⟨W, hW⟩ : ∃ z : Int, ((num / den : Nat) : Int) = z := ⟨_, rfl⟩
  obtain ⟨S, hS⟩ : ∃ z : Int, ((num % den : Nat) : Int) = z := ⟨_, rfl⟩
  rw [hW] at hw0 hMH hML
  rw [hS] at hr0 hMH hML
  have w0 : 0 ≤ W := by rw [← hW]; exact Int.natCast_nonneg _
  have w1 : W ≤ 4611686018427387903 := by rw [← hW]; exact Int.ofNat_le.2 (Nat.le_trans hwl hk)
  have s0 : 0 ≤ S := by rw [← hS]; exact Int.natCast_nonneg _
  have s1 : S < (den : Int) := by rw [← hS]; exact Int.ofNat_lt.2 hrl
  have d0 : (1 : Int) ≤ (den : Int) := by omega
  have d1 : (den : Int) ≤ 4611686018427387903 := by omega
  have k0 : (0 : Int) ≤ (num : Int) := by omega
  have n0 : (0 : Int) ≤ (n : Int) := by omega
  have n1 : (n : Int) ≤ 4611686018427387903 := by omega
  have T1 := Lib.hid (fun x q r h hq hc => PBZ.twice_hi (x := x) (q := q) (r := r) (show 0 < den by omega) h hq hc)
  have T2 := Lib.hid (fun x q r h hq hc => PBZ.twice_lo (x := x) (q := q) (r := r) (show 0 < den by omega) h hq hc)
  have HBO := Lib.hid (fun x q r h => PBZ.bounds (x := x) (den := den) (q := q) (r := r) h (by omega))
  have HBI := Lib.hid (fun p => bits_and_one (n / 2 ^ p) (by have := Nat.div_le_self n (2 ^ p); omega))
  clear hW hS hwl hrl hn hk hd hd1
  generalize (den : Int) = d at *
  generalize (num : Int) = k at *
  have dn0 : ¬ d = 0 := by omega
  have k2 : k.tdiv d = W := by rw [Int.tdiv_eq_ediv_of_nonneg k0, hw0]
  have k3 : k.tmod d = S := by rw [Int.tmod_eq_emod_of_nonneg k0, hr0]
  go_enter Try.func28, Try.ntmps28
  go_wp2_with fail
  clear hw0 hr0 k2 k3
  go_loop [9, 10, 11] (fun q r i => ∃ (Q R I : Int) (j : Nat), q = .int .i64 Q ∧ r = .int .i64 R ∧ i = .int .i64 I ∧ I = (j : Int) - 1 ∧ I ≤ 62 ∧ Hid (PBZ (n / 2 ^ j * num) den Q R)) (fun _ _ i => (intOf i + 1).toNat)
  case atStart => exact ⟨0, 0, 62, 63, rfl, rfl, rfl, rfl, by omega, HST⟩
  case round =>
    obtain ⟨Q, R, I, j, rfl, rfl, rfl, hI, hI62, HP⟩ := hrel
    clear HST
    obtain ⟨q0, q1, r0, r1⟩ := HBO.out _ _ _ HP.out
    by_cases hlt : 0 ≤ I
    · obtain ⟨p, hp⟩ : ∃ p : Nat, j = p + 1 := ⟨j - 1, by omega⟩
      subst hp
      have hIp : I.toNat = p := by omega
      have vb0 := HBI.out p
      have HI := Lib.hid (show I - 1 = (p : Int) - 1 ∧ (I - 1 + 1).toNat < (I + 1).toNat by omega)
      have HIP := Lib.hid hIp
      rw [show ((n / 2 ^ p : Nat) : Int) = (n : Int) / 2 ^ p by push_cast; rfl, ← hIp] at vb0
      have hbit : n / 2 ^ p % 2 = 0 ∨ n / 2 ^ p % 2 = 1 := by omega
      clear hI hIp
      by_cases c1 : 4611686018427387903 < Q
      · have HP1 := Lib.hid (PBZ.cut HP.out c1)
        by_cases c2 : d ≤ R * 2
        · have PB := Lib.hid ((T1.out _ _ _ HP1.out (by omega) c2).cut (by omega))
          have hq3 : 4611686018427387903 ≤ (4611686018427387903 : Int) := by omega
          rcases hbit with hbit | hbit
          · have HF := Lib.hid (PBZ.bit0 PB.out hbit)
            have vb : bits .and .i64 ((n : Int) / 2 ^ I.toNat) 1 = 0 := by rw [HIP.out] at vb0 ⊢; rw [vb0, hbit]; rfl
            clear vb0 hbit
            go_wp2_with fail
            go_round
            case rel => exact ⟨_, _, I - 1, p, rfl, rfl, rfl, HI.out.1, by omega, HF⟩
            case measure => simpa [intOf] using HI.out.2
          · have vb : bits .and .i64 ((n : Int) / 2 ^ I.toNat) 1 = 1 := by rw [HIP.out] at vb0 ⊢; rw [vb0, hbit]; rfl
            clear vb0
            by_cases hm : d ≤ (R * 2 - d) + S
            · have HF := Lib.hid (PBZ.bit1 (hMH.out _ _ _ PB.out hq3 hm) hbit)
              clear hbit
              go_wp2_with fail
              go_round
              case rel => exact ⟨_, _, I - 1, p, rfl, rfl, rfl, HI.out.1, by omega, HF⟩
              case measure => simpa [intOf] using HI.out.2
            · have hm' : (R * 2 - d) + S < d := by omega
              have HF := Lib.hid (PBZ.bit1 (hML.out _ _ _ PB.out hq3 hm') hbit)
              clear hbit
              go_wp2_with fail
              go_round
              case rel => exact ⟨_, _, I - 1, p, rfl, rfl, rfl, HI.out.1, by omega, HF⟩
              case measure => simpa [intOf] using HI.out.2
        · have PB := Lib.hid ((T2.out _ _ _ HP1.out (by omega) (by omega)).cut (by omega))
          have hq3 : 4611686018427387903 ≤ (4611686018427387903 : Int) := by omega
          rcases hbit with hbit | hbit
          · have HF := Lib.hid (PBZ.bit0 PB.out hbit)
            have vb : bits .and .i64 ((n : Int) / 2 ^ I.toNat) 1 = 0 := by rw [HIP.out] at vb0 ⊢; rw [vb0, hbit]; rfl
            clear vb0 hbit
            go_wp2_with fail
            go_round
            case rel => exact ⟨_, _, I - 1, p, rfl, rfl, rfl, HI.out.1, by omega, HF⟩
            case measure => simpa [intOf] using HI.out.2
          · have vb : bits .and .i64 ((n : Int) / 2 ^ I.toNat) 1 = 1 := by rw [HIP.out] at vb0 ⊢; rw [vb0, hbit]; rfl
            clear vb0
            by_cases hm : d ≤ (R * 2) + S
            · have HF := Lib.hid (PBZ.bit1 (hMH.out _ _ _ PB.out hq3 hm) hbit)
              clear hbit
              go_wp2_with fail
              go_round
              case rel => exact ⟨_, _, I - 1, p, rfl, rfl, rfl, HI.out.1, by omega, HF⟩
              case measure => simpa [intOf] using HI.out.2
            · have hm' : (R * 2) + S < d := by omega
              have HF := Lib.hid (PBZ.bit1 (hML.out _ _ _ PB.out hq3 hm') hbit)
              clear hbit
              go_wp2_with fail
              go_round
              case rel => exact ⟨_, _, I - 1, p, rfl, rfl, rfl, HI.out.1, by omega, HF⟩
              case measure => simpa [intOf] using HI.out.2
      · by_cases c2 : d ≤ R * 2
        · have PA := T1.out _ _ _ HP.out (by omega) c2
          by_cases c3 : 4611686018427387903 < Q * 2 + 1
          · have PB := Lib.hid (PA.cut c3)
            clear PA
            have hq3 : 4611686018427387903 ≤ (4611686018427387903 : Int) := by omega
            rcases hbit with hbit | hbit
            · have HF := Lib.hid (PBZ.bit0 PB.out hbit)
              have vb : bits .and .i64 ((n : Int) / 2 ^ I.toNat) 1 = 0 := by rw [HIP.out] at vb0 ⊢; rw [vb0, hbit]; rfl
              clear vb0 hbit
              go_wp2_with fail
              go_round
              case rel => exact ⟨_, _, I - 1, p, rfl, rfl, rfl, HI.out.1, by omega, HF⟩
              case measure => simpa [intOf] using HI.out.2
            · have vb : bits .and .i64 ((n : Int) / 2 ^ I.toNat) 1 = 1 := by rw [HIP.out] at vb0 ⊢; rw [vb0, hbit]; rfl
              clear vb0
              by_cases hm : d ≤ (R * 2 - d) + S
              · have HF := Lib.hid (PBZ.bit1 (hMH.out _ _ _ PB.out hq3 hm) hbit)
                clear hbit
                go_wp2_with fail
                go_round
                case rel => exact ⟨_, _, I - 1, p, rfl, rfl, rfl, HI.out.1, by omega, HF⟩
                case measure => simpa [intOf] using HI.out.2
              · have hm' : (R * 2 - d) + S < d := by omega
                have HF := Lib.hid (PBZ.bit1 (hML.out _ _ _ PB.out hq3 hm') hbit)
                clear hbit
                go_wp2_with fail
                go_round
                case rel => exact ⟨_, _, I - 1, p, rfl, rfl, rfl, HI.out.1, by omega, HF⟩
                case measure => simpa [intOf] using HI.out.2
          · have PB := Lib.hid PA
            clear PA
            have hq3 : (Q * 2 + 1) ≤ (4611686018427387903 : Int) := by omega
            rcases hbit with hbit | hbit
            · have HF := Lib.hid (PBZ.bit0 PB.out hbit)
              have vb : bits .and .i64 ((n : Int) / 2 ^ I.toNat) 1 = 0 := by rw [HIP.out] at vb0 ⊢; rw [vb0, hbit]; rfl
              clear vb0 hbit
              go_wp2_with fail
              go_round
              case rel => exact ⟨_, _, I - 1, p, rfl, rfl, rfl, HI.out.1, by omega, HF⟩
              case measure => simpa [intOf] using HI.out.2
            · have vb : bits .and .i64 ((n : Int) / 2 ^ I.toNat) 1 = 1 := by rw [HIP.out] at vb0 ⊢; rw [vb0, hbit]; rfl
              clear vb0
              by_cases hm : d ≤ (R * 2 - d) + S
              · have HF := Lib.hid (PBZ.bit1 (hMH.out _ _ _ PB.out hq3 hm) hbit)
                clear hbit
                go_wp2_with fail
                go_round
                case rel => exact ⟨_, _, I - 1, p, rfl, rfl, rfl, HI.out.1, by omega, HF⟩
                case measure => simpa [intOf] using HI.out.2
              · have hm' : (R * 2 - d) + S < d := by omega
                have HF := Lib.hid (PBZ.bit1 (hML.out _ _ _ PB.out hq3 hm') hbit)
                clear hbit
                go_wp2_with fail
                go_round
                case rel => exact ⟨_, _, I - 1, p, rfl, rfl, rfl, HI.out.1, by omega, HF⟩
                case measure => simpa [intOf] using HI.out.2
        · have PA := T2.out _ _ _ HP.out (by omega) (by omega)
          by_cases c3 : 4611686018427387903 < Q * 2
          · have PB := Lib.hid (PA.cut c3)
            clear PA
            have hq3 : 4611686018427387903 ≤ (4611686018427387903 : Int) := by omega
            rcases hbit with hbit | hbit
            · have HF := Lib.hid (PBZ.bit0 PB.out hbit)
              have vb : bits .and .i64 ((n : Int) / 2 ^ I.toNat) 1 = 0 := by rw [HIP.out] at vb0 ⊢; rw [vb0, hbit]; rfl
              clear vb0 hbit
              go_wp2_with fail
              go_round
              case rel => exact ⟨_, _, I - 1, p, rfl, rfl, rfl, HI.out.1, by omega, HF⟩
              case measure => simpa [intOf] using HI.out.2
            · have vb : bits .and .i64 ((n : Int) / 2 ^ I.toNat) 1 = 1 := by rw [HIP.out] at vb0 ⊢; rw [vb0, hbit]; rfl
              clear vb0
              by_cases hm : d ≤ (R * 2) + S
              · have HF := Lib.hid (PBZ.bit1 (hMH.out _ _ _ PB.out hq3 hm) hbit)
                clear hbit
                go_wp2_with fail
                go_round
                case rel => exact ⟨_, _, I - 1, p, rfl, rfl, rfl, HI.out.1, by omega, HF⟩
                case measure => simpa [intOf] using HI.out.2
              · have hm' : (R * 2) + S < d := by omega
                have HF := Lib.hid (PBZ.bit1 (hML.out _ _ _ PB.out hq3 hm') hbit)
                clear hbit
                go_wp2_with fail
                go_round
                case rel => exact ⟨_, _, I - 1, p, rfl, rfl, rfl, HI.out.1, by omega, HF⟩
                case measure => simpa [intOf] using HI.out.2
          · have PB := Lib.hid PA
            clear PA
            have hq3 : (Q * 2) ≤ (4611686018427387903 : Int) := by omega
            rcases hbit with hbit | hbit
            · have HF := Lib.hid (PBZ.bit0 PB.out hbit)
              have vb : bits .and .i64 ((n : Int) / 2 ^ I.toNat) 1 = 0 := by rw [HIP.out] at vb0 ⊢; rw [vb0, hbit]; rfl
              clear vb0 hbit
              go_wp2_with fail
              go_round
              case rel => exact ⟨_, _, I - 1, p, rfl, rfl, rfl, HI.out.1, by omega, HF⟩
              case measure => simpa [intOf] using HI.out.2
            · have vb : bits .and .i64 ((n : Int) / 2 ^ I.toNat) 1 = 1 := by rw [HIP.out] at vb0 ⊢; rw [vb0, hbit]; rfl
              clear vb0
              by_cases hm : d ≤ (R * 2) + S
              · have HF := Lib.hid (PBZ.bit1 (hMH.out _ _ _ PB.out hq3 hm) hbit)
                clear hbit
                go_wp2_with fail
                go_round
                case rel => exact ⟨_, _, I - 1, p, rfl, rfl, rfl, HI.out.1, by omega, HF⟩
                case measure => simpa [intOf] using HI.out.2
              · have hm' : (R * 2) + S < d := by omega
                have HF := Lib.hid (PBZ.bit1 (hML.out _ _ _ PB.out hq3 hm') hbit)
                clear hbit
                go_wp2_with fail
                go_round
                case rel => exact ⟨_, _, I - 1, p, rfl, rfl, rfl, HI.out.1, by omega, HF⟩
                case measure => simpa [intOf] using HI.out.2
    · obtain rfl : j = 0 := by omega
      have he := HP.out.end
      obtain ⟨V, hV⟩ : ∃ v, min Q 4611686018427387903 = v := ⟨_, rfl⟩
      have HV := Lib.hid (show V = ((partN n num den : Nat) : Int) by rw [← hV]; exact he)
      have HV2 := Lib.hid hV
      clear he hI hV
      go_wp2_with fail
      rw [show min Q 4611686018427387903 = V from HV2.out]
      go_wp2
      go_ret
      exact ⟨by rw [← HV.out]; rfl, rfl⟩
end Go.Proofs.Ytphdpdmkoogkkaa
