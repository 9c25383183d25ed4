/- Layer 1: the walk of the reference's Far. -/
import Derived.Test.YtphdpdmkoogkkaaFixF
import Derived.Outline
namespace Go.Proofs.Ytphdpdmkoogkkaa
open Go.RowKit
set_option maxHeartbeats 1000000 in
theorem rfar_any (g a : Int) (v : Value) (ps : List (Int × Int)) (t : Int) (w : World) (hga : PairOk (g, a)) (hps : PairsIn w v ps) (ht0 : 0 ≤ t) (ht1 : t ≤ 1000) :
    Calls Try.prog 18 #[.int .i64 g, .int .i64 a, v, .int .i64 t] w fun e w' => e = .returned (.bool (farB (shareZ g a) t (shares ps))) ∧ ∃ n, w' = w.drewN n := by
  have hps0 := hps
  obtain ⟨sa, cap, rfl, hlen, hok, -⟩ := hps0
  have HPS := Lib.hid hps
  have HOK := Lib.hid hok
  have hll : (ps.length : Int) ≤ 20 := by omega
  obtain ⟨n, hn⟩ : ∃ n, ps.length = n := ⟨_, rfl⟩
  have HN := Lib.hid hn
  rw [hn] at hll
  rw [hn]
  have HSL := Lib.hid (show (shares ps).length = n by simp [shares, hn])
  obtain ⟨FB, hFB⟩ : ∃ f, farB (shareZ g a) t (shares ps) = f := ⟨_, rfl⟩
  have HFB := Lib.hid hFB
  rw [hFB]
  clear hFB hps hok hlen hn
  have HST := Lib.hid (Sums.start (shares ps))
  go_enter Try.func18, Try.ntmps18
  go_wp2_with fail
  go_loopw [10, 11] (fun s i wr => ∃ (S Q : Int) (j m : Nat), j ≤ n ∧ s = .int .i64 S ∧ i = .int .i64 j ∧ Hid (Sums (shares ps) j S Q) ∧ wr = w.drewN m) (fun _ i _ => n - (intOf i).toNat)
  case atStart => exact ⟨0, 0, 0, 0, by omega, rfl, rfl, HST, rfl⟩
  case round =>
    obtain ⟨S, Q, j, m, hj, rfl, rfl, HS, rfl⟩ := hrel
    have s0 := HS.out.s0
    have s1 := HS.out.s1
    by_cases hlt : j < n
    · obtain ⟨p, hp⟩ : ∃ p, ps[j]? = some p := ⟨ps[j]'(by rw [HN.out]; exact hlt), by simp⟩
      obtain ⟨b, off, rfl, c0, c1⟩ := (HPS.out.keep (Upd.drewN [] w m) (by simp)).cells hp
      obtain ⟨g0, g1, a0, a1⟩ := HOK.out p (List.mem_of_getElem? hp)
      have hx := share_bounds g0 g1 a0
      have HNX := Lib.hid (HS.out.next (x := shareZ p.1 p.2) (by simp [shares, hp]) hx.1 hx.2)
      obtain ⟨pg, pa⟩ := p
      dsimp only at *
      have HSH := Lib.hid (fun w => rshare_any pg pa w g0 g1 a0 (by omega))
      obtain ⟨x, hxe⟩ : ∃ x, shareZ pg pa = x := ⟨_, rfl⟩
      rw [hxe] at hx HNX HSH
      obtain ⟨x0, x1⟩ := hx
      have v1 : IntKind.i64.wrap (S + x) = S + x := IntWalk.i64_in _ (by omega)
      have j0 : (0 : Int) ≤ j := by omega
      have j1 : (j : Int) < n := by omega
      clear hp hxe
      obtain ⟨w1, hw1⟩ : ∃ w1, w.drewN m = w1 := ⟨_, rfl⟩
      have HW1 := Lib.hid hw1
      rw [hw1] at c0 c1 ⊢
      clear hw1
      go_wp2_with fail
      go_quiet ((go_at_call 19; exact quietSame (HSH.out _)))
      go_wp2_with fail
      go_roundw
      case rel => exact ⟨S + x, _, j + 1, _, by omega, rfl, by go_num, HNX, by rw [← HW1.out, World.drewN_drewN]⟩
      case measure => simp [intOf] <;> omega
    · obtain rfl : j = n := by omega
      have HSE := Lib.hid (HS.out.end HSL.out.symm)
      obtain ⟨x0, x1⟩ := share_bounds hga.g0 hga.g1 hga.a0
      have HSH := Lib.hid (fun w => rshare_any g a w hga.g0 hga.g1 hga.a0 (by have := hga.a1; dsimp only at this; omega))
      dsimp only at x0 x1
      have hgap : gapZ (shares ps) (shareZ g a) = S - (j : Int) * shareZ g a := by unfold gapZ; rw [← HSE.out.1, HSL.out]
      have hfb := HFB.out
      unfold farB at hfb
      rw [hgap] at hfb
      obtain ⟨x, hx⟩ : ∃ x, shareZ g a = x := ⟨_, rfl⟩
      rw [hx] at x0 x1 HSH hfb
      have b1 : (j : Int) * x ≤ 20 * 1000 := Int.mul_le_mul hll x1 x0 (by omega)
      have b2 : 0 ≤ (j : Int) * x := Int.mul_nonneg (by omega) x0
      obtain ⟨MI, hMI⟩ : ∃ m, (j : Int) * x = m := ⟨_, rfl⟩
      rw [hMI] at b1 b2 hfb
      have v1 : IntKind.i64.wrap ((j : Int) * x) = MI := by rw [hMI]; exact IntWalk.i64_in _ (by omega)
      have HFB2 := Lib.hid hfb
      clear hgap hfb hx hMI hlt
      go_wp2_with fail
      refine (HSH.out _).mono ?_
      rintro e w1 ⟨rfl, rfl⟩
      go_wp2_with fail
      clear v1
      go_loopw [13, 14] (fun q i wr => ∃ (S' Q' : Int) (k m' : Nat), k ≤ j ∧ q = .int .i64 Q' ∧ i = .int .i64 k ∧ Hid (Sums (shares ps) k S' Q') ∧ wr = w.drewN m') (fun _ i _ => j - (intOf i).toNat)
      case atStart => exact ⟨0, 0, 0, m, by omega, rfl, rfl, HST, rfl⟩
      case round =>
        obtain ⟨S', Q', k, m', hk, rfl, rfl, HS', rfl⟩ := hrel
        have u0 := HS'.out.q0
        have u1 := HS'.out.q1
        by_cases hlt : k < j
        · obtain ⟨p, hp⟩ : ∃ p, ps[k]? = some p := ⟨ps[k]'(by rw [HN.out]; exact hlt), by simp⟩
          obtain ⟨b, off, rfl, c0, c1⟩ := (HPS.out.keep (Upd.drewN [] w m') (by simp)).cells hp
          obtain ⟨g0, g1, a0, a1⟩ := HOK.out p (List.mem_of_getElem? hp)
          have hx := share_bounds g0 g1 a0
          have HNX := Lib.hid (HS'.out.next (x := shareZ p.1 p.2) (by simp [shares, hp]) hx.1 hx.2)
          obtain ⟨pg, pa⟩ := p
          dsimp only at *
          have HSH2 := Lib.hid (fun w => rshare_any pg pa w g0 g1 a0 (by omega))
          obtain ⟨y, hxe⟩ : ∃ x, shareZ pg pa = x := ⟨_, rfl⟩
          rw [hxe] at hx HNX HSH2
          obtain ⟨y0, y1⟩ := hx
          have hxx : y * y ≤ 1000 * 1000 := Int.mul_le_mul y1 y1 y0 (by omega)
          have hxx0 := sq_nonneg' y
          have v1 : IntKind.i64.wrap (y * y) = y * y := IntWalk.i64_in _ (by omega)
          obtain ⟨X, hX⟩ : ∃ X, y * y = X := ⟨_, rfl⟩
          rw [hX] at v1 HNX hxx hxx0
          have k0 : (0 : Int) ≤ k := by omega
          have k1 : (k : Int) < j := by omega
          clear hp hxe
          obtain ⟨w1, hw1⟩ : ∃ w1, w.drewN m' = w1 := ⟨_, rfl⟩
          have HW1 := Lib.hid hw1
          rw [hw1] at c0 c1 ⊢
          clear hw1
          go_wp2_with fail
          go_quiet ((go_at_call 19; exact quietSame (HSH2.out _)))
          go_wp2_with fail
          go_roundw
          case rel => exact ⟨_, Q' + X, k + 1, _, by omega, rfl, by go_num, HNX, by rw [← HW1.out, World.drewN_drewN]⟩
          case measure => simp [intOf] <;> omega
        · obtain rfl : k = j := by omega
          have e2 := (HS'.out.end HSL.out.symm).2
          have e1 := HSE.out.1
          have hvar : varZ (shares ps) = (k : Int) * Q' - S * S := by unfold varZ; rw [← e1, ← e2, HSL.out]
          have hfb := HFB2.out
          rw [hvar] at hfb
          have b3 : (k : Int) * Q' ≤ 20 * 20000000 := Int.mul_le_mul hll (by omega) u0 (by omega)
          have b4 : 0 ≤ (k : Int) * Q' := Int.mul_nonneg (by omega) u0
          have b5 : S * S ≤ 20000 * 20000 := Int.mul_le_mul (by omega) (by omega) s0 (by omega)
          have b6 := sq_nonneg' S
          have b7 : t * t ≤ 1000 * 1000 := Int.mul_le_mul ht1 ht1 ht0 (by omega)
          have b8 := sq_nonneg' t
          obtain ⟨JQ, hJQ⟩ : ∃ m, (k : Int) * Q' = m := ⟨_, rfl⟩
          obtain ⟨SS, hSS⟩ : ∃ m, S * S = m := ⟨_, rfl⟩
          obtain ⟨TT, hTT⟩ : ∃ m, t * t = m := ⟨_, rfl⟩
          rw [hJQ] at b3 b4
          rw [hSS] at b5 b6
          rw [hTT] at b7 b8
          rw [hJQ, hSS, hTT] at hfb
          have v2 : IntKind.i64.wrap ((k : Int) * Q') = JQ := by rw [hJQ]; exact IntWalk.i64_in _ (by omega)
          have v3 : IntKind.i64.wrap (S * S) = SS := by rw [hSS]; exact IntWalk.i64_in _ (by omega)
          have v4 : IntKind.i64.wrap (t * t) = TT := by rw [hTT]; exact IntWalk.i64_in _ (by omega)
          clear hvar e1 e2 hJQ hSS hTT hlt
          by_cases hk0 : k = 0
          · have hz : (k : Int) = 0 := by omega
            have hS0 : S ≤ 0 := by omega
            have hd : decide (0 < S - MI ∧ TT * (JQ - SS) < (S - MI) * (S - MI) * 100) = false := by
              rw [decide_eq_false_iff_not]; omega
            rw [hd] at hfb
            subst hfb
            have hn0 : ((k : Int) == 0) = true := by simpa using hz
            clear hd hk0 hz
            go_wp2
            go_ret
            exact ⟨rfl, _, rfl⟩
          · have hn0 : ((k : Int) == 0) = false := by simp; omega
            by_cases hm : S ≤ MI
            · have hd : decide (0 < S - MI ∧ TT * (JQ - SS) < (S - MI) * (S - MI) * 100) = false := by
                rw [decide_eq_false_iff_not]; omega
              rw [hd] at hfb
              subst hfb
              clear hd hk0
              go_wp2
              go_ret
              exact ⟨rfl, _, rfl⟩
            · have b9 : (S - MI) * (S - MI) ≤ 20000 * 20000 := Int.mul_le_mul (by omega) (by omega) (by omega) (by omega)
              have b10 := sq_nonneg' (S - MI)
              have b11 : TT * (JQ - SS) ≤ 1000000 * 400000000 := by
                rcases Int.le_total 0 (JQ - SS) with h | h
                · exact Int.mul_le_mul (by omega) (by omega) h (by omega)
                · have := Int.mul_nonneg b8 (show 0 ≤ -(JQ - SS) by omega)
                  rw [Int.mul_neg] at this; omega
              have b12 : -(1000000 * 400000000) ≤ TT * (JQ - SS) := by
                rcases Int.le_total 0 (JQ - SS) with h | h
                · have := Int.mul_nonneg b8 h; omega
                · have : TT * (-(JQ - SS)) ≤ 1000000 * 400000000 := Int.mul_le_mul (by omega) (by omega) (by omega) (by omega)
                  rw [Int.mul_neg] at this; omega
              have hd : decide (0 < S - MI ∧ TT * (JQ - SS) < (S - MI) * (S - MI) * 100) = decide (TT * (JQ - SS) < (S - MI) * (S - MI) * 100) := by
                have : 0 < S - MI := by omega
                simp only [this, true_and]
              rw [hd] at hfb
              obtain ⟨L, hL⟩ : ∃ l, (S - MI) * (S - MI) = l := ⟨_, rfl⟩
              obtain ⟨TV, hTV⟩ : ∃ l, TT * (JQ - SS) = l := ⟨_, rfl⟩
              rw [hL] at b9 b10
              rw [hTV] at b11 b12
              rw [hL, hTV] at hfb
              have v5 : IntKind.i64.wrap ((S - MI) * (S - MI)) = L := by rw [hL]; exact IntWalk.i64_in _ (by omega)
              have v6 : IntKind.i64.wrap (TT * (JQ - SS)) = TV := by rw [hTV]; exact IntWalk.i64_in _ (by omega)
              clear hL hTV hd hk0
              by_cases hfin : TV < L * 100
              · have hd : decide (TV < L * 100) = true := by simpa using hfin
                rw [hd] at hfb
                subst hfb
                go_wp2
                go_ret
                exact ⟨rfl, _, rfl⟩
              · have hd : decide (TV < L * 100) = false := by simpa using hfin
                rw [hd] at hfb
                subst hfb
                go_wp2
                go_ret
                exact ⟨rfl, _, rfl⟩
end Go.Proofs.Ytphdpdmkoogkkaa
