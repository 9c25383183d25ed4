/- Layer 1: the walk of FixChebyshev. -/
import Derived.Test.YtphdpdmkoogkkaaFixF
namespace Go.Proofs.Ytphdpdmkoogkkaa
open Go.RowKit
theorem farN_next {t : Int} {l : List Int} {k : Nat} {x : Int} (h : l[k]? = some x) : farN t l (l.take (k + 1)) = farN t l (l.take k) + (if farB x t l then 1 else 0) := by
  unfold farN
  rw [List.map_take, List.map_take]
  exact sumZ_take_succ (l := l.map (fun s => if farB s t l then 1 else 0)) (by simp [h])
theorem tops_next {l : List Int} {k : Nat} {x B : Int} (h : l[k]? = some x) (hB : ∀ i y, i < k → l[i]? = some y → y ≤ B) : ∀ i y, i < k + 1 → l[i]? = some y → y ≤ max B x := by
  intro i y hi hy
  rcases (show i < k ∨ i = k by omega) with hi | rfl
  · have := hB i y hi hy; omega
  · rw [h] at hy; cases hy; omega
theorem share_ne {x B t : Int} {l : List Int} (hf : farB x t l = true) (hB : ∀ i y, i < l.length → l[i]? = some y → y ≤ B) : x ≠ B := fun he => by
  subst he
  refine far_not_best hf (fun y hy => ?_)
  obtain ⟨i, hi, rfl⟩ := List.getElem_of_mem hy
  exact hB i _ hi (by simp [hi])
set_option maxHeartbeats 2000000 in
theorem chebyshev_walk (l : Value) (zs : List Int) (tenths : Int) (w : World) (hl : IntsIn w l zs) (h3 : -9223372036854775808 ≤ tenths) (h4 : tenths ≤ 9223372036854775807) :
    Calls Try.prog 5 #[l, .int .i64 tenths] w (TruePost w) := by
  have u0 := around_nonneg tenths 40 (by omega)
  have u1 := around_lt tenths 40 (by omega)
  have CA := Lib.hid (fun w => around_any tenths 40 w h3 h4 (by omega))
  obtain ⟨t0, ht0⟩ : ∃ k, around tenths 40 = k := ⟨_, rfl⟩
  rw [ht0] at u0 u1 CA
  obtain ⟨t, ht⟩ : ∃ k, 1 + t0 = k := ⟨_, rfl⟩
  have HT := Lib.hid ht
  have q0 : 1 ≤ t := by omega
  have q1 : t ≤ 40 := by omega
  clear ht0 ht
  have HL := Lib.hid hl
  clear hl
  go_enter Try.func5, Try.ntmps5
  go_wp2_with fail
  refine (pairs_any l zs w HL.out).mono ?_
  rintro e w1 ⟨v, rfl, hp, hb⟩
  have hp' := hp
  obtain ⟨va, vcap, rfl, hvl, hvo, -⟩ := hp'
  have HP1 := Lib.hid hp
  have HB1 := Lib.hid hb
  have HOK := Lib.hid hvo
  obtain ⟨ps, hps⟩ : ∃ ps, pairsOf zs = ps := ⟨_, rfl⟩
  rw [hps] at HP1 HOK hvl ⊢
  obtain ⟨n, hn⟩ : ∃ n, ps.length = n := ⟨_, rfl⟩
  have HN := Lib.hid hn
  have HSL := Lib.hid (show (shares ps).length = n by simp [shares, hn])
  have hll : (n : Int) ≤ 20 := by omega
  rw [hn]
  rw [hn] at HP1
  clear hp hb hvo hvl hps hn
  have ht := HT.out
  go_wp2_with fail
  refine (CA.out _).mono ?_
  rintro e w2 ⟨rfl, rfl⟩
  go_wp2_with fail
  clear ht
  have HST : Hid (∀ i y, i < 0 → (shares ps)[i]? = some y → y ≤ (0 : Int)) := Lib.hid (fun i y h => by omega)
  go_loopw [8, 9] (fun b i wr => ∃ (B : Int) (j m : Nat), j ≤ n ∧ b = .int .i64 B ∧ i = .int .i64 j ∧ Hid (∀ i y, i < j → (shares ps)[i]? = some y → y ≤ B) ∧ wr = w1.drewN m) (fun _ i _ => n - (intOf i).toNat)
  case atStart => exact ⟨0, 0, 0, by omega, rfl, rfl, HST, rfl⟩
  case round =>
    obtain ⟨B, j, m, hj, rfl, rfl, HBST, rfl⟩ := hrel
    clear HST
    by_cases hlt : j < n
    · obtain ⟨p, hp⟩ : ∃ p, ps[j]? = some p := ⟨ps[j]'(by rw [HN.out]; exact hlt), by simp⟩
      obtain ⟨b, off, rfl, c0, c1⟩ := (HP1.out.keep (Upd.drewN [] w1 m) (by simp)).cells hp
      obtain ⟨g0, g1, a0, a1⟩ := HOK.out p (List.mem_of_getElem? hp)
      have HNX := Lib.hid (tops_next (x := shareZ p.1 p.2) (by simp [shares, hp]) HBST.out)
      obtain ⟨pg, pa⟩ := p
      dsimp only at *
      have HSH := Lib.hid (fun w => rshare_any pg pa w g0 g1 a0 (by omega))
      obtain ⟨x, hxe⟩ : ∃ x, shareZ pg pa = x := ⟨_, rfl⟩
      rw [hxe] at HNX HSH
      have j0 : (0 : Int) ≤ j := by omega
      have j1 : (j : Int) < n := by omega
      clear hp hxe
      obtain ⟨w2, hw2⟩ : ∃ w2, w1.drewN m = w2 := ⟨_, rfl⟩
      have HW2 := Lib.hid hw2
      rw [hw2] at c0 c1 ⊢
      clear hw2
      go_wp2_with fail
      go_quiet ((go_at_call 19; exact quietSame (HSH.out _)))
      go_wp2_with fail
      go_roundw
      case rel => exact ⟨max B x, j + 1, _, by omega, rfl, by go_num, HNX, by rw [← HW2.out, World.drewN_drewN]⟩
      case measure => simp [intOf] <;> omega
    · obtain rfl : j = n := by omega
      have HBB := Lib.hid (HB1.out.trans (Upd.below (Upd.drewN [] w1 m) HB1.out.size (by simp)))
      have HPP := Lib.hid (HP1.out.keep (Upd.drewN [] w1 m) (by simp))
      obtain ⟨wd, hwd⟩ : ∃ w2, w1.drewN m = w2 := ⟨_, rfl⟩
      rw [hwd] at HBB HPP ⊢
      clear hwd HP1 HB1
      go_wp2_with fail
      have HST2 : Hid ((0 : Int) = farN t (shares ps) ((shares ps).take 0)) := Lib.hid (by simp [farN, sumZ])
      go_loopw [7, 10] (fun f i wr => ∃ (F : Int) (k : Nat), k ≤ j ∧ f = .int .i64 F ∧ i = .int .i64 k ∧ 0 ≤ F ∧ F ≤ k ∧ Hid (F = farN t (shares ps) ((shares ps).take k)) ∧ Hid (PairsIn wr (.slice va j vcap) ps) ∧ Hid (Below w.heap.size w wr)) (fun _ i _ => j - (intOf i).toNat)
      case atStart => exact ⟨0, 0, by omega, rfl, rfl, by omega, by omega, HST2, HPP, HBB⟩
      case round =>
        obtain ⟨F, k, hk, rfl, rfl, F0, F1, HF, HPK, HBK⟩ := hrel
        clear HST2
        by_cases hlt2 : k < j
        · obtain ⟨p, hp⟩ : ∃ p, ps[k]? = some p := ⟨ps[k]'(by rw [HN.out]; exact hlt2), by simp⟩
          obtain ⟨b, off, rfl, c0, c1⟩ := HPK.out.cells hp
          obtain ⟨g0, g1, a0, a1⟩ := HOK.out p (List.mem_of_getElem? hp)
          have hok := HOK.out p (List.mem_of_getElem? hp)
          have hxl : (shares ps)[k]? = some (shareZ p.1 p.2) := by simp [shares, hp]
          have hfn := farN_next (t := t) hxl
          have hne := fun h => share_ne (x := shareZ p.1 p.2) (t := t) (l := shares ps) h (by rw [HSL.out]; exact HBST.out)
          have hls := fun h => far_less (s := shareZ p.1 p.2) (t := t) (l := shares ps) (by intro e; rw [e] at hxl; simp at hxl) q0 h
          obtain ⟨pg, pa⟩ := p
          dsimp only at *
          have HSH := Lib.hid (fun w => rshare_any pg pa w g0 g1 a0 (by omega))
          have HF1 := Lib.hid (fun W (h : Hid (PairsIn W (.slice (some ⟨b, off, none⟩) j vcap) ps)) => far_any pg pa _ ps t W hok h.out (by omega) (by omega))
          have HF2 := Lib.hid (fun W (h : Hid (PairsIn W (.slice (some ⟨b, off, none⟩) j vcap) ps)) => far_any pg pa _ ps (t - 1) W hok h.out (by omega) (by omega))
          obtain ⟨x, hxe⟩ : ∃ x, shareZ pg pa = x := ⟨_, rfl⟩
          rw [hxe] at HSH HF1 HF2 hfn hne hls
          have k0 : (0 : Int) ≤ k := by omega
          have k1 : (k : Int) < j := by omega
          have HPK1 : Hid (PairsIn (wr.alloc (.cells #[.int .i64 pg, .int .i64 pa] 30)) (.slice (some ⟨b, off, none⟩) j vcap) ps) := Lib.hid (HPK.out.keep (Upd.alloc [] wr _) (by simp))
          have HBK1 : Hid (Below w.heap.size w (wr.alloc (.cells #[.int .i64 pg, .int .i64 pa] 30))) := Lib.hid (HBK.out.alloc HBK.out.size _)
          have HX1 : Hid (BlockAt (wr.alloc (.cells #[.int .i64 pg, .int .i64 pa] 30)) wr.heap.size 30 [.int .i64 pg, .int .i64 pa]) := Lib.hid (BlockAt.new wr _ _)
          cases hfb : farB x t (shares ps) with
          | true =>
            have hx1 : (x == B) = false := by simpa using hne hfb
            have hf2 := hls hfb
            rw [hf2] at HF2
            rw [hfb] at HF1
            rw [hfb, if_pos rfl] at hfn
            have HFN := Lib.hid hfn
            clear hfn hne hls hxl hp hxe hok hf2 hfb
            go_wp2_with fail
            refine (HF1.out _ HPK1).mono ?_
            rintro e w3 ⟨rfl, hb⟩
            have HPK2 := Lib.hid (HPK1.out.keep (Upd.ofBelow hb) (by simp))
            have HBK2 := Lib.hid (HBK1.out.trans (hb.mono HBK1.out.size))
            have hx := HX1.out.keep (Upd.ofBelow hb) (by simp)
            have d0 := hx.cell 0 _ rfl
            have d1 := hx.cell 1 _ rfl
            clear hb hx c0 c1 HPK1 HBK1 HX1
            go_wp2_with fail
            refine (HSH.out _).mono ?_
            rintro e w4 ⟨rfl, rfl⟩
            go_wp2_with fail
            refine (HF2.out _ HPK2).mono ?_
            rintro e w4 ⟨rfl, hb⟩
            have HPK3 := Lib.hid (HPK2.out.keep (Upd.ofBelow hb) (by simp))
            have HBK3 := Lib.hid (HBK2.out.trans (hb.mono HBK2.out.size))
            clear hb d0 d1
            go_wp2_with fail
            go_roundw
            case rel => exact ⟨F + 1, k + 1, by omega, by go_num, by go_num, by omega, by omega, Lib.hid (by rw [HFN.out, ← HF.out]), HPK3, HBK3⟩
            case measure => simp [intOf] <;> omega
          | false =>
            rw [hfb] at HF1
            rw [hfb, if_neg (by simp)] at hfn
            have HFN := Lib.hid hfn
            clear hfn hne hls hxl hp hxe hok hfb
            go_wp2_with fail
            refine (HF1.out _ HPK1).mono ?_
            rintro e w3 ⟨rfl, hb⟩
            have HPK2 := Lib.hid (HPK1.out.keep (Upd.ofBelow hb) (by simp))
            have HBK2 := Lib.hid (HBK1.out.trans (hb.mono HBK1.out.size))
            clear hb c0 c1 HPK1 HBK1 HX1
            go_wp2_with fail
            go_roundw
            case rel => exact ⟨F, k + 1, by omega, rfl, by go_num, by omega, by omega, Lib.hid (by rw [HFN.out, ← HF.out, Int.add_zero]), HPK2, HBK2⟩
            case measure => simp [intOf] <;> omega
        · obtain rfl : k = j := by omega
          have hch := chebyshev t (shares ps) q0
          have hF := HF.out
          rw [List.take_of_length_le (by rw [HSL.out]; exact Nat.le_refl _)] at hF
          rw [← hF, HSL.out] at hch
          have b1 : F * t ≤ 20 * 40 := Int.mul_le_mul (by omega) q1 (by omega) (by omega)
          have b2 : 0 ≤ F * t := Int.mul_nonneg F0 (by omega)
          obtain ⟨FT, hFT⟩ : ∃ f, F * t = f := ⟨_, rfl⟩
          rw [hFT] at b1 b2 hch
          have b3 : FT * t ≤ 800 * 40 := Int.mul_le_mul b1 q1 (by omega) (by omega)
          have b4 : 0 ≤ FT * t := Int.mul_nonneg b2 (by omega)
          obtain ⟨FTT, hFTT⟩ : ∃ f, FT * t = f := ⟨_, rfl⟩
          rw [hFTT] at b3 b4 hch
          have v1 : IntKind.i64.wrap (F * t) = FT := by rw [hFT]; exact IntWalk.i64_in _ (by omega)
          have v2 : IntKind.i64.wrap (FT * t) = FTT := by rw [hFTT]; exact IntWalk.i64_in _ (by omega)
          clear hF hFT hFTT hlt2 hlt
          go_wp2_with fail
          refine (lives_any _).mono ?_
          rintro e w3 ⟨rfl, hb⟩
          have HB3 := Lib.hid (HBK.out.trans (hb.mono HBK.out.size))
          clear hb
          go_wp2
          go_ret
          exact ⟨rfl, HB3.out⟩
end Go.Proofs.Ytphdpdmkoogkkaa
