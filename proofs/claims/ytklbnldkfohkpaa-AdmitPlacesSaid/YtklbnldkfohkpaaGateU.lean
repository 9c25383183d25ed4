/- Layer 23: the walk of AdmitPlaces. -/
import Derived.Test.YtklbnldkfohkpaaGateT
namespace Go.Proofs.Ytklbnldkfohkpaa
open Go.RowKit
def PlL (base : Nat) (w2 wr : World) (gb pb : Nat) (S : List Nat) (M lo hi : Int) (j : Nat) (now E : Int) : Prop := ∃ g us ws os, PlR base w2 wr gb pb S M lo hi g us ws os j now E
set_option maxRecDepth 100000 in
set_option maxHeartbeats 4000000 in
theorem places_walk (n0 m0 : Int) (v : Value) (zs : List Int) (w : World) (hn1 : -9223372036854775808 ≤ n0) (hn2 : n0 ≤ 9223372036854775807) (hm1 : -9223372036854775808 ≤ m0) (hm2 : m0 ≤ 9223372036854775807) (h : IntsIn w v zs) :
    Calls Try.prog 5 #[.int .i64 n0, .int .i64 m0, v] w (TruePost w) := by
  have CB := Lib.hid (fun w => between_any n0 w hn1 hn2)
  have CM := Lib.hid (fun w => around_any m0 6 w hm1 hm2 (by omega))
  have a0 := around_nonneg m0 6 (by omega)
  have a1 := around_lt m0 6 (by omega)
  obtain ⟨l1, l2, l3, l4⟩ := low_facts n0
  obtain ⟨lo, hlo⟩ : ∃ k : Int, lowOf n0 = k := ⟨_, rfl⟩
  obtain ⟨hi, hhi⟩ : ∃ k : Int, highOf n0 = k := ⟨_, rfl⟩
  obtain ⟨M, hM⟩ : ∃ k : Int, around m0 6 = k := ⟨_, rfl⟩
  rw [hlo, hhi] at CB l2
  rw [hlo] at l1 l4
  rw [hhi] at l3
  rw [hM] at CM a0 a1
  have CN := Lib.hid (newGate_any lo hi M w.heap.size w (Nat.le_refl _))
  have HST0 := Lib.hid (start_st l1 l2 (show hi ≤ 1000 by omega) a0 (show M ≤ 1000 by omega))
  have HF := Lib.hid (And.intro (And.intro l1 l2) (And.intro l3 (And.intro a0 a1)))
  have HIN := Lib.hid h
  clear hlo hhi hM hn1 hn2 hm1 hm2 l1 l2 l3 l4 a0 a1 h
  go_enter Try.func5, Try.ntmps5
  go_wp2_with fail
  refine (CB.out _).mono ?_
  rintro e w' ⟨rfl, rfl⟩
  go_wp2_with fail
  refine (CM.out _).mono ?_
  rintro e w' ⟨rfl, rfl⟩
  go_wp2_with fail
  refine CN.out.mono ?_
  rintro e w1 ⟨gb, rfl, hg, hst, hgb⟩
  have hp1 := hg.noPlaces
  have hst1 : QStep w.heap.size [] w (w1.alloc (.cells #[.slice none 0 0, .slice none 0 0, .slice none 0 0] 45)) := hst.trans (hg.step0 (Upd.alloc [] _ _))
  have HP1 := Lib.hid hp1
  have HS1 := Lib.hid hst1
  clear hg hst hgb CN CB CM hp1 hst1
  go_upto_region 7 with fail
  obtain ⟨W1, hW1⟩ : ∃ W1, w1.alloc (.cells #[.slice none 0 0, .slice none 0 0, .slice none 0 0] 45) = W1 := ⟨_, rfl⟩
  obtain ⟨pb, hpb⟩ : ∃ pb, w1.heap.size = pb := ⟨_, rfl⟩
  rw [hW1, hpb] at HP1
  rw [hW1] at HS1
  rw [hW1, hpb]
  clear hW1 hpb
  have CA := Lib.hid (acts_any v zs W1 (HIN.out.keep (Upd.ofBelow HS1.out.below) (by simp)))
  go_wp2_with fail
  refine CA.out.mono ?_
  rintro e w2 ⟨va, l, rfl, hacts, hbel, hl40, hok⟩
  obtain ⟨ao, acap, rfl⟩ := newActs hacts
  have hp2 := HP1.out.news (Upd.ofBelow hbel) (.slice ao l.length acap) (fun k hk => hacts.lt k hk)
  have hst2 : Below w.heap.size w w2 := HS1.out.below.trans (hbel.mono HS1.out.size)
  obtain ⟨S, hS⟩ : ∃ S, (Value.slice ao l.length acap).ownBlock.toList ++ [] = S := ⟨_, rfl⟩
  rw [hS] at hp2
  have HP2 : Hid (PlL w.heap.size w2 w2 gb pb S M lo hi 0 0 0) := Lib.hid ⟨_, _, _, _, hp2, HST0.out, rfl, rfl, rfl, QStep.refl _ _ _, by omega⟩
  have HBW := Lib.hid hst2
  have HSA : Hid (∀ g, ao = some ⟨g, 0, none⟩ → g ∈ S) := Lib.hid (fun g hg => by rw [← hS, hg]; simp [Value.ownBlock])
  have HOK := Lib.hid hok
  have HACTS := Lib.hid hacts
  obtain ⟨N, hN⟩ : ∃ N, l.length = N := ⟨_, rfl⟩
  have HN := Lib.hid hN
  rw [hN] at hl40 ⊢
  have h40 : (N : Int) ≤ 40 := by omega
  have hN0 : (0 : Int) ≤ N := by omega
  clear hp2 hst2 hS hacts hok hbel HP1 HS1 CA HST0 HIN hN hl40
  go_wp2_with fail
  go_loopw [13, 14, 15] (fun now E i wr => ∃ (j : Nat) (t e : Int), j ≤ N ∧ now = .int .i64 t ∧ E = .int .i64 e ∧ i = .int .i64 j ∧ Hid (PlL w.heap.size w2 wr gb pb S M lo hi j t e)) (fun _ _ i _ => N - (intOf i).toNat)
  case atStart => exact ⟨0, 0, 0, by omega, rfl, rfl, rfl, HP2⟩
  case round =>
    obtain ⟨j, t, e, hj, rfl, rfl, rfl, HP⟩ := hrel
    clear HP2
    by_cases hlt : j < N
    · obtain ⟨a, ha⟩ : ∃ a, l[j]? = some a := ⟨l[j]'(by rw [HN.out]; exact hlt), by simp [HN.out, hlt]⟩
      have hao := HOK.out a (List.mem_of_getElem? ha)
      obtain ⟨g, us, ws, os, hpl⟩ := HP.out
      obtain ⟨gA, rfl, hcell⟩ : ∃ gA, ao = some ⟨gA, 0, none⟩ ∧ ∀ (c : Nat) (u : Value), a.cells[c]? = some u → wr.cell? ⟨gA, j * 7 + c, none⟩ = some u := by
        rcases HACTS.out.read with ⟨h0, -⟩ | ⟨gA, c2, hv, -, hlt, -, -, hc⟩
        · rw [h0] at ha; simp at ha
        · cases hv
          refine ⟨gA, rfl, fun c u hu => ?_⟩
          rw [World.cell?_of_block (hpl.q.same gA (HSA.out gA rfl))]
          exact hc j a ha c u hu
      have x0 := hcell 0 _ rfl
      have x1 := hcell 1 _ rfl
      have x2 := hcell 2 _ rfl
      have x3 := hcell 3 _ rfl
      have x4 := hcell 4 _ rfl
      have x5 := hcell 5 _ rfl
      have x6 := hcell 6 _ rfl
      rw [Nat.add_zero] at x0
      have HPL := Lib.hid hpl
      have HAO := Lib.hid hao
      have hnow := hpl.now
      have hlat := hao.later
      have hee := hpl.st.e
      have he0 : 0 ≤ e := by have := hpl.st.len; omega
      have q0 : (0 : Int) ≤ j := by omega
      have q1 : (j : Int) < N := by omega
      have ew := IntWalk.i64_in (t + a.later) (by omega)
      have ew2 := IntWalk.i64_in (1 + (j : Int)) (by omega)
      have ew3 := IntWalk.i64_in (e + 1) (by omega)
      have HJ := Lib.hid (And.intro hlt hnow)
      clear hpl hao ha hcell hnow hlt
      obtain ⟨al, ad, ab, ap, af, at', aw⟩ := a
      dsimp only at x0 x1 x2 x3 x4 x5 x6 ew hlat
      obtain ⟨B, hB⟩ : ∃ B, decide (ad = 0) = B := ⟨_, rfl⟩
      have HBB := Lib.hid hB
      clear hB
      go_upto_region 14 with fail
      obtain ⟨d, hd⟩ : ∃ d : Int, (if ad = 0 then 1 else 0) = d := ⟨_, rfl⟩
      have hd01 : 0 ≤ d ∧ d ≤ 1 := by rw [← hd]; split <;> omega
      have HD := Lib.hid (And.intro hd hd01)
      clear hd hd01
      go_cut [51] (fun c wx => c = .bool B ∧ wx = wr)
      case first =>
        go_wp2_with fail
        go_meet
        exact ⟨by rw [← HBB.out]; rfl, rfl⟩
      case rest =>
        obtain ⟨rfl, rfl⟩ := hcut
        go_step
        go_cut [14] (fun E wy => E = .int .i64 (e + d) ∧ wy = wc)
        case first =>
          cases B with
          | false =>
            have hd0 : d = 0 := by rw [← HD.out.1, if_neg (by simpa using HBB.out)]
            subst hd0
            go_wp2_with fail
            go_meet
            exact ⟨by rw [Int.add_zero], rfl⟩
          | true =>
            have hd0 : d = 1 := by rw [← HD.out.1, if_pos (by simpa using HBB.out)]
            subst hd0
            go_wp2_with fail
            go_meet
            exact ⟨rfl, rfl⟩
        case rest =>
          obtain ⟨rfl, rfl⟩ := hcut
          clear HBB
          have hlim := if_lim (g := g) (P := ad = 1 ∧ (j : Int) + 1 - ab ∈ us) (t + al) us.length at' aw
          have ca := act_any w.heap.size gb g pb us ws os S ⟨al, ad, ab, ap, af, at', aw⟩ j (t + al) e _ HPL.out.p HPL.out.st (by omega) (by omega) (by have := HJ.out; omega) (by have := HJ.out; omega) HAO.out
          dsimp only at ca
          rw [HD.out.1] at ca
          obtain ⟨L, hL⟩ : ∃ L, (if ad = 1 ∧ (j : Int) + 1 - ab ∈ us then g.lim.done (t + al) us.length at' aw else g.lim) = L := ⟨_, rfl⟩
          rw [hL] at ca hlim
          rw [Int.add_comm (j : Int) 1] at ca
          unfold AcT.val AcT.cells at ca
          dsimp only at ca
          have CA := Lib.hid ca
          have HLL := Lib.hid hlim
          clear ca hlim hL
          go_wp2_with fail
          refine CA.out.mono ?_
          rintro e3 w3 hpost
          obtain ⟨rfl, g2, us2, ws2, os2, hpl2, -⟩ := HPL.out.act HAO.out (by omega) hpost HLL.out
          dsimp only at hpl2
          have HP2 := Lib.hid hpl2
          clear hpost hpl2 CA HLL HPL HP x0 x1 x2 x3 x4 x5 x6
          have ewE := IntWalk.i64_in (e + d) (by have := HD.out; omega)
          go_upto_region 18 with fail
          go_cut [103] (fun c wx => c = .bool false ∧ Hid (PlR w.heap.size w2 wx gb pb S M lo hi g2 us2 ws2 os2 (j + 1) (t + al) (e + d)))
          case first =>
            have hp2 := HP2.out.p
            have hst2 := HP2.out.st
            have CU := Lib.hid (fun n => under_p w.heap.size gb g2 pb us2 ws2 os2 S (w3.drewN n) (hp2.next (Upd.drewN [] _ _)))
            have CW := Lib.hid (fun n => waiting_p w.heap.size gb g2 pb us2 ws2 os2 S (w3.drewN n) (hp2.next (Upd.drewN [] _ _)))
            rw [hst2.pi.u] at CU
            rw [← hst2.pi.wn] at CW
            have hsum := hst2.len
            obtain ⟨v0, v1, v2, hpv, hps, hvs, hcl⟩ := hp2.open
            have h0 : OffInts w.heap.size w3 v0 us2 := hpv.own 0 (by omega)
            have h1 : OffInts w.heap.size w3 v1 ws2 := hpv.own 1 (by omega)
            have h2 : OffInts w.heap.size w3 v2 os2 := hpv.own 2 (by omega)
            obtain ⟨A0, P0, rfl⟩ := h0.len
            obtain ⟨A1, P1, rfl⟩ := h1.len
            obtain ⟨A2, P2, rfl⟩ := h2.len
            have c0 := hpv.blk.cell 0 _ rfl
            have c1 := hpv.blk.cell 1 _ rfl
            have c2 := hpv.blk.cell 2 _ rfl
            simp only [three] at c0 c1 c2
            obtain ⟨K0, hK0⟩ : ∃ K0, us2.length = K0 := ⟨_, rfl⟩
            obtain ⟨K1, hK1⟩ : ∃ K1, ws2.length = K1 := ⟨_, rfl⟩
            obtain ⟨K2, hK2⟩ : ∃ K2, os2.length = K2 := ⟨_, rfl⟩
            rw [hK0] at CU hsum c0
            rw [hK1] at CW hsum c1
            rw [hK2] at hsum c2
            have ewAB := IntWalk.i64_in ((K0 : Int) + K1) (by have := HD.out; omega)
            clear hpv hps hvs hcl h0 h1 h2 hst2 hp2 hK0 hK1 hK2
            go_quiet (first | (go_at_call 15; exact quietSame (CU.out _)) | (go_at_call 19; exact quietSame (CW.out _)))
            go_wp2_with fail
            go_meet
            exact ⟨rfl, HP2.out.next (Upd.drewN [] _ _)⟩
          case rest =>
            obtain ⟨rfl, HQ⟩ := hcut
            have CU := Lib.hid (under_p w.heap.size gb g2 pb us2 ws2 os2 S _ HQ.out.p)
            have CW := Lib.hid (waiting_p w.heap.size gb g2 pb us2 ws2 os2 S _ HQ.out.p)
            have CL := Lib.hid (limit_p w.heap.size gb g2 pb us2 ws2 os2 S _ HQ.out.p)
            have hst2 := HQ.out.st
            rw [hst2.pi.u] at CU
            rw [← hst2.pi.wn] at CW
            have b1 := hst2.pi.hi
            have b2 := hst2.pi.le
            rw [← hst2.pi.wn] at b2
            have b3 := hst2.pi.ok.lim.l1
            have b4 := hst2.pi.ok.lim.l2
            have b5 : (us2.length : Int) < g2.lim.lim → (ws2.length : Int) = 0 := fun hh => by
              have := hst2.full (by rw [hst2.pi.u]; exact hh)
              rw [hst2.pi.wn]; exact this
            rw [HQ.out.high] at b1 b4
            rw [HQ.out.most] at b2
            rw [HQ.out.low] at b3
            obtain ⟨K0, hK0⟩ : ∃ K0 : Int, (us2.length : Int) = K0 := ⟨_, rfl⟩
            obtain ⟨K1, hK1⟩ : ∃ K1 : Int, (ws2.length : Int) = K1 := ⟨_, rfl⟩
            obtain ⟨L2, hL2⟩ : ∃ L2, g2.lim.lim = L2 := ⟨_, rfl⟩
            rw [hK0] at CU b1 b5
            rw [hK1] at CW b2 b5
            rw [hL2] at CL b3 b4 b5
            clear hst2 hK0 hK1 hL2 HP2
            have n1 : ¬ hi < K0 := by omega
            have n2 : ¬ M < K1 := by omega
            have n3 : ¬ L2 < lo := by omega
            have n4 : ¬ hi < L2 := by omega
            by_cases hu : K0 < L2
            · have hk1 := b5 hu
              subst hk1
              clear b1 b2 b3 b4 b5
              go_wp2_with fail
              refine CU.out.mono ?_
              rintro e4 w' ⟨rfl, rfl⟩
              go_wp2_with fail
              refine CW.out.mono ?_
              rintro e4 w' ⟨rfl, rfl⟩
              go_wp2_with fail
              refine CL.out.mono ?_
              rintro e4 w' ⟨rfl, rfl⟩
              go_wp2_with fail
              refine CL.out.mono ?_
              rintro e4 w' ⟨rfl, rfl⟩
              go_wp2_with fail
              refine CU.out.mono ?_
              rintro e4 w' ⟨rfl, rfl⟩
              go_wp2_with fail
              refine CL.out.mono ?_
              rintro e4 w' ⟨rfl, rfl⟩
              go_wp2_with fail
              refine CW.out.mono ?_
              rintro e4 w' ⟨rfl, rfl⟩
              go_wp2_with fail
              go_roundw
              case rel => exact ⟨j + 1, t + al, e + d, by have := HJ.out; omega, rfl, rfl, by go_num, Lib.hid ⟨_, _, _, _, HQ.out⟩⟩
              case measure => have := HJ.out; simp [intOf] <;> omega
            · clear b1 b2 b3 b4 b5
              go_wp2_with fail
              refine CU.out.mono ?_
              rintro e4 w' ⟨rfl, rfl⟩
              go_wp2_with fail
              refine CW.out.mono ?_
              rintro e4 w' ⟨rfl, rfl⟩
              go_wp2_with fail
              refine CL.out.mono ?_
              rintro e4 w' ⟨rfl, rfl⟩
              go_wp2_with fail
              refine CL.out.mono ?_
              rintro e4 w' ⟨rfl, rfl⟩
              go_wp2_with fail
              refine CU.out.mono ?_
              rintro e4 w' ⟨rfl, rfl⟩
              go_wp2_with fail
              refine CL.out.mono ?_
              rintro e4 w' ⟨rfl, rfl⟩
              go_wp2_with fail
              go_roundw
              case rel => exact ⟨j + 1, t + al, e + d, by have := HJ.out; omega, rfl, rfl, by go_num, Lib.hid ⟨_, _, _, _, HQ.out⟩⟩
              case measure => have := HJ.out; simp [intOf] <;> omega
    · obtain rfl : j = N := by omega
      go_wp2_with fail
      refine (lives_any _).mono ?_
      rintro e2 w9 ⟨rfl, hb9⟩
      obtain ⟨g, us, ws, os, hpl⟩ := HP.out
      have HE := Lib.hid ((HBW.out.trans hpl.q.below).trans (hb9.mono (Nat.le_trans HBW.out.size hpl.q.size)))
      clear hb9 hpl
      go_wp2_with fail
      go_ret
      exact ⟨rfl, HE.out⟩
end Go.Proofs.Ytklbnldkfohkpaa
