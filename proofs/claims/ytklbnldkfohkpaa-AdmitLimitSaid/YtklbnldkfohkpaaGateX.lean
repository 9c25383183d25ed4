/- Layer 23: the walk of AdmitLimit. -/
import Derived.Test.YtklbnldkfohkpaaGateT
namespace Go.Proofs.Ytklbnldkfohkpaa
open Go.RowKit
theorem ActPost.sub {base gb : Nat} {g : Gt} {i : Int} {pb : Nat} {S T : List Nat} {E d : Int} {lim : Lim} {w w' : World} {e : Ending} (h : ActPost base gb g i pb S E d lim w e w') (hs : ∀ k ∈ T, k ∈ S) : ActPost base gb g i pb T E d lim w e w' := by
  obtain ⟨he, g', us', ws', os', hp, hst, hm, hl, hq⟩ := h
  exact ⟨he, g', us', ws', os', hp.sub hs, hst, hm, hl, hq.sub hs⟩
theorem QStep.lim {base : Nat} {S : List Nat} {w w' : World} (h : QStep base S w w') {b : Nat} (hb : b ∈ S) {l : Lim} (hl : LimAt w b l) : LimAt w' b l := h.block hb hl
/-- The state between two acts, and a limit that was told the same. -/
def LmL (base : Nat) (w2 wr : World) (gb pb lb : Nat) (S : List Nat) (M lo hi : Int) (j : Nat) (now : Int) : Prop := ∃ g us ws os E, PlR base w2 wr gb pb S M lo hi g us ws os j now E ∧ Placed base wr gb g pb us ws os (lb :: S) ∧ LimAt wr lb g.lim
/-- Within a round: the box of the act beside. -/
structure LmB (base : Nat) (w2 wx : World) (gb pb lb : Nat) (S : List Nat) (M lo hi : Int) (g : Gt) (us ws os : List Int) (j : Nat) (now E : Int) (A : Nat) (zs : List Value) (L : Lim) : Prop where
  r : PlR base w2 wx gb pb S M lo hi g us ws os j now E
  p : Placed base wx gb g pb us ws os (A :: lb :: S)
  box : BlockAt wx A 49 zs
  lim : LimAt wx lb L
theorem LmB.next {base : Nat} {w2 wx wy : World} {gb pb lb : Nat} {S : List Nat} {M lo hi : Int} {g : Gt} {us ws os : List Int} {j : Nat} {now E : Int} {A : Nat} {zs : List Value} {L : Lim} (h : LmB base w2 wx gb pb lb S M lo hi g us ws os j now E A zs L) (u : Upd [] wx wy) : LmB base w2 wy gb pb lb S M lo hi g us ws os j now E A zs L :=
  ⟨h.r.next u, h.p.next u, h.box.keep u (by simp), h.lim.keep u (by simp)⟩
theorem LmB.told {base : Nat} {w2 wx wy : World} {gb pb lb : Nat} {S : List Nat} {M lo hi : Int} {g : Gt} {us ws os : List Int} {j : Nat} {now E : Int} {A : Nat} {zs : List Value} {L L' : Lim} (h : LmB base w2 wx gb pb lb S M lo hi g us ws os j now E A zs L) (u : Upd [lb] wx wy) (hl : LimAt wy lb L') (hA : A ≠ lb) (hb : base ≤ lb ∧ lb ∉ S) : LmB base w2 wy gb pb lb S M lo hi g us ws os j now E A zs L' := by
  have hp := h.p.write u (by simp)
  exact ⟨⟨hp.sub (fun k hk => by simp [hk]), h.r.st, h.r.most, h.r.low, h.r.high, h.r.q.trans (QStep.upd u h.r.p.base_le (by simp; exact hb) h.r.p.lt), h.r.now⟩, hp, h.box.keep u (by simp; exact hA), hl⟩
set_option maxRecDepth 100000 in
set_option maxHeartbeats 4000000 in
theorem limit_walk (n0 m0 : Int) (v : Value) (zs : List Int) (w : World) (hn1 : -9223372036854775808 ≤ n0) (hn2 : n0 ≤ 9223372036854775807) (hm1 : -9223372036854775808 ≤ m0) (hm2 : m0 ≤ 9223372036854775807) (h : IntsIn w v zs) :
    Calls Try.prog 7 #[.int .i64 n0, .int .i64 m0, v] w (TruePost w) := by
  have CB := Lib.hid (fun w => between_any n0 w hn1 hn2)
  have CM := Lib.hid (fun w => around_any m0 6 w hm1 hm2 (by omega))
  have a0 := around_nonneg m0 6 (by omega)
  have a1 := around_lt m0 6 (by omega)
  obtain ⟨l1, l2, l3, l4⟩ := low_facts n0
  obtain ⟨lo, hlo⟩ : ∃ k : Int, lowOf n0 = k := ⟨_, rfl⟩
  obtain ⟨hi, hhi⟩ : ∃ k : Int, highOf n0 = k := ⟨_, rfl⟩
  obtain ⟨M, hM⟩ : ∃ k : Int, around m0 6 = k := ⟨_, rfl⟩
  rw [hlo, hhi] at CB l2
  rw [hlo] at l1 l4
  rw [hhi] at l3
  rw [hM] at CM a0 a1
  have CN := Lib.hid (newGate_any lo hi M w.heap.size w (Nat.le_refl _))
  have HST0 := Lib.hid (start_st l1 l2 (show hi ≤ 1000 by omega) a0 (show M ≤ 1000 by omega))
  have HF := Lib.hid (And.intro (And.intro l1 l2) (And.intro l3 (And.intro a0 a1)))
  have HIN := Lib.hid h
  clear hlo hhi hM hn1 hn2 hm1 hm2 l1 l2 l3 l4 a0 a1 h
  go_enter Try.func7, Try.ntmps7
  go_wp2_with fail
  refine (CB.out _).mono ?_
  rintro e w' ⟨rfl, rfl⟩
  go_wp2_with fail
  refine (CM.out _).mono ?_
  rintro e w' ⟨rfl, rfl⟩
  go_wp2_with fail
  refine CN.out.mono ?_
  rintro e w1 ⟨gb, rfl, hg, hst, hgb⟩
  have CL := Lib.hid (new_any lo hi w1)
  have HG := Lib.hid (And.intro hg hst)
  clear hg hst hgb CN CB CM
  go_wp2_with fail
  refine CL.out.mono ?_
  rintro e wl ⟨rfl, hl, hu⟩
  obtain ⟨lb, hlb⟩ : ∃ lb, w1.heap.size = lb := ⟨_, rfl⟩
  rw [hlb] at hl
  rw [hlb]
  have hgl := HG.out.1.new hu (z := lb) (by omega) hl.lt
  have hp1 := hgl.noPlaces
  have hst1 : QStep w.heap.size [] w (wl.alloc (.cells #[.slice none 0 0, .slice none 0 0, .slice none 0 0] 45)) := (HG.out.2.trans (HG.out.1.step0 hu)).trans ((hgl.step0 (Upd.alloc [] _ _)).sub (by simp))
  have hl1 := hl.keep (Upd.alloc [] wl (.cells #[.slice none 0 0, .slice none 0 0, .slice none 0 0] 45)) (by simp)
  have HP1 := Lib.hid hp1
  have HS1 := Lib.hid hst1
  have HL1 := Lib.hid (And.intro hl1 (show w.heap.size ≤ lb by rw [← hlb]; exact HG.out.2.size))
  clear hl hu hlb hgl hp1 hst1 hl1 HG CL
  go_upto_region 7 with fail
  obtain ⟨W1, hW1⟩ : ∃ W1, wl.alloc (.cells #[.slice none 0 0, .slice none 0 0, .slice none 0 0] 45) = W1 := ⟨_, rfl⟩
  obtain ⟨pb, hpb⟩ : ∃ pb, wl.heap.size = pb := ⟨_, rfl⟩
  rw [hW1, hpb] at HP1
  rw [hW1] at HS1 HL1
  rw [hW1, hpb]
  clear hW1 hpb
  have CA := Lib.hid (acts_any v zs W1 (HIN.out.keep (Upd.ofBelow HS1.out.below) (by simp)))
  go_wp2_with fail
  refine CA.out.mono ?_
  rintro e w2 ⟨va, l, rfl, hacts, hbel, hl40, hok⟩
  obtain ⟨ao, acap, rfl⟩ := newActs hacts
  have hp2 := HP1.out.news (Upd.ofBelow hbel) (.slice ao l.length acap) (fun k hk => hacts.lt k hk)
  have hst2 : Below w.heap.size w w2 := HS1.out.below.trans (hbel.mono HS1.out.size)
  obtain ⟨S, hS⟩ : ∃ S, (Value.slice ao l.length acap).ownBlock.toList = S := ⟨_, rfl⟩
  rw [hS] at hp2
  have hp3 : Placed w.heap.size w2 gb (newGt lo hi M) pb [] [] [] (lb :: S) := hp2.sub (fun k hk => by simp at hk ⊢; rcases hk with h | h <;> simp [h])
  have hlS : lb ∉ S := by
    rw [← hS]
    intro hk
    have := (hacts.lt lb (by simpa using hk)).1
    have := HL1.out.1.lt
    omega
  have HP2 : Hid (LmL w.heap.size w2 w2 gb pb lb S M lo hi 0 0) := Lib.hid ⟨_, _, _, _, _, ⟨hp3.sub (by simp +contextual), HST0.out, rfl, rfl, rfl, QStep.refl _ _ _, by omega⟩, hp3, HL1.out.1.keep (Upd.ofBelow hbel) (by simp)⟩
  have HLB := Lib.hid (And.intro HL1.out.2 hlS)
  have HBW := Lib.hid hst2
  have HSA : Hid (∀ g, ao = some ⟨g, 0, none⟩ → g ∈ S) := Lib.hid (fun g hg => by rw [← hS, hg]; simp [Value.ownBlock])
  have HOK := Lib.hid hok
  have HACTS := Lib.hid hacts
  obtain ⟨N, hN⟩ : ∃ N, l.length = N := ⟨_, rfl⟩
  have HN := Lib.hid hN
  rw [hN] at hl40 ⊢
  have h40 : (N : Int) ≤ 40 := by omega
  have hN0 : (0 : Int) ≤ N := by omega
  clear hp2 hp3 hlS hst2 hS hacts hok hbel HP1 HS1 HL1 CA HST0 HIN hN hl40
  go_wp2_with fail
  go_loopw [13, 14] (fun now i wr => ∃ (j : Nat) (t : Int), j ≤ N ∧ now = .int .i64 t ∧ i = .int .i64 j ∧ Hid (LmL w.heap.size w2 wr gb pb lb S M lo hi j t)) (fun _ i _ => N - (intOf i).toNat)
  case atStart => exact ⟨0, 0, by omega, rfl, rfl, HP2⟩
  case round =>
    obtain ⟨j, t, hj, rfl, rfl, HP⟩ := hrel
    clear HP2
    by_cases hlt : j < N
    · obtain ⟨a, ha⟩ : ∃ a, l[j]? = some a := ⟨l[j]'(by rw [HN.out]; exact hlt), by simp [HN.out, hlt]⟩
      have hao := HOK.out a (List.mem_of_getElem? ha)
      obtain ⟨g, us, ws, os, e, hpl, hpp, hla⟩ := HP.out
      obtain ⟨gA, rfl, hcell⟩ : ∃ gA, ao = some ⟨gA, 0, none⟩ ∧ ∀ (c : Nat) (u : Value), a.cells[c]? = some u → wr.cell? ⟨gA, j * 7 + c, none⟩ = some u := by
        rcases HACTS.out.read with ⟨h0, -⟩ | ⟨gA, c2, hv, -, hlt, -, -, hc⟩
        · rw [h0] at ha; simp at ha
        · cases hv
          refine ⟨gA, rfl, fun c u hu => ?_⟩
          rw [World.cell?_of_block (hpl.q.same gA (HSA.out gA rfl))]
          exact hc j a ha c u hu
      have x0 := hcell 0 _ rfl
      have x1 := hcell 1 _ rfl
      have x2 := hcell 2 _ rfl
      have x3 := hcell 3 _ rfl
      have x4 := hcell 4 _ rfl
      have x5 := hcell 5 _ rfl
      have x6 := hcell 6 _ rfl
      rw [Nat.add_zero] at x0
      have HPL := Lib.hid (And.intro hpl (And.intro hpp hla))
      have HAO := Lib.hid hao
      have hnow := hpl.now
      have hlat := hao.later
      have hee := hpl.st.e
      have he0 : 0 ≤ e := by have := hpl.st.len; omega
      have q0 : (0 : Int) ≤ j := by omega
      have q1 : (j : Int) < N := by omega
      have ew := IntWalk.i64_in (t + a.later) (by omega)
      have ew2 := IntWalk.i64_in (1 + (j : Int)) (by omega)
      have HJ := Lib.hid (And.intro hlt hnow)
      clear hpl hpp hla hao ha hcell hnow hlt
      obtain ⟨al, ad, ab, ap, af, at', aw⟩ := a
      dsimp only at x0 x1 x2 x3 x4 x5 x6 ew hlat
      obtain ⟨k, hk⟩ : ∃ k : Int, (j : Int) + 1 - ab = k := ⟨_, rfl⟩
      have ek : IntKind.i64.wrap (1 + (j : Int) - ab) = k := by
        rw [← hk, Int.add_comm (j : Int) 1]
        exact IntWalk.i64_in _ (by have := HAO.out.back; dsimp only at this; omega)
      have HK := Lib.hid hk
      obtain ⟨cs, hcs⟩ : ∃ cs : List Value, [.int .i64 al, .int .i64 ad, .int .i64 ab, .int .i64 ap, .int .i64 af, .int .i64 at', .bool aw] = cs := ⟨_, rfl⟩
      have HCS := Lib.hid hcs
      have HB0 : Hid (LmB w.heap.size w2 (wr.alloc (.cells #[.int .i64 al, .int .i64 ad, .int .i64 ab, .int .i64 ap, .int .i64 af, .int .i64 at', .bool aw] 49)) gb pb lb S M lo hi g us ws os j t e wr.heap.size cs g.lim) := Lib.hid ⟨HPL.out.1.next (Upd.alloc [] _ _), HPL.out.2.1.alloc _, by rw [← hcs]; exact BlockAt.new _ _ _, HPL.out.2.2.keep (Upd.alloc [] _ _) (by simp)⟩
      have hAl : wr.heap.size ≠ lb := by have := HPL.out.2.2.lt; omega
      obtain ⟨L, hL⟩ : ∃ L, (if ad = 1 ∧ k ∈ us then g.lim.done (t + al) us.length at' aw else g.lim) = L := ⟨_, rfl⟩
      have hlim := if_lim (g := g) (P := ad = 1 ∧ k ∈ us) (t + al) us.length at' aw
      rw [hL] at hlim
      have HL := Lib.hid (And.intro hL hlim)
      obtain ⟨B, hB⟩ : ∃ B, decide (ad = 1 ∧ k ∈ us) = B := ⟨_, rfl⟩
      have HBB := Lib.hid hB
      have y0 : (wr.alloc (.cells #[.int .i64 al, .int .i64 ad, .int .i64 ab, .int .i64 ap, .int .i64 af, .int .i64 at', .bool aw] 49)).cell? ⟨wr.heap.size, 0, none⟩ = some (.int .i64 al) := (BlockAt.new wr 49 [.int .i64 al, .int .i64 ad, .int .i64 ab, .int .i64 ap, .int .i64 af, .int .i64 at', .bool aw]).cell 0 _ rfl
      clear hk hcs hL hlim hB HPL
      go_upto_region 14 with fail
      obtain ⟨W4, hW4⟩ : ∃ W4, wr.alloc (.cells #[.int .i64 al, .int .i64 ad, .int .i64 ab, .int .i64 ap, .int .i64 af, .int .i64 at', .bool aw] 49) = W4 := ⟨_, rfl⟩
      obtain ⟨A, hA⟩ : ∃ A, wr.heap.size = A := ⟨_, rfl⟩
      rw [hW4, hA] at HB0
      rw [hA] at hAl
      have HAL := Lib.hid hAl
      rw [hW4, hA]
      clear hW4 hA hAl x0 x1 x2 x3 x4 x5 x6 y0 HP
      go_cut [67] (fun c wx => c = .bool B ∧ Hid (LmB w.heap.size w2 wx gb pb lb S M lo hi g us ws os j t e A cs g.lim))
      case first =>
        have z1 := HB0.out.box.cell 1 _ (by rw [← HCS.out]; rfl)
        have z2 := HB0.out.box.cell 2 _ (by rw [← HCS.out]; rfl)
        obtain ⟨v0, v1, v2, hpv, hps, hvs, hcl⟩ := HB0.out.p.open
        have c0 := hpv.blk.cell 0 _ rfl
        simp only [three] at c0
        have hI := HB0.out.r.st.pi.ints (by omega)
        have hlen := HB0.out.r.st.lens
        have HIN := Lib.hid ((hpv.own 0 (by omega)).isIn hI.1)
        have CH : Hid (∀ n, Calls Try.prog 27 #[v0, .int .i64 k] (W4.drewN n) fun e w' => e = .returned (.bool (decide (k ∈ us))) ∧ W4.drewN n = w') := Lib.hid (fun n => has_any v0 us k (W4.drewN n) HIN.out (by omega))
        clear hpv hps hvs hcl hI hlen
        by_cases had : ad = 1
        · subst had
          have hBk : decide (k ∈ us) = B := by rw [← HBB.out]; simp
          rw [hBk] at CH
          clear hBk
          go_quiet ((go_at_call 27; exact quietSame (CH.out _)))
          go_wp2_with fail
          go_meet
          exact ⟨rfl, HB0.out.next (Upd.drewN [] _ _)⟩
        · have hBk : B = false := by rw [← HBB.out]; simp [had]
          subst hBk
          have d1 : (ad == 1) = false := by simpa using had
          have d2 : decide (ad = 1) = false := by simpa using had
          clear had
          go_quiet (fail)
          go_wp2_with fail
          go_meet
          exact ⟨rfl, HB0.out.next (Upd.drewN [] _ _)⟩
      case rest =>
        obtain ⟨rfl, HB1⟩ := hcut
        clear HB0
        go_step
        go_cut [13] (fun nv wy => nv = .int .i64 (t + al) ∧ Hid (LmB w.heap.size w2 wy gb pb lb S M lo hi g us ws os j t e A cs L))
        case first =>
          cases B with
          | false =>
            have hLg : L = g.lim := by rw [← HL.out.1, if_neg (by simpa using HBB.out)]
            subst hLg
            go_wp2_with fail
            go_meet
            exact ⟨rfl, HB1⟩
          | true =>
            have hLg : L = g.lim.done (t + al) us.length at' aw := by rw [← HL.out.1, if_pos (by simpa using HBB.out)]
            have CU := Lib.hid (under_p w.heap.size gb g pb us ws os _ _ (HB1.out.p.next (Upd.drew [] _)))
            rw [HB1.out.r.st.pi.u] at CU
            have z5 := HB1.out.box.cell 5 _ (by rw [← HCS.out]; rfl)
            have z6 := HB1.out.box.cell 6 _ (by rw [← HCS.out]; rfl)
            have hb1 := HB1.out.next (Upd.drew [] _)
            have htk := HAO.out.took
            dsimp only at htk
            have CD := Lib.hid (done_any lb g.lim (t + al) us.length at' aw _ hb1.lim HB1.out.r.st.pi.ok.lim (by have := HJ.out; omega) (by have := HJ.out; omega) (by omega) (by omega))
            have HB2 := Lib.hid hb1
            clear hb1 htk
            go_wp2_with fail
            refine wp_region_still_tail 8 (by kernel_rfl) (by kernel_rfl) ?_
            simp only [List.take_succ_cons, List.take_zero, List.drop_succ_cons, List.drop_zero]
            repeat still_step
            still_call (CU.out.mono (fun _ _ h => ⟨h.1, h.2.symm⟩))
            repeat still_step
            refine wpStill_nil ?_
            go_wp2_with fail
            refine CD.out.mono ?_
            rintro e6 w6 ⟨rfl, hl6, hu6⟩
            have HB6 := Lib.hid (HB2.out.told hu6 hl6 HAL.out HLB.out)
            rw [← hLg] at HB6
            clear hl6 hu6 CD
            go_wp2_with fail
            go_meet
            exact ⟨rfl, HB6⟩
        case rest =>
          obtain ⟨rfl, HB2⟩ := hcut
          clear HB1
          have z0 := HB2.out.box.cell 0 _ (by rw [← HCS.out]; rfl)
          have z1 := HB2.out.box.cell 1 _ (by rw [← HCS.out]; rfl)
          have z2 := HB2.out.box.cell 2 _ (by rw [← HCS.out]; rfl)
          have z3 := HB2.out.box.cell 3 _ (by rw [← HCS.out]; rfl)
          have z4 := HB2.out.box.cell 4 _ (by rw [← HCS.out]; rfl)
          have z5 := HB2.out.box.cell 5 _ (by rw [← HCS.out]; rfl)
          have z6 := HB2.out.box.cell 6 _ (by rw [← HCS.out]; rfl)
          have ca := act_any w.heap.size gb g pb us ws os _ ⟨al, ad, ab, ap, af, at', aw⟩ j (t + al) e _ HB2.out.p HB2.out.r.st (by omega) (by omega) (by have := HJ.out; omega) (by have := HJ.out; omega) HAO.out
          dsimp only at ca
          rw [HK.out, HL.out.1, Int.add_comm (j : Int) 1] at ca
          obtain ⟨d, hd⟩ : ∃ d : Int, (if ad = 0 then 1 else 0) = d := ⟨_, rfl⟩
          rw [hd] at ca
          unfold AcT.val AcT.cells at ca
          dsimp only at ca
          have CA := Lib.hid ca
          clear ca hd
          go_wp2_with fail
          refine CA.out.mono ?_
          rintro e3 w3 hpost
          have hpost1 := hpost
          obtain ⟨-, g3, us3, ws3, os3, hp3, hst3, hm3, hl3, hq3⟩ := hpost1
          have hlim3 := hq3.lim (b := lb) (by simp) HB2.out.lim
          have hr3 : PlR w.heap.size w2 w3 gb pb S M lo hi g3 us3 ws3 os3 (j + 1) (t + al) (e + d) := ⟨hp3.sub (fun q hq => by simp [hq]), hst3, hm3.trans HB2.out.r.most, by rw [hl3, HL.out.2.1]; exact HB2.out.r.low, by rw [hl3, HL.out.2.2]; exact HB2.out.r.high, HB2.out.r.q.trans (hq3.sub (fun q hq => by simp [hq])), by have := HJ.out; omega⟩
          obtain rfl := hpost.1
          have CG := Lib.hid (limit_p w.heap.size gb g3 pb us3 ws3 os3 _ w3 hp3)
          rw [hl3] at CG
          have CO := Lib.hid (now_any lb L w3 hlim3)
          have HR3 := Lib.hid (And.intro hr3 (And.intro (hp3.sub (T := lb :: S) (fun q hq => by simp at hq ⊢; rcases hq with h | h <;> simp [h])) (show LimAt w3 lb g3.lim by rw [hl3]; exact hlim3)))
          clear hpost hp3 hst3 hm3 hl3 hq3 hlim3 hr3 CA HB2 z0 z1 z2 z3 z4 z5 z6
          go_wp2_with fail
          refine CG.out.mono ?_
          rintro e4 w' ⟨rfl, rfl⟩
          go_wp2_with fail
          refine CO.out.mono ?_
          rintro e4 w' ⟨rfl, rfl⟩
          go_wp2_with fail
          go_roundw
          case rel => exact ⟨j + 1, t + al, by have := HJ.out; omega, rfl, by go_num, Lib.hid ⟨_, _, _, _, _, HR3.out⟩⟩
          case measure => have := HJ.out; simp [intOf] <;> omega
    · obtain rfl : j = N := by omega
      go_wp2_with fail
      refine (lives_any _).mono ?_
      rintro e2 w9 ⟨rfl, hb9⟩
      obtain ⟨g, us, ws, os, e3, hpl, -, -⟩ := HP.out
      have HE := Lib.hid ((HBW.out.trans hpl.q.below).trans (hb9.mono (Nat.le_trans HBW.out.size hpl.q.size)))
      clear hb9 hpl
      go_wp2_with fail
      go_ret
      exact ⟨rfl, HE.out⟩
end Go.Proofs.Ytklbnldkfohkpaa
