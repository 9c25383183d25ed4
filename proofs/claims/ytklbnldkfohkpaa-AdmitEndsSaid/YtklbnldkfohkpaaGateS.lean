/- Layer 23: the walk of act: one is gone; act. -/
import Derived.Test.YtklbnldkfohkpaaGateR
namespace Go.Proofs.Ytklbnldkfohkpaa
open Go.RowKit
set_option maxRecDepth 100000
set_option maxHeartbeats 2000000 in
theorem act_gone (base gb : Nat) (g : Gt) (pb : Nat) (us ws os : List Int) (S : List Nat) (a : AcT) (i now E : Int) (w : World) (h : Placed base w gb g pb us ws os S) (hs : St g i us ws os E) (hi0 : 0 ≤ i) (hi : i ≤ 1000) (ha : a.Ok) (hdo : a.todo = 2) :
    Calls Try.prog 21 #[.pointer (some ⟨gb, 0, none⟩), .pointer (some ⟨pb, 0, none⟩), .int .i64 now, .int .i64 (i + 1), a.val] w (ActPost base gb g i pb S E 0 g.lim w) := by
  have hU : g.U = us := hs.pi.u
  obtain ⟨al, ad, ab, ap, af, at', aw⟩ := a
  have hb := ha.back
  dsimp only at hdo hb ⊢
  subst hdo
  unfold AcT.val AcT.cells
  dsimp only
  obtain ⟨zs, hzs⟩ : ∃ zs : List Value, [.int .i64 al, .int .i64 2, .int .i64 ab, .int .i64 ap, .int .i64 af, .int .i64 at', .bool aw] = zs := ⟨_, rfl⟩
  have HAB : Hid (AB base gb g pb us ws os w.heap.size zs S w (w.alloc (.cells #[.int .i64 al, .int .i64 2, .int .i64 ab, .int .i64 ap, .int .i64 af, .int .i64 at', .bool aw] 49))) := Lib.hid (by rw [← hzs]; exact AB.start h _)
  have HZS := Lib.hid hzs
  have b1 : (w.alloc (.cells #[.int .i64 al, .int .i64 2, .int .i64 ab, .int .i64 ap, .int .i64 af, .int .i64 at', .bool aw] 49)).cell? ⟨w.heap.size, 1, none⟩ = some (.int .i64 2) := HAB.out.z.cell 1 _ (by rw [← hzs]; rfl)
  have b2 : (w.alloc (.cells #[.int .i64 al, .int .i64 2, .int .i64 ab, .int .i64 ap, .int .i64 af, .int .i64 at', .bool aw] 49)).cell? ⟨w.heap.size, 2, none⟩ = some (.int .i64 ab) := HAB.out.z.cell 2 _ (by rw [← hzs]; rfl)
  have ek := IntWalk.i64_in (i + 1 - ab) (by omega)
  have HS := Lib.hid hs
  have HU := Lib.hid hU
  have HI := Lib.hid (And.intro hi0 hi)
  clear h hs ha hzs hU hb
  go_enter Try.func21, Try.ntmps21
  go_upto_region 23 with fail
  obtain ⟨W, hW⟩ : ∃ W, w.alloc (.cells #[.int .i64 al, .int .i64 2, .int .i64 ab, .int .i64 ap, .int .i64 af, .int .i64 at', .bool aw] 49) = W := ⟨_, rfl⟩
  obtain ⟨A, hA⟩ : ∃ A, w.heap.size = A := ⟨_, rfl⟩
  obtain ⟨k, hk⟩ : ∃ k, i + 1 - ab = k := ⟨_, rfl⟩
  rw [hW, hA] at HAB
  rw [hW, hA, hk]
  clear hW hA hk b1 b2 ek hi0 hi
  have hI := HS.out.pi.ints (by have := HI.out.2; omega)
  have hls := HS.out.lens
  have HIN := Lib.hid hI
  have HLS : Hid ((us.length : Int) ≤ 1000 ∧ (ws.length : Int) ≤ 1000 ∧ (os.length : Int) ≤ 1000) := Lib.hid (by have := HI.out.2; omega)
  clear hI hls
  obtain ⟨B, hB⟩ : ∃ B, decide (k ∈ us ∨ k ∈ ws) = B := ⟨_, rfl⟩
  obtain ⟨os2, hos2⟩ : ∃ os2, (if k ∈ us ∨ k ∈ ws then os ++ [k] else os) = os2 := ⟨_, rfl⟩
  have HBB := Lib.hid hB
  have HO2 := Lib.hid hos2
  clear hB hos2
  go_cut [14, 183] (fun kk c wx => kk = .int .i64 k ∧ c = .bool B ∧ wx = W)
  case first =>
    obtain ⟨v0, v1, v2, hpv, hps, hvs, hcl⟩ := HAB.out.p.open
    have c0 := hpv.blk.cell 0 _ rfl
    have c1 := hpv.blk.cell 1 _ rfl
    simp only [three] at c0 c1
    have CH := Lib.hid (has_any v0 us k W ((hpv.own 0 (by omega)).isIn HIN.out.1) (by have := HLS.out; omega))
    have CH2 := Lib.hid (has_any v1 ws k W ((hpv.own 1 (by omega)).isIn HIN.out.2.1) (by have := HLS.out; omega))
    clear hpv hps hvs hcl
    go_wp2_with fail
    refine CH.out.mono ?_
    rintro e w' ⟨rfl, rfl⟩
    clear CH
    by_cases hm : k ∈ us
    · have hd : decide (k ∈ us) = true := by simpa using hm
      rw [hd]
      have hBt : B = true := by rw [← HBB.out]; simp [hm]
      subst hBt
      clear hm hd
      go_wp2_with fail
      go_meet
      exact ⟨rfl, rfl, rfl⟩
    · have hd : decide (k ∈ us) = false := by simpa using hm
      rw [hd]
      have hBt : decide (k ∈ ws) = B := by rw [← HBB.out]; simp [hm]
      rw [hBt] at CH2
      clear hm hd hBt
      go_wp2_with fail
      refine CH2.out.mono ?_
      rintro e w' ⟨rfl, rfl⟩
      clear CH2
      go_wp2_with fail
      go_meet
      exact ⟨rfl, rfl, rfl⟩
  case rest =>
    obtain ⟨rfl, rfl, rfl⟩ := hcut
    go_step
    go_cut [14] (fun kk wx => kk = .int .i64 k ∧ Hid (AB base gb g pb us ws os2 A zs S w wx))
    case first =>
      cases B with
      | false =>
        have hos : os2 = os := by rw [← HO2.out, if_neg (by simpa using HBB.out)]
        subst hos
        go_wp2_with fail
        go_meet
        exact ⟨rfl, HAB⟩
      | true =>
        have hos : os2 = os ++ [k] := by rw [← HO2.out, if_pos (by simpa using HBB.out)]
        subst hos
        obtain ⟨v0, v1, v2, hpv, hps, hvs, hcl⟩ := HAB.out.p.open
        have c2 := hpv.blk.cell 2 _ rfl
        simp only [three] at c2
        have HPV := Lib.hid (And.intro hpv hcl)
        have HOWN : Hid (OffInts base wc v2 os) := Lib.hid (hpv.own 2 (by omega))
        have HNE : Hid (∀ k, v2.ownBlock = some k → k ≠ pb) := Lib.hid (fun k hk => hpv.ne 2 k (by omega) hk)
        have HBS := Lib.hid HAB.out.p.base_le
        clear hpv hps hvs hcl
        go_wp2_with (at_builtin; refine wpList_append_off wc rfl (.tmp 188) (.tmp 190) 22 rfl base (by kernel_rfl) Try.infoInt v2 os rfl HOWN.out k rfl (by have := HLS.out; omega) HBS.out ?_)
        intro g1 o1 cap1 w4 hown4 hu4 hg4
        have hb4 := HPV.out.1.blk.keep hu4 (by simp; exact fun hh => HNE.out _ hh rfl)
        have d2 := hb4.cell 2 _ rfl
        have f2 := hb4.free 2
        have hc := HPV.out.2 2 _ _ w4 (by omega) hu4 hown4 (fun k hk => by simp only [Value.ownBlock, Option.some.injEq] at hk; subst hk; exact hg4)
        have HC := Lib.hid (HAB.out.step hc.1 hc.2)
        clear hown4 hu4 hg4 hb4 hc
        go_wp2_with fail
        go_meet
        exact ⟨rfl, HC⟩
    case rest =>
      obtain ⟨rfl, HB⟩ := hcut
      clear HAB
      obtain ⟨v0, v1, v2, hpv, hps, hvs, hcl⟩ := HB.out.p.open
      have c0 := hpv.blk.cell 0 _ rfl
      have c1 := hpv.blk.cell 1 _ rfl
      simp only [three] at c0 c1
      have CW := Lib.hid (without_any v0 us k _ ((hpv.own 0 (by omega)).isIn HIN.out.1) (by have := HLS.out; omega))
      have HPV := Lib.hid (And.intro hpv hcl)
      clear hpv hps hvs hcl
      go_wp2_with fail
      refine CW.out.mono ?_
      rintro e w1 ⟨v', rfl, ho, hbel⟩
      obtain ⟨a1, p1, rfl⟩ := own_len ho
      have hu1 := Upd.ofBelow hbel
      have hb1 := HPV.out.1.blk.keep hu1 (by simp)
      have d0 := hb1.cell 0 _ rfl
      have f0 := hb1.free 0
      have hs1 := HPV.out.2 0 _ _ w1 (by omega) (hu1.mono (by simp)) (ho.off.mono HB.out.p.base_le) (fun k hk => .inr (ho.lt k hk).1)
      have HC := Lib.hid (HB.out.step hs1.1 hs1.2)
      clear ho hbel hb1 hu1 hs1 CW c0 c1 HPV HB
      go_upto_region 26 with fail
      obtain ⟨W2, hW2⟩ : ∃ W2, w1.setCell ⟨pb, 0, none⟩ (.slice a1 (lessOf us k).length p1) = W2 := ⟨_, rfl⟩
      rw [hW2] at HC ⊢
      clear hW2 d0 f0
      obtain ⟨v0, v1, v2, hpv, hps, hvs, hcl⟩ := HC.out.p.open
      have c1 := hpv.blk.cell 1 _ rfl
      simp only [three] at c1
      have CW := Lib.hid (without_any v1 ws k _ ((hpv.own 1 (by omega)).isIn HIN.out.2.1) (by have := HLS.out; omega))
      have HPV := Lib.hid (And.intro hpv hcl)
      clear hpv hps hvs hcl
      go_wp2_with fail
      refine CW.out.mono ?_
      rintro e w3 ⟨v', rfl, ho, hbel⟩
      obtain ⟨a3, p3, rfl⟩ := own_len ho
      have hu1 := Upd.ofBelow hbel
      have hb1 := HPV.out.1.blk.keep hu1 (by simp)
      have d1 := hb1.cell 1 _ rfl
      have f1 := hb1.free 1
      have hs1 := HPV.out.2 1 _ _ w3 (by omega) (hu1.mono (by simp)) (ho.off.mono HC.out.p.base_le) (fun k hk => .inr (ho.lt k hk).1)
      have HB := Lib.hid (HC.out.step hs1.1 hs1.2)
      clear ho hbel hb1 hu1 hs1 CW c1 HPV HC
      go_upto_region 27 with fail
      obtain ⟨W4, hW4⟩ : ∃ W4, w3.setCell ⟨pb, 1, none⟩ (.slice a3 (lessOf ws k).length p3) = W4 := ⟨_, rfl⟩
      rw [hW4] at HB ⊢
      clear hW4 d1 f1
      have CD := Lib.hid (gone_p base gb g pb _ _ _ _ k W4 HB.out.p HS.out.pi.ok)
      go_wp2_with fail
      refine CD.out.mono ?_
      rintro e w5 ⟨ids, v, g', hd, rfl, hown, hp5, hst5⟩
      obtain ⟨hok, hst⟩ := HS.out.gone hd
      have hkp := hd.keeps
      have hil := on_len hok (fun id => by rw [count_less]; have := HS.out.pi.one id; split <;> omega)
      have hul := length_less us k
      have hwl := length_less ws k
      have CO := Lib.hid (on_p base _ gb g' pb _ _ _ ids _ v w5 hp5 hown hok (fun z hz => HIN.out.2.1.less k z (on_sub hok z hz)) (HIN.out.2.1.less k) (by show ((lessOf us k).length : Int) + _ ≤ _; have := HLS.out; omega) (by show ((lessOf ws k).length : Int) ≤ _; have := HLS.out; omega))
      rw [HO2.out] at hst
      have HST := Lib.hid hst
      have HK := Lib.hid hkp
      have HST5 := Lib.hid hst5
      clear hd hown hp5 hst5 hok hst hkp hil hul hwl CD
      go_wp2_with fail
      refine CO.out.mono ?_
      rintro e w6 ⟨rfl, hp6, hst6⟩
      have HE := Lib.hid (HB.out.step hp6 (HST5.out.trans hst6))
      clear hp6 hst6 CO HB HST5
      go_wp2_with fail
      go_ret
      exact ⟨rfl, g', _, _, _, HE.out.p.sub (fun k hk => List.mem_cons_of_mem _ hk), by rw [Int.add_zero]; exact HST.out.mono (by omega), HK.out.1, HK.out.2, HE.out.st⟩
/-- An act, done. -/
theorem act_any (base gb : Nat) (g : Gt) (pb : Nat) (us ws os : List Int) (S : List Nat) (a : AcT) (i now E : Int) (w : World) (h : Placed base w gb g pb us ws os S) (hs : St g i us ws os E) (hi0 : 0 ≤ i) (hi : i ≤ 1000) (hn0 : 0 ≤ now) (hn1 : now ≤ 1000000) (ha : a.Ok) :
    Calls Try.prog 21 #[.pointer (some ⟨gb, 0, none⟩), .pointer (some ⟨pb, 0, none⟩), .int .i64 now, .int .i64 (i + 1), a.val] w (ActPost base gb g i pb S E (if a.todo = 0 then 1 else 0) (if a.todo = 1 ∧ i + 1 - a.back ∈ us then g.lim.done now us.length a.took a.well else g.lim) w) := by
  rcases ha.todo with h0 | h0 | h0
  · rw [if_pos h0, if_neg (by omega)]
    exact act_enter base gb g pb us ws os S a i now E w h hs hi0 hi ha h0
  · rw [if_neg (by omega)]
    have := act_done base gb g pb us ws os S a i now E w h hs hi0 hi hn0 hn1 ha h0
    simpa [h0] using this
  · rw [if_neg (by omega), if_neg (by omega)]
    exact act_gone base gb g pb us ws os S a i now E w h hs hi0 hi ha h0
end Go.Proofs.Ytklbnldkfohkpaa
