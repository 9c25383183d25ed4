/- Layer 23: the walk of act: one is done. -/
import Derived.Test.YtklbnldkfohkpaaGateQ
namespace Go.Proofs.Ytklbnldkfohkpaa
open Go.RowKit
structure AB (base gb : Nat) (g : Gt) (pb : Nat) (us ws os : List Int) (Z : Nat) (zs : List Value) (S : List Nat) (w wx : World) : Prop where
  p : Placed base wx gb g pb us ws os (Z :: S)
  st : QStep base S w wx
  z : BlockAt wx Z 49 zs
theorem AB.next {base gb : Nat} {g : Gt} {pb : Nat} {us ws os : List Int} {Z : Nat} {zs : List Value} {S : List Nat} {w wx wy : World} (h : AB base gb g pb us ws os Z zs S w wx) (u : Upd [] wx wy) : AB base gb g pb us ws os Z zs S w wy :=
  ⟨h.p.next u, h.st.trans ((h.p.step0 u).sub (fun k hk => List.mem_cons_of_mem _ hk)), h.z.keep u (by simp)⟩
theorem AB.step {base gb : Nat} {g g2 : Gt} {pb : Nat} {us ws os us2 ws2 os2 : List Int} {Z : Nat} {zs : List Value} {S : List Nat} {w wx wy : World} (h : AB base gb g pb us ws os Z zs S w wx) (hp : Placed base wy gb g2 pb us2 ws2 os2 (Z :: S)) (hs : QStep base (Z :: S) wx wy) : AB base gb g2 pb us2 ws2 os2 Z zs S w wy :=
  ⟨hp, h.st.trans (hs.sub (fun k hk => List.mem_cons_of_mem _ hk)), hs.block (by simp) h.z⟩
theorem AB.start {base gb : Nat} {g : Gt} {pb : Nat} {us ws os : List Int} {S : List Nat} {w : World} (h : Placed base w gb g pb us ws os S) (zs : List Value) : AB base gb g pb us ws os w.heap.size zs S w (w.alloc (.cells zs.toArray 49)) :=
  ⟨h.alloc _, h.step0 (Upd.alloc [] _ _), BlockAt.new _ _ _⟩
set_option maxRecDepth 100000
set_option maxHeartbeats 2000000 in
theorem act_done (base gb : Nat) (g : Gt) (pb : Nat) (us ws os : List Int) (S : List Nat) (a : AcT) (i now E : Int) (w : World) (h : Placed base w gb g pb us ws os S) (hs : St g i us ws os E) (hi0 : 0 ≤ i) (hi : i ≤ 1000) (hn0 : 0 ≤ now) (hn1 : now ≤ 1000000) (ha : a.Ok) (hdo : a.todo = 1) :
    Calls Try.prog 21 #[.pointer (some ⟨gb, 0, none⟩), .pointer (some ⟨pb, 0, none⟩), .int .i64 now, .int .i64 (i + 1), a.val] w (ActPost base gb g i pb S E 0 (if i + 1 - a.back ∈ us then g.lim.done now us.length a.took a.well else g.lim) w) := by
  have hU : g.U = us := hs.pi.u
  obtain ⟨al, ad, ab, ap, af, at', aw⟩ := a
  have hb := ha.back
  have ht := ha.took
  dsimp only at hdo hb ht ⊢
  subst hdo
  unfold AcT.val AcT.cells
  dsimp only
  obtain ⟨zs, hzs⟩ : ∃ zs : List Value, [.int .i64 al, .int .i64 1, .int .i64 ab, .int .i64 ap, .int .i64 af, .int .i64 at', .bool aw] = zs := ⟨_, rfl⟩
  have HAB : Hid (AB base gb g pb us ws os w.heap.size zs S w (w.alloc (.cells #[.int .i64 al, .int .i64 1, .int .i64 ab, .int .i64 ap, .int .i64 af, .int .i64 at', .bool aw] 49))) := Lib.hid (by rw [← hzs]; exact AB.start h _)
  have HZS := Lib.hid hzs
  have b1 : (w.alloc (.cells #[.int .i64 al, .int .i64 1, .int .i64 ab, .int .i64 ap, .int .i64 af, .int .i64 at', .bool aw] 49)).cell? ⟨w.heap.size, 1, none⟩ = some (.int .i64 1) := HAB.out.z.cell 1 _ (by rw [← hzs]; rfl)
  have b2 : (w.alloc (.cells #[.int .i64 al, .int .i64 1, .int .i64 ab, .int .i64 ap, .int .i64 af, .int .i64 at', .bool aw] 49)).cell? ⟨w.heap.size, 2, none⟩ = some (.int .i64 ab) := HAB.out.z.cell 2 _ (by rw [← hzs]; rfl)
  have ek := IntWalk.i64_in (i + 1 - ab) (by omega)
  have HS := Lib.hid hs
  have HU := Lib.hid hU
  have HN := Lib.hid (And.intro (And.intro hn0 hn1) (And.intro ht.1 (show at' ≤ 1000 by omega)))
  have HI := Lib.hid (And.intro hi0 hi)
  obtain ⟨L, hL⟩ : ∃ L, (if i + 1 - ab ∈ us then g.lim.done now us.length at' aw else g.lim) = L := ⟨_, rfl⟩
  rw [hL]
  have HL := Lib.hid hL
  clear h hs ha hzs hU hn0 hn1 ht hb hL
  go_enter Try.func21, Try.ntmps21
  go_upto_region 18 with fail
  obtain ⟨W, hW⟩ : ∃ W, w.alloc (.cells #[.int .i64 al, .int .i64 1, .int .i64 ab, .int .i64 ap, .int .i64 af, .int .i64 at', .bool aw] 49) = W := ⟨_, rfl⟩
  obtain ⟨A, hA⟩ : ∃ A, w.heap.size = A := ⟨_, rfl⟩
  obtain ⟨k, hk⟩ : ∃ k, i + 1 - ab = k := ⟨_, rfl⟩
  rw [hW, hA] at HAB
  rw [hW, hA, hk]
  rw [hk] at HL
  clear hW hA hk b1 b2 ek hi0 hi
  obtain ⟨v0, v1, v2, hpv, hps, hvs, hcl⟩ := HAB.out.p.open
  have hI := HS.out.pi.ints (by have := HI.out.2; omega)
  have hls := HS.out.lens
  have HIN := Lib.hid hI
  have HLS : Hid ((us.length : Int) ≤ 1000 ∧ (ws.length : Int) ≤ 1000 ∧ (os.length : Int) ≤ 1000) := Lib.hid (by have := HI.out.2; omega)
  have c0 := hpv.blk.cell 0 _ rfl
  simp only [three] at c0
  have CH := Lib.hid (has_any v0 us k W ((hpv.own 0 (by omega)).isIn hI.1) (by have := HLS.out; omega))
  have e5 := HAB.out.z.cell 5 _ (by rw [← HZS.out]; rfl)
  have e6 := HAB.out.z.cell 6 _ (by rw [← HZS.out]; rfl)
  have HPV := Lib.hid (And.intro hpv hcl)
  clear hpv hps hvs hcl hI hls
  go_wp2_with fail
  refine CH.out.mono ?_
  rintro e w' ⟨rfl, rfl⟩
  clear CH
  by_cases hm : k ∈ us
  · have hd : decide (k ∈ us) = true := by simpa using hm
    rw [hd]
    have HM := Lib.hid hm
    have CW := Lib.hid (without_any v0 us k W ((HPV.out.1.own 0 (by omega)).isIn HIN.out.1) (by have := HLS.out; omega))
    clear hm hd e5 e6
    go_wp2_with fail
    refine CW.out.mono ?_
    rintro e w1 ⟨v', rfl, ho, hbel⟩
    obtain ⟨a1, p1, rfl⟩ := own_len ho
    have hu1 := Upd.ofBelow hbel
    have hb1 := HPV.out.1.blk.keep hu1 (by simp)
    have d0 := hb1.cell 0 _ rfl
    have f0 := hb1.free 0
    have hs1 := HPV.out.2 0 _ _ w1 (by omega) (hu1.mono (by simp)) (ho.off.mono HAB.out.p.base_le) (fun k hk => .inr (ho.lt k hk).1)
    have HB := Lib.hid (HAB.out.step hs1.1 hs1.2)
    clear ho hbel hb1 hu1 hs1 CW c0 HPV HAB
    go_upto_region 21 with fail
    obtain ⟨W2, hW2⟩ : ∃ W2, w1.setCell ⟨pb, 0, none⟩ (.slice a1 (lessOf us k).length p1) = W2 := ⟨_, rfl⟩
    rw [hW2] at HB ⊢
    clear hW2 d0 f0
    obtain ⟨v0, v1, v2, hpv, hps, hvs, hcl⟩ := HB.out.p.open
    have c2 := hpv.blk.cell 2 _ rfl
    simp only [three] at c2
    have HPV := Lib.hid (And.intro hpv hcl)
    have HOWN : Hid (OffInts base W2 v2 os) := Lib.hid (hpv.own 2 (by omega))
    have HNE : Hid (∀ k, v2.ownBlock = some k → k ≠ pb) := Lib.hid (fun k hk => hpv.ne 2 k (by omega) hk)
    have HBS := Lib.hid HB.out.p.base_le
    clear hpv hps hvs hcl
    go_wp2_with (at_builtin; refine wpList_append_off W2 rfl (.tmp 154) (.tmp 156) 22 rfl base (by kernel_rfl) Try.infoInt v2 os rfl HOWN.out k rfl (by have := HLS.out; omega) HBS.out ?_)
    intro g1 o1 cap1 w4 hown4 hu4 hg4
    have hb4 := HPV.out.1.blk.keep hu4 (by simp; exact fun hh => HNE.out _ hh rfl)
    have d2 := hb4.cell 2 _ rfl
    have f2 := hb4.free 2
    have hc := HPV.out.2 2 _ _ w4 (by omega) hu4 hown4 (fun k hk => by simp only [Value.ownBlock, Option.some.injEq] at hk; subst hk; exact hg4)
    have HC := Lib.hid (HB.out.step hc.1 hc.2)
    clear hown4 hu4 hg4 hb4 hc HB HPV HOWN HNE HBS c2
    go_upto_region 22 with fail
    obtain ⟨W3, hW3⟩ : ∃ W3, w4.setCell ⟨pb, 2, none⟩ (.slice (some ⟨g1, o1, none⟩) (os.length + 1) cap1) = W3 := ⟨_, rfl⟩
    rw [hW3] at HC ⊢
    clear hW3 d2 f2
    have e5 := HC.out.z.cell 5 _ (by rw [← HZS.out]; rfl)
    have e6 := HC.out.z.cell 6 _ (by rw [← HZS.out]; rfl)
    have CD := Lib.hid (done_p base gb g pb _ _ _ _ now k at' aw W3 HC.out.p HS.out.pi.ok HN.out.1.1 HN.out.1.2 HN.out.2.1 HN.out.2.2)
    go_wp2_with fail
    refine CD.out.mono ?_
    rintro e w5 ⟨ids, v, g', hd, rfl, hown, hp5, hst5⟩
    obtain ⟨hok, hst⟩ := HS.out.done hd HM.out HN.out.1.1 HN.out.1.2 HN.out.2.1 HN.out.2.2
    have hkp := hd.keeps
    rw [HU.out, HL.out] at hkp
    have hil := on_len hok (fun id => by have := HS.out.pi.one id; omega)
    have hul := length_less us k
    have CO := Lib.hid (on_p base _ gb g' pb _ _ _ ids _ v w5 hp5 hown hok (fun z hz => HIN.out.2.1 z (on_sub hok z hz)) HIN.out.2.1 (by show ((lessOf us k).length : Int) + _ ≤ _; have := HLS.out; omega) (by show (ws.length : Int) ≤ _; have := HLS.out; omega))
    have HST := Lib.hid hst
    have HK := Lib.hid hkp
    have HST5 := Lib.hid hst5
    clear hd hown hp5 hst5 hok hst hkp hil hul CD e5 e6
    go_wp2_with fail
    refine CO.out.mono ?_
    rintro e w6 ⟨rfl, hp6, hst6⟩
    have HE := Lib.hid (HC.out.step hp6 (HST5.out.trans hst6))
    clear hp6 hst6 CO HC HST5
    go_wp2_with fail
    go_ret
    exact ⟨rfl, g', _, _, _, HE.out.p.sub (fun k hk => List.mem_cons_of_mem _ hk), by rw [Int.add_zero]; exact HST.out.mono (by omega), HK.out.1, HK.out.2, HE.out.st⟩
  · have hd : decide (k ∈ us) = false := by simpa using hm
    rw [hd]
    have HM := Lib.hid hm
    have CD := Lib.hid (done_p base gb g pb _ _ _ _ now k at' aw W HAB.out.p HS.out.pi.ok HN.out.1.1 HN.out.1.2 HN.out.2.1 HN.out.2.2)
    clear hm hd HPV c0
    go_wp2_with fail
    refine CD.out.mono ?_
    rintro e w5 ⟨ids, v, g', hd, rfl, hown, hp5, hst5⟩
    obtain ⟨rfl, rfl⟩ := HS.out.pi.doneNo hd HM.out
    obtain ⟨ao, cap, rfl⟩ := own_len hown
    have HE := Lib.hid (HAB.out.step (hp5.sub (fun k hk => by simp [hk])) hst5)
    clear hd hown hp5 hst5 CD
    go_wp2_with fail
    go_ret
    exact ⟨rfl, g', _, _, _, HE.out.p.sub (fun k hk => List.mem_cons_of_mem _ hk), by rw [Int.add_zero]; exact HS.out.mono (by omega), rfl, by rw [← HL.out, if_neg HM.out], HE.out.st⟩
end Go.Proofs.Ytklbnldkfohkpaa
