/- Layer 23: the walk of act: one comes. -/
import Derived.Test.YtklbnldkfohkpaaGateP
namespace Go.Proofs.Ytklbnldkfohkpaa
open Go.RowKit
def AcT.val (a : AcT) : Value := .agg a.cells.toArray
def ActPost (base gb : Nat) (g : Gt) (i : Int) (pb : Nat) (S : List Nat) (E d : Int) (lim : Lim) (w : World) (e : Ending) (w' : World) : Prop :=
  e = .returned (.bool true) ∧ ∃ g' us' ws' os', Placed base w' gb g' pb us' ws' os' S ∧ St g' (i + 1) us' ws' os' (E + d) ∧ g'.most = g.most ∧ g'.lim = lim ∧ QStep base S w w'
theorem enter_st {g g' : Gt} {i : Int} {us ws os : List Int} {p : Nat} {x sh : It} {what : Int} {is : Bool} {E : Int} (h : St g i us ws os E) (hi : 0 ≤ i) (hbig : i ≤ 1000000) (he : EnterIs g p x what sh is g') (hp : p < 4) (hx : x.prio = (p : Int)) (hid : x.id = i + 1) :
    (what = 1 ∧ is = false ∧ St g' (i + 1) (us ++ [x.id]) ws os (E + 1)) ∨ (what = 2 ∧ is = false ∧ St g' (i + 1) us (ws ++ [x.id]) os (E + 1)) ∨ (what = 3 ∧ is = false ∧ St g' (i + 1) us ws (os ++ [x.id]) (E + 1)) ∨
      (what = 2 ∧ is = true ∧ sh.id ∈ ws ++ [x.id] ∧ ¬ sh.id = x.id ∧ I64s (ws ++ [x.id]) ∧ ((ws ++ [x.id]).length : Int) ≤ i + 1 ∧ St g' (i + 1) us (lessOf (ws ++ [x.id]) sh.id) (os ++ [sh.id]) (E + 1)) := by
  obtain ⟨hf, hh⟩ := h.pi.enter hi h.full he hp hx hid
  have hl := h.len
  have hE := h.e
  rcases hh with ⟨h1, h2, h3⟩ | ⟨h1, h2, h3⟩ | ⟨h1, h2, h3⟩ | ⟨h1, h2, h3, h4, h5⟩
  · exact .inl ⟨h1, h2, h3, hf, by simp; omega, by omega⟩
  · exact .inr (.inl ⟨h1, h2, h3, hf, by simp; omega, by omega⟩)
  · exact .inr (.inr (.inl ⟨h1, h2, h3, hf, by simp; omega, by omega⟩))
  · have hn := h.pi.fresh (k := x.id) (by omega)
    have c1 := length_less (ws ++ [x.id]) sh.id
    have c2 : 1 ≤ (ws ++ [x.id]).count sh.id := List.count_pos_iff.2 h3
    have c3 : (ws ++ [x.id]).count sh.id ≤ 1 := by
      rw [count_snoc, if_neg (fun hh => h4 hh.symm)]
      have := h.pi.one sh.id
      omega
    have c4 : (ws ++ [x.id]).length = ws.length + 1 := by simp
    refine .inr (.inr (.inr ⟨h1, h2, h3, h4, fun z hz => ?_, by omega, h5, hf, by simp; omega, by omega⟩))
    rcases List.mem_append.1 hz with hz | hz
    · exact (h.pi.ints hbig).2.1 z hz
    · simp at hz; omega
structure EB (base gb : Nat) (g : Gt) (pb : Nat) (us ws os : List Int) (Z : Nat) (zs : List Value) (S : List Nat) (w wx : World) : Prop where
  p : Placed base wx gb g pb us ws os (Z :: S)
  st : QStep base S w wx
  z : BlockAt wx Z 29 zs
theorem EB.next {base gb : Nat} {g : Gt} {pb : Nat} {us ws os : List Int} {Z : Nat} {zs : List Value} {S : List Nat} {w wx wy : World} (h : EB base gb g pb us ws os Z zs S w wx) (u : Upd [] wx wy) : EB base gb g pb us ws os Z zs S w wy :=
  ⟨h.p.next u, h.st.trans ((h.p.step0 u).sub (fun k hk => List.mem_cons_of_mem _ hk)), h.z.keep u (by simp)⟩
theorem EB.step {base gb : Nat} {g g2 : Gt} {pb : Nat} {us ws os us2 ws2 os2 : List Int} {Z : Nat} {zs : List Value} {S : List Nat} {w wx wy : World} (h : EB base gb g pb us ws os Z zs S w wx) (hp : Placed base wy gb g2 pb us2 ws2 os2 (Z :: S)) (hs : QStep base (Z :: S) wx wy) : EB base gb g2 pb us2 ws2 os2 Z zs S w wy :=
  ⟨hp, h.st.trans (hs.sub (fun k hk => List.mem_cons_of_mem _ hk)), hs.block (by simp) h.z⟩
set_option maxRecDepth 100000
set_option maxHeartbeats 2000000 in
theorem act_enter (base gb : Nat) (g : Gt) (pb : Nat) (us ws os : List Int) (S : List Nat) (a : AcT) (i now E : Int) (w : World) (h : Placed base w gb g pb us ws os S) (hs : St g i us ws os E) (hi0 : 0 ≤ i) (hi : i ≤ 1000) (ha : a.Ok) (hdo : a.todo = 0) :
    Calls Try.prog 21 #[.pointer (some ⟨gb, 0, none⟩), .pointer (some ⟨pb, 0, none⟩), .int .i64 now, .int .i64 (i + 1), a.val] w (ActPost base gb g i pb S E 1 g.lim w) := by
  obtain ⟨al, ad, ab, ap, af, at', aw⟩ := a
  obtain ⟨p, hpe, hp⟩ := ha.prio
  dsimp only at hdo hpe
  subst hdo hpe
  unfold AcT.val AcT.cells
  dsimp only
  have hA : BlockAt (w.alloc (.cells #[.int .i64 al, .int .i64 0, .int .i64 ab, .int .i64 p, .int .i64 af, .int .i64 at', .bool aw] 49)) w.heap.size 49 [.int .i64 al, .int .i64 0, .int .i64 ab, .int .i64 p, .int .i64 af, .int .i64 at', .bool aw] := BlockAt.new _ _ _
  have b1 := hA.cell 1 _ rfl
  have b3 := hA.cell 3 _ rfl
  have b4 := hA.cell 4 _ rfl
  have HA := Lib.hid hA
  have CE := Lib.hid (enter_p base gb g pb us ws os _ p ⟨i + 1, p, af⟩ _ (h.alloc (.cells #[.int .i64 al, .int .i64 0, .int .i64 ab, .int .i64 p, .int .i64 af, .int .i64 at', .bool aw] 49)) hs.pi.ok hp rfl)
  unfold It.val at CE
  dsimp only at CE
  have HP0 := Lib.hid h
  have HS := Lib.hid hs
  have HI := Lib.hid (And.intro hi0 (And.intro hi hp))
  have hST0 := h.step0 (Upd.alloc [] w (.cells #[.int .i64 al, .int .i64 0, .int .i64 ab, .int .i64 p, .int .i64 af, .int .i64 at', .bool aw] 49))
  have HST0 := Lib.hid hST0
  clear h hs ha hp hA hST0 hi0 hi
  go_enter Try.func21, Try.ntmps21
  go_wp2_with fail
  refine CE.out.mono ?_
  rintro e w2 ⟨what, ⟨si, sp, sf⟩, is, g', he, rfl, hp2, hst2⟩
  have hk := he.keeps
  have hst := enter_st HS.out HI.out.1 (by have := HI.out.2.1; omega) he HI.out.2.2 rfl rfl
  unfold It.val
  dsimp only at hst ⊢
  have hz1 : BlockAt (w2.alloc (.cells #[.int .i64 si, .int .i64 sp, .int .i64 sf] 29)) w2.heap.size 29 [.int .i64 si, .int .i64 sp, .int .i64 sf] := BlockAt.new _ _ _
  have hp3 := (hp2.alloc (.cells #[.int .i64 si, .int .i64 sp, .int .i64 sf] 29)).sub (T := w2.heap.size :: S) (fun k hk => by simp at hk ⊢; rcases hk with h | h <;> simp [h])
  have hst3 := (HST0.out.trans (hst2.sub (fun k hk => List.mem_cons_of_mem _ hk))).trans ((hp2.step0 (Upd.alloc [] w2 (.cells #[.int .i64 si, .int .i64 sp, .int .i64 sf] 29))).sub (T := S) (fun k hk => List.mem_cons_of_mem _ hk))
  have HZ1 := Lib.hid hz1
  have HP3 := Lib.hid hp3
  have HST3 := Lib.hid hst3
  have HK := Lib.hid hk
  have HST := Lib.hid hst
  have hls := HS.out.lens
  have HLS : Hid ((us.length : Int) ≤ 1000 ∧ (ws.length : Int) ≤ 1000 ∧ (os.length : Int) ≤ 1000) := Lib.hid (by have := HI.out.2.1; omega)
  clear hz1 hp3 hk hst he hp2 hst2 hst3 hls HST0 CE HP0 HA HS
  go_upto_region 3 with fail
  obtain ⟨W3, hW3⟩ : ∃ W3, w2.alloc (.cells #[.int .i64 si, .int .i64 sp, .int .i64 sf] 29) = W3 := ⟨_, rfl⟩
  obtain ⟨Z, hZ⟩ : ∃ Z, w2.heap.size = Z := ⟨_, rfl⟩
  have HP4 : Hid (Placed base W3 gb g' pb us ws os (Z :: S)) := Lib.hid (by rw [← hW3, ← hZ]; exact HP3.out)
  have HZ4 : Hid (BlockAt W3 Z 29 [.int .i64 si, .int .i64 sp, .int .i64 sf]) := Lib.hid (by rw [← hW3, ← hZ]; exact HZ1.out)
  have HST2 : Hid (QStep base S w W3) := Lib.hid (by rw [← hW3]; exact HST3.out)
  rw [hW3, hZ]
  clear hW3 hZ HP3 HZ1 HST3 b1 b3 b4
  obtain ⟨v0, v1, v2, hpv, hps, hvs, hcl⟩ := HP4.out.open
  rcases HST.out with ⟨rfl, rfl, hst⟩ | ⟨rfl, rfl, hst⟩ | ⟨rfl, rfl, hst⟩ | ⟨rfl, rfl, h1, h2, h3, h4, hst⟩
  · have HSTn := Lib.hid hst
    clear HST hst
    have c0 := hpv.blk.cell 0 _ rfl
    simp only [three] at c0
    have hown : OffInts base W3 v0 us := hpv.own 0 (by omega)
    have hne : ∀ k, v0.ownBlock = some k → k ≠ pb := fun k hk => hpv.ne 0 k (by omega) hk
    have HPV := Lib.hid hpv
    have HCL := Lib.hid (And.intro hps (And.intro hvs hcl))
    have HOWN := Lib.hid hown
    have HNE := Lib.hid hne
    have HLEN : Hid ((us.length : Int) ≤ 100000) := Lib.hid (by have := HLS.out; omega)
    clear hpv hown hne hcl hps hvs
    go_wp2_with (at_builtin; refine wpList_append_off W3 rfl (.tmp 37) (.tmp 39) 22 rfl base (by kernel_rfl) Try.infoInt v0 us rfl HOWN.out (i + 1) rfl HLEN.out HP4.out.base_le ?_)
    intro g1 o1 cap1 w4 hown4 hu4 hg4
    have hb4 := HPV.out.blk.keep hu4 (by simp; exact fun hh => HNE.out _ hh rfl)
    have d0 := hb4.cell 0 _ rfl
    have f0 := hb4.free 0
    have hc := HCL.out.2.2 0 _ _ w4 (by omega) hu4 hown4 (fun k hk => by simp only [Value.ownBlock, Option.some.injEq] at hk; subst hk; exact hg4)
    have HC := Lib.hid hc
    clear hown4 hu4 hg4 hb4 hc
    go_wp2_with fail
    go_ret
    exact ⟨rfl, g', _, _, _, HC.out.1.sub (fun k hk => List.mem_cons_of_mem _ hk), HSTn.out, HK.out.1, HK.out.2, HST2.out.trans (HC.out.2.sub (fun k hk => List.mem_cons_of_mem _ hk))⟩
  · have HSTn := Lib.hid hst
    clear HST hst
    have c0 := hpv.blk.cell 1 _ rfl
    simp only [three] at c0
    have hown : OffInts base W3 v1 ws := hpv.own 1 (by omega)
    have hne : ∀ k, v1.ownBlock = some k → k ≠ pb := fun k hk => hpv.ne 1 k (by omega) hk
    have HPV := Lib.hid hpv
    have HCL := Lib.hid (And.intro hps (And.intro hvs hcl))
    have HOWN := Lib.hid hown
    have HNE := Lib.hid hne
    have HLEN : Hid ((ws.length : Int) ≤ 100000) := Lib.hid (by have := HLS.out; omega)
    clear hpv hown hne hcl hps hvs
    go_wp2_with (at_builtin; refine wpList_append_off W3 rfl (.tmp 49) (.tmp 51) 22 rfl base (by kernel_rfl) Try.infoInt v1 ws rfl HOWN.out (i + 1) rfl HLEN.out HP4.out.base_le ?_)
    intro g1 o1 cap1 w4 hown4 hu4 hg4
    have hb4 := HPV.out.blk.keep hu4 (by simp; exact fun hh => HNE.out _ hh rfl)
    have d0 := hb4.cell 1 _ rfl
    have f0 := hb4.free 1
    have hc := HCL.out.2.2 1 _ _ w4 (by omega) hu4 hown4 (fun k hk => by simp only [Value.ownBlock, Option.some.injEq] at hk; subst hk; exact hg4)
    have HC := Lib.hid hc
    clear hown4 hu4 hg4 hb4 hc
    go_wp2_with fail
    go_ret
    exact ⟨rfl, g', _, _, _, HC.out.1.sub (fun k hk => List.mem_cons_of_mem _ hk), HSTn.out, HK.out.1, HK.out.2, HST2.out.trans (HC.out.2.sub (fun k hk => List.mem_cons_of_mem _ hk))⟩
  · have HSTn := Lib.hid hst
    clear HST hst
    have c0 := hpv.blk.cell 2 _ rfl
    simp only [three] at c0
    have hown : OffInts base W3 v2 os := hpv.own 2 (by omega)
    have hne : ∀ k, v2.ownBlock = some k → k ≠ pb := fun k hk => hpv.ne 2 k (by omega) hk
    have HPV := Lib.hid hpv
    have HCL := Lib.hid (And.intro hps (And.intro hvs hcl))
    have HOWN := Lib.hid hown
    have HNE := Lib.hid hne
    have HLEN : Hid ((os.length : Int) ≤ 100000) := Lib.hid (by have := HLS.out; omega)
    clear hpv hown hne hcl hps hvs
    go_wp2_with (at_builtin; refine wpList_append_off W3 rfl (.tmp 61) (.tmp 63) 22 rfl base (by kernel_rfl) Try.infoInt v2 os rfl HOWN.out (i + 1) rfl HLEN.out HP4.out.base_le ?_)
    intro g1 o1 cap1 w4 hown4 hu4 hg4
    have hb4 := HPV.out.blk.keep hu4 (by simp; exact fun hh => HNE.out _ hh rfl)
    have d0 := hb4.cell 2 _ rfl
    have f0 := hb4.free 2
    have hc := HCL.out.2.2 2 _ _ w4 (by omega) hu4 hown4 (fun k hk => by simp only [Value.ownBlock, Option.some.injEq] at hk; subst hk; exact hg4)
    have HC := Lib.hid hc
    clear hown4 hu4 hg4 hb4 hc
    go_wp2_with fail
    go_ret
    exact ⟨rfl, g', _, _, _, HC.out.1.sub (fun k hk => List.mem_cons_of_mem _ hk), HSTn.out, HK.out.1, HK.out.2, HST2.out.trans (HC.out.2.sub (fun k hk => List.mem_cons_of_mem _ hk))⟩
  · have HSTn := Lib.hid hst
    have HX := Lib.hid (And.intro h1 (And.intro h2 (And.intro h3 h4)))
    clear HST hst h1 h2 h3 h4
    have c0 := hpv.blk.cell 1 _ rfl
    simp only [three] at c0
    have hown : OffInts base W3 v1 ws := hpv.own 1 (by omega)
    have hne : ∀ k, v1.ownBlock = some k → k ≠ pb := fun k hk => hpv.ne 1 k (by omega) hk
    have HPV := Lib.hid hpv
    have HCL := Lib.hid (And.intro hps (And.intro hvs hcl))
    have HOWN := Lib.hid hown
    have HNE := Lib.hid hne
    have HLEN : Hid ((ws.length : Int) ≤ 100000) := Lib.hid (by have := HLS.out; omega)
    clear hpv hown hne hcl hps hvs
    go_wp2_with (at_builtin; refine wpList_append_off W3 rfl (.tmp 49) (.tmp 51) 22 rfl base (by kernel_rfl) Try.infoInt v1 ws rfl HOWN.out (i + 1) rfl HLEN.out HP4.out.base_le ?_)
    intro g1 o1 cap1 w4 hown4 hu4 hg4
    have hb4 := HPV.out.blk.keep hu4 (by simp; exact fun hh => HNE.out _ hh rfl)
    have d0 := hb4.cell 1 _ rfl
    have f0 := hb4.free 1
    have hc := HCL.out.2.2 1 _ _ w4 (by omega) hu4 hown4 (fun k hk => by simp only [Value.ownBlock, Option.some.injEq] at hk; subst hk; exact hg4)
    have HC := Lib.hid hc
    clear hown4 hu4 hg4 hb4 hc
    go_upto_region 11 with fail
    obtain ⟨l1, hl1⟩ : ∃ l1, ws ++ [i + 1] = l1 := ⟨_, rfl⟩
    have HEB : Hid (EB base gb g' pb us l1 os Z [.int .i64 si, .int .i64 sp, .int .i64 sf] S w (w4.setCell ⟨pb, 1, none⟩ (.slice (some ⟨g1, o1, none⟩) (ws.length + 1) cap1))) := Lib.hid (by
      rw [← hl1]
      exact EB.step ⟨HP4.out, HST2.out, HZ4.out⟩ HC.out.1 HC.out.2)
    rw [hl1] at HX HSTn
    have HL1 : Hid ((l1.length : Int) ≤ 1001) := Lib.hid (by have := HX.out.2.2.2; have := HI.out.2.1; omega)
    clear HC HCL HPV HOWN HNE HLEN c0 d0 f0 hl1
    obtain ⟨W5, hW5⟩ : ∃ W5, w4.setCell ⟨pb, 1, none⟩ (.slice (some ⟨g1, o1, none⟩) (ws.length + 1) cap1) = W5 := ⟨_, rfl⟩
    rw [hW5] at HEB ⊢
    clear hW5 HP4 HST2 HZ4
    go_cut [13, 81] (fun b c wx => b = .bool true ∧ c = .bool false ∧ Hid (EB base gb g' pb us l1 os Z [.int .i64 si, .int .i64 sp, .int .i64 sf] S w wx))
    case first =>
      obtain ⟨v0, v1, v2, hpv, hps, hvs, hcl⟩ := HEB.out.p.open
      have c1 := hpv.blk.cell 1 _ rfl
      simp only [three] at c1
      have z0 := HEB.out.z.cell 0 _ rfl
      have hin := (hpv.own 1 (by omega)).isIn HX.out.2.2.1
      have HIN := Lib.hid hin
      have CH : Hid (∀ n, Calls Try.prog 27 #[v1, .int .i64 si] (W5.drewN n) fun e w' => e = .returned (.bool true) ∧ W5.drewN n = w') := Lib.hid (fun n => by
        have hh := has_any v1 l1 si (W5.drewN n) HIN.out (by have := HL1.out; omega)
        simpa only [HX.out.1, decide_true] using hh)
      have e1 : (si == i + 1) = false := by simpa using HX.out.2.1
      have e2 : decide (si = i + 1) = false := by simpa using HX.out.2.1
      clear hpv hps hvs hcl hin
      go_quiet ((go_at_call 27; exact quietSame (CH.out _)))
      go_wp2_with fail
      go_meet
      exact ⟨rfl, rfl, HEB.out.next (Upd.drewN [] _ _)⟩
    case rest =>
      obtain ⟨rfl, rfl, HB⟩ := hcut
      clear HEB
      go_upto_region 13 with fail
      go_cut [13] (fun b wx => b = .bool true ∧ Hid (EB base gb g' pb us (lessOf l1 si) os Z [.int .i64 si, .int .i64 sp, .int .i64 sf] S w wx))
      case first =>
        obtain ⟨v0, v1, v2, hpv, hps, hvs, hcl⟩ := HB.out.p.open
        have c1 := hpv.blk.cell 1 _ rfl
        simp only [three] at c1
        have z0 := HB.out.z.cell 0 _ rfl
        have hin : IntsIn wc.drew v1 l1 := (hpv.own 1 (by omega)).isIn HX.out.2.2.1
        have CW := Lib.hid (without_any v1 l1 si wc.drew hin (by have := HL1.out; omega))
        have HPV := Lib.hid (And.intro hpv hcl)
        clear hpv hps hvs hcl hin
        go_region_with (go_at_call 38; refine CW.out.mono ?_; rintro e w1 ⟨v', rfl, ho, hbel⟩; obtain ⟨a1, p1, rfl⟩ := own_len ho; have hu1 := (Upd.drew [] wc).trans (Upd.ofBelow hbel); have hb1 := HPV.out.1.blk.keep hu1 (by simp); have d1 := hb1.cell 1 _ rfl; have f1 := hb1.free 1; have HO := Lib.hid ho; have HU := Lib.hid hu1; clear ho hbel hb1 hu1)
        all_goals go_wp2_with fail
        all_goals
          go_meet
          have hs1 := HPV.out.2 1 _ _ w1 (by omega) (HU.out.mono (by simp)) (HO.out.off.mono HB.out.p.base_le) (fun k hk => .inr (HO.out.lt k hk).1)
          exact ⟨rfl, HB.out.step hs1.1 hs1.2⟩
      case rest =>
        obtain ⟨rfl, HC⟩ := hcut
        clear HB
        go_upto_region 14 with fail
        go_cut [13] (fun b wx => b = .bool true ∧ Hid (EB base gb g' pb us (lessOf l1 si) (os ++ [si]) Z [.int .i64 si, .int .i64 sp, .int .i64 sf] S w wx))
        case first =>
          obtain ⟨v0, v1, v2, hpv, hps, hvs, hcl⟩ := HC.out.p.open
          have c2 := hpv.blk.cell 2 _ rfl
          simp only [three] at c2
          have c2' := (Upd.alloc [] wc (.cells #[.int .i64 si] 3)).cell (a := ⟨pb, 2, none⟩) c2 (by simp)
          have z0 := HC.out.z.cell 0 _ rfl
          have hown : OffInts base wc v2 os := hpv.own 2 (by omega)
          have hne : ∀ k, v2.ownBlock = some k → k ≠ pb := fun k hk => hpv.ne 2 k (by omega) hk
          have HPV := Lib.hid (And.intro hpv hcl)
          have HOWN := Lib.hid hown
          have HNE := Lib.hid hne
          have HBS := Lib.hid HC.out.p.base_le
          clear hpv hps hvs hcl hown hne
          go_region_law (refine step_append_off rfl (.tmp 96) (.tmp 99) 22 rfl base (by kernel_rfl) Try.infoInt v2 os (by simp [Act.eval]) (HOWN.out.owns (w' := wc.drew.alloc (.cells #[.int .i64 si] 3)) ((Upd.drew [] wc).trans (Upd.alloc [] _ _)) (by simp)) ⟨wc.heap.size, 0, none⟩ si (by simp [Act.eval]) (BlockAt.cell (BlockAt.new wc.drew 3 [.int .i64 si]) 0 _ rfl) (by have := HLS.out; omega) (by simp; have := HBS.out; omega) ?_; intro g' o' cap' w1 hown1 hu1 hg1; have hu2 := (((Upd.drew [] wc).trans (Upd.alloc [] _ (.cells #[.int .i64 si] 3))).mono (T := v2.ownBlock.toList) (by simp)).trans hu1; have hb1 := HPV.out.1.blk.keep hu2 (by simp; exact fun hh => HNE.out _ hh rfl); have d2 := hb1.cell 2 _ rfl; have f2 := hb1.free 2; have HO := Lib.hid hown1; have HU := Lib.hid hu2; have HGG := Lib.hid (hg1.imp id (fun hh => show wc.heap.size ≤ g' by simp at hh; omega)); clear hown1 hu1 hg1 hu2 hb1)
          all_goals go_wp2_with fail
          all_goals
            go_meet
            have hs1 := HPV.out.2 2 _ _ w1 (by omega) HU.out HO.out (fun k hk => by simp only [Value.ownBlock, Option.some.injEq] at hk; subst hk; exact HGG.out)
            exact ⟨rfl, HC.out.step hs1.1 hs1.2⟩
        case rest =>
          obtain ⟨rfl, HB⟩ := hcut
          clear HC
          go_wp2_with fail
          go_ret
          exact ⟨rfl, g', _, _, _, HB.out.p.sub (fun k hk => List.mem_cons_of_mem _ hk), HSTn.out, HK.out.1, HK.out.2, HB.out.st⟩
end Go.Proofs.Ytklbnldkfohkpaa
