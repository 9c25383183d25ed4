/- Layer 23: the walk of AdmitEnds. -/
import Derived.Test.YtklbnldkfohkpaaGateV
namespace Go.Proofs.Ytklbnldkfohkpaa
open Go.RowKit
theorem head_less {id : Int} {us : List Int} (h : (id :: us).count id ≤ 1) : lessOf (id :: us) id = us := by
  rw [← erase_less h, List.erase_cons_head]
theorem St.gone1 {g g' : Gt} {i id : Int} {us ws os ids : List Int} {E : Int} (h : St g i (id :: us) ws os E) (hd : GoneIs g id ids g') :
    OnOk ws ids ∧ St g' i (us ++ ids) (ids.foldl lessOf ws) (os ++ [id]) E := by
  have h1 := h.pi.one id
  have h2 : 1 ≤ (id :: us).count id := List.count_pos_iff.2 (by simp)
  have h3 := h.gone hd
  rw [head_less (by omega), less_self (l := ws) (by omega), if_pos (.inl (by simp))] at h3
  exact h3
theorem St.done1 {g g' : Gt} {i now id took : Int} {well : Bool} {us ws os ids : List Int} {E : Int} (h : St g i (id :: us) ws os E) (hd : DoneIs g now id took well ids g') (h0 : 0 ≤ now) (h1 : now ≤ 1000000) (h2 : 1 ≤ took) (h3 : took ≤ 1000) :
    OnOk ws ids ∧ St g' i (us ++ ids) (ids.foldl lessOf ws) (os ++ [id]) E := by
  have h4 := h.pi.one id
  have h5 := h.done hd (by simp) h0 h1 h2 h3
  rw [head_less (by omega)] at h5
  exact h5
theorem St.over {g : Gt} {i : Int} {ws os : List Int} {E : Int} (h : St g i [] ws os E) : g.n = 0 ∧ ws = [] ∧ g.U = [] := by
  have h1 := h.pi.u
  have h2 := h.pi.ok.lim.l0
  have h3 := h.pi.ok.lim.l1
  have h4 := h.full (by rw [h1]; simp; omega)
  have h5 := h.pi.wn
  exact ⟨h4, List.eq_nil_of_length_eq_zero (by omega), h1⟩
structure EndR (base : Nat) (w2 wr : World) (gb pb : Nat) (S : List Nat) (os0 : List Int) (g : Gt) (us ws os : List Int) (E : Int) (r : Nat) (t : Int) : Prop where
  p : Placed base wr gb g pb us ws os0 S
  st : St g 40 us ws os E
  cnt : us.length + ws.length + r ≤ 40
  now : 0 ≤ t ∧ t ≤ 1000 + (r : Int)
  q : QStep base S w2 wr
def EndL (base : Nat) (w2 wr : World) (gb pb : Nat) (S : List Nat) (os0 : List Int) (r : Nat) (t : Int) : Prop := ∃ g us ws os E, EndR base w2 wr gb pb S os0 g us ws os E r t
theorem EndR.step {base : Nat} {w2 wr w' : World} {gb pb : Nat} {S : List Nat} {os0 : List Int} {g g' : Gt} {id : Int} {us ws os ids : List Int} {E : Int} {r : Nat} {t : Int} (h : EndR base w2 wr gb pb S os0 g (id :: us) ws os E r t)
    (hok : OnOk ws ids) (hst : St g' 40 (us ++ ids) (ids.foldl lessOf ws) (os ++ [id]) E) (hp : Placed base w' gb g' pb (us ++ ids) (ids.foldl lessOf ws) os0 S) (hq : QStep base S wr w') : EndL base w2 w' gb pb S os0 (r + 1) (t + 1) := by
  refine ⟨g', _, _, _, E, hp, hst, ?_, ?_, h.q.trans hq⟩
  · have h1 := on_len hok (fun id => by have := h.st.pi.one id; omega)
    have := h.cnt
    simp only [List.length_append, List.length_cons] at this ⊢
    omega
  · have := h.now; omega
def PlL2 (base : Nat) (w2 wr : World) (gb pb : Nat) (S : List Nat) (M lo hi : Int) (j : Nat) (now : Int) : Prop := ∃ g us ws os E, PlR base w2 wr gb pb S M lo hi g us ws os j now E
set_option maxRecDepth 100000 in
set_option maxHeartbeats 4000000 in
theorem ends_walk (n0 m0 : Int) (v : Value) (zs : List Int) (well : Bool) (w : World) (hn1 : -9223372036854775808 ≤ n0) (hn2 : n0 ≤ 9223372036854775807) (hm1 : -9223372036854775808 ≤ m0) (hm2 : m0 ≤ 9223372036854775807) (h : IntsIn w v zs) :
    Calls Try.prog 6 #[.int .i64 n0, .int .i64 m0, v, .bool well] w (TruePost w) := by
  have cm := made_any n0 m0 w hn1 hn2 hm1 hm2
  have a0 := around_nonneg m0 6 (by omega)
  have a1 := around_lt m0 6 (by omega)
  obtain ⟨l1, l2, l3, l4⟩ := low_facts n0
  obtain ⟨lo, hlo⟩ : ∃ k : Int, lowOf n0 = k := ⟨_, rfl⟩
  obtain ⟨hi, hhi⟩ : ∃ k : Int, highOf n0 = k := ⟨_, rfl⟩
  obtain ⟨M, hM⟩ : ∃ k : Int, around m0 6 = k := ⟨_, rfl⟩
  rw [hlo, hhi] at l2
  rw [hlo] at l1 l4
  rw [hhi] at l3
  rw [hM] at a0 a1
  rw [hlo, hhi, hM] at cm
  have CM := Lib.hid cm
  have HST0 := Lib.hid (start_st l1 l2 (show hi ≤ 1000 by omega) a0 (show M ≤ 1000 by omega))
  have HF := Lib.hid (And.intro (And.intro l1 l2) (And.intro l3 (And.intro a0 a1)))
  have HIN := Lib.hid h
  clear cm hlo hhi hM hn1 hn2 hm1 hm2 l1 l2 l3 l4 a0 a1 h
  go_enter Try.func6, Try.ntmps6
  go_wp2_with fail
  refine CM.out.mono ?_
  rintro e w1 ⟨gb, rfl, hg, hst⟩
  have hg0 := hg.next (Upd.alloc [] w1 (.cells #[.int .i64 lo, .int .i64 hi, .int .i64 lo, .int .i64 0, .bool false, .int .i64 0, .int .i64 M, .slice none 0 0, .int .i64 0, .int .i64 0, .int .i64 0, .int .i64 0, .slice none 0 0] 59))
  have hst0 := hst.trans (hg.step0 (Upd.alloc [] w1 (.cells #[.int .i64 lo, .int .i64 hi, .int .i64 lo, .int .i64 0, .bool false, .int .i64 0, .int .i64 M, .slice none 0 0, .int .i64 0, .int .i64 0, .int .i64 0, .int .i64 0, .slice none 0 0] 59)))
  have HG0 := Lib.hid hg0
  have HS0 := Lib.hid hst0
  clear hg hst hg0 hst0 CM
  unfold refG
  go_upto_region 2 with fail
  obtain ⟨W0, hW0⟩ : ∃ W0, w1.alloc (.cells #[.int .i64 lo, .int .i64 hi, .int .i64 lo, .int .i64 0, .bool false, .int .i64 0, .int .i64 M, .slice none 0 0, .int .i64 0, .int .i64 0, .int .i64 0, .int .i64 0, .slice none 0 0] 59) = W0 := ⟨_, rfl⟩
  obtain ⟨Zg, hZg⟩ : ∃ Zg, w1.heap.size = Zg := ⟨_, rfl⟩
  rw [hW0] at HG0 HS0
  rw [hW0, hZg]
  clear hW0 hZg
  have hp1 := HG0.out.noPlaces
  have hst1 : QStep w.heap.size [] w (W0.alloc (.cells #[.slice none 0 0, .slice none 0 0, .slice none 0 0] 45)) := HS0.out.trans (HG0.out.step0 (Upd.alloc [] _ _))
  have HP1 := Lib.hid hp1
  have HS1 := Lib.hid hst1
  clear HG0 HS0 hp1 hst1
  go_upto_region 5 with fail
  obtain ⟨W1, hW1⟩ : ∃ W1, W0.alloc (.cells #[.slice none 0 0, .slice none 0 0, .slice none 0 0] 45) = W1 := ⟨_, rfl⟩
  obtain ⟨pb, hpb⟩ : ∃ pb, W0.heap.size = pb := ⟨_, rfl⟩
  rw [hW1, hpb] at HP1
  rw [hW1] at HS1
  rw [hW1, hpb]
  clear hW1 hpb
  have CA := Lib.hid (acts_any v zs W1 (HIN.out.keep (Upd.ofBelow HS1.out.below) (by simp)))
  go_wp2_with fail
  refine CA.out.mono ?_
  rintro e w2 ⟨va, l, rfl, hacts, hbel, hl40, hok⟩
  obtain ⟨ao, acap, rfl⟩ := newActs hacts
  have hp2 := HP1.out.news (Upd.ofBelow hbel) (.slice ao l.length acap) (fun k hk => hacts.lt k hk)
  have hst2 : Below w.heap.size w w2 := HS1.out.below.trans (hbel.mono HS1.out.size)
  obtain ⟨S, hS⟩ : ∃ S, (Value.slice ao l.length acap).ownBlock.toList ++ [] = S := ⟨_, rfl⟩
  rw [hS] at hp2
  have HP2 : Hid (PlL2 w.heap.size w2 w2 gb pb S M lo hi 0 0) := Lib.hid ⟨_, _, _, _, _, hp2, HST0.out, rfl, rfl, rfl, QStep.refl _ _ _, by omega⟩
  have HBW := Lib.hid hst2
  have HSA : Hid (∀ g, ao = some ⟨g, 0, none⟩ → g ∈ S) := Lib.hid (fun g hg => by rw [← hS, hg]; simp [Value.ownBlock])
  have HOK := Lib.hid hok
  have HACTS := Lib.hid hacts
  obtain ⟨N, hN⟩ : ∃ N, l.length = N := ⟨_, rfl⟩
  have HN := Lib.hid hN
  rw [hN] at hl40 ⊢
  have h40 : (N : Int) ≤ 40 := by omega
  have hN0 : (0 : Int) ≤ N := by omega
  clear hp2 hst2 hS hacts hok hbel HP1 HS1 CA HST0 HIN hN hl40
  go_upto_block 0 with fail
  go_cut [13] (fun nv wx => ∃ t : Int, nv = .int .i64 t ∧ Hid (PlL2 w.heap.size w2 wx gb pb S M lo hi N t))
  case first =>
    go_wp2_with fail
    go_loopw [13, 14] (fun now i wr => ∃ (j : Nat) (t : Int), j ≤ N ∧ now = .int .i64 t ∧ i = .int .i64 j ∧ Hid (PlL2 w.heap.size w2 wr gb pb S M lo hi j t)) (fun _ i _ => N - (intOf i).toNat)
    case atStart => exact ⟨0, 0, by omega, rfl, rfl, HP2⟩
    case round =>
      obtain ⟨j, t, hj, rfl, rfl, HP⟩ := hrel
      clear HP2
      by_cases hlt : j < N
      · obtain ⟨a, ha⟩ : ∃ a, l[j]? = some a := ⟨l[j]'(by rw [HN.out]; exact hlt), by simp [HN.out, hlt]⟩
        have hao := HOK.out a (List.mem_of_getElem? ha)
        obtain ⟨g, us, ws, os, e, hpl⟩ := HP.out
        obtain ⟨gA, rfl, hcell⟩ : ∃ gA, ao = some ⟨gA, 0, none⟩ ∧ ∀ (c : Nat) (u : Value), a.cells[c]? = some u → wr.cell? ⟨gA, j * 7 + c, none⟩ = some u := by
          rcases HACTS.out.read with ⟨h0, -⟩ | ⟨gA, c2, hv, -, hlt, -, -, hc⟩
          · rw [h0] at ha; simp at ha
          · cases hv
            refine ⟨gA, rfl, fun c u hu => ?_⟩
            rw [World.cell?_of_block (hpl.q.same gA (HSA.out gA rfl))]
            exact hc j a ha c u hu
        have x0 := hcell 0 _ rfl
        have x1 := hcell 1 _ rfl
        have x2 := hcell 2 _ rfl
        have x3 := hcell 3 _ rfl
        have x4 := hcell 4 _ rfl
        have x5 := hcell 5 _ rfl
        have x6 := hcell 6 _ rfl
        rw [Nat.add_zero] at x0
        have HPL := Lib.hid hpl
        have HAO := Lib.hid hao
        have hnow := hpl.now
        have hlat := hao.later
        have hee := hpl.st.e
        have he0 : 0 ≤ e := by have := hpl.st.len; omega
        have q0 : (0 : Int) ≤ j := by omega
        have q1 : (j : Int) < N := by omega
        have ew := IntWalk.i64_in (t + a.later) (by omega)
        have ew2 := IntWalk.i64_in (1 + (j : Int)) (by omega)
        have HJ := Lib.hid (And.intro hlt hnow)
        clear hpl hao ha hcell hnow hlt
        obtain ⟨al, ad, ab, ap, af, at', aw⟩ := a
        dsimp only at x0 x1 x2 x3 x4 x5 x6 ew hlat
        have hlim := if_lim (g := g) (P := ad = 1 ∧ (j : Int) + 1 - ab ∈ us) (t + al) us.length at' aw
        have ca := act_any w.heap.size gb g pb us ws os S ⟨al, ad, ab, ap, af, at', aw⟩ j (t + al) e _ HPL.out.p HPL.out.st (by omega) (by omega) (by have := HJ.out; omega) (by have := HJ.out; omega) HAO.out
        dsimp only at ca
        obtain ⟨d, hd⟩ : ∃ d : Int, (if ad = 0 then 1 else 0) = d := ⟨_, rfl⟩
        rw [hd] at ca
        obtain ⟨L, hL⟩ : ∃ L, (if ad = 1 ∧ (j : Int) + 1 - ab ∈ us then g.lim.done (t + al) us.length at' aw else g.lim) = L := ⟨_, rfl⟩
        rw [hL] at ca hlim
        rw [Int.add_comm (j : Int) 1] at ca
        unfold AcT.val AcT.cells at ca
        dsimp only at ca
        have CA := Lib.hid ca
        have HLL := Lib.hid hlim
        clear ca hlim hL hd
        go_wp2_with fail
        refine CA.out.mono ?_
        rintro e3 w3 hpost
        obtain ⟨rfl, g2, us2, ws2, os2, hpl2, -⟩ := HPL.out.act HAO.out (by omega) hpost HLL.out
        dsimp only at hpl2
        have HP2 := Lib.hid hpl2
        clear hpost hpl2 CA HLL HPL HP x0 x1 x2 x3 x4 x5 x6
        go_wp2_with fail
        go_roundw
        case rel => exact ⟨j + 1, t + al, by have := HJ.out; omega, rfl, by go_num, Lib.hid ⟨_, _, _, _, _, HP2.out⟩⟩
        case measure => have := HJ.out; simp [intOf] <;> omega
      · obtain rfl : j = N := by omega
        go_wp2_with fail
        go_meet
        exact ⟨t, rfl, HP⟩
  case rest =>
    obtain ⟨t0, rfl, HP⟩ := hcut
    have he0 : ∃ os0, EndL w.heap.size w2 wc gb pb S os0 0 t0 := by
      obtain ⟨g, us, ws, os, E, hpl⟩ := HP.out
      have b1 := hpl.st.len
      have b2 := hpl.st.e
      have b3 := hpl.now
      exact ⟨os, g, us, ws, os, E, hpl.p, hpl.st.mono (by omega), by omega, by omega, hpl.q⟩
    obtain ⟨os0, he0⟩ := he0
    have HE0 := Lib.hid he0
    clear he0 HP HP2 HACTS HOK HSA HN h40 hN0
    go_wp2_with fail
    go_loopw [13, 15] (fun now i wr => ∃ (r : Nat) (t : Int), now = .int .i64 t ∧ i = .int .i64 r ∧ Hid (EndL w.heap.size w2 wr gb pb S os0 r t)) (fun _ i _ => 40 - (intOf i).toNat)
    case atStart => exact ⟨0, t0, rfl, rfl, HE0⟩
    case round =>
      obtain ⟨r, t, rfl, rfl, HE⟩ := hrel
      clear HE0
      obtain ⟨g, us, ws, os, E, he⟩ := HE.out
      have hnow := he.now
      have hcnt := he.cnt
      have r0 : (0 : Int) ≤ r := by omega
      have r1 : (r : Int) < 60 := by omega
      obtain ⟨v0, v1, v2, hpv, hps, hvs, hcl⟩ := he.p.open
      have h0 : OffInts w.heap.size wr v0 us := hpv.own 0 (by omega)
      have c0 := hpv.blk.cell 0 _ rfl
      simp only [three] at c0
      cases us with
      | nil =>
        obtain ⟨a0, p0, rfl⟩ := h0.len
        have h1 : OffInts w.heap.size wr v1 ws := hpv.own 1 (by omega)
        have c1 := hpv.blk.cell 1 _ rfl
        simp only [three] at c1
        obtain ⟨a1, p1, rfl⟩ := h1.len
        obtain ⟨o1, o2, o3⟩ := he.st.over
        have CU := Lib.hid (under_p _ gb g pb _ _ _ S wr he.p)
        have CW := Lib.hid (waiting_p _ gb g pb _ _ _ S wr he.p)
        rw [o3] at CU
        rw [o1] at CW
        subst o2
        have HBL := Lib.hid (HBW.out.trans he.q.below)
        clear h0 h1 hpv hps hvs hcl he HE o1 o3 hcnt hnow
        simp only [List.length_nil] at c0 c1 CU
        go_wp2_with fail
        refine CU.out.mono ?_
        rintro e w7 ⟨rfl, rfl⟩
        go_wp2_with fail
        refine CW.out.mono ?_
        rintro e w7 ⟨rfl, rfl⟩
        go_wp2_with fail
        refine (lives_any _).mono ?_
        rintro e2 w9 ⟨rfl, hb9⟩
        have HE9 := Lib.hid (HBL.out.trans (hb9.mono HBL.out.size))
        clear hb9
        go_wp2_with fail
        go_ret
        exact ⟨rfl, HE9.out⟩
      | cons id us1 =>
        obtain ⟨gU, oU, cU, rfl, hlc, hcm, hcs⟩ : ∃ gU oU cU, v0 = .slice (some ⟨gU, oU, none⟩) (us1.length + 1) cU ∧ us1.length + 1 ≤ cU ∧ cU ≤ maxLen ∧ ∀ j z, (id :: us1)[j]? = some z → wr.cell? ⟨gU, oU + j, none⟩ = some (.int .i64 z) := by
          rcases h0.read with ⟨-, hh⟩ | ⟨gU, oU, cU, hv, h2, h3, h4⟩
          · cases hh
          · exact ⟨gU, oU, cU, hv, h2, h3, h4⟩
        have x0 := hcs 0 id rfl
        rw [Nat.add_zero] at x0
        have f0 := hpv.blk.free 0
        have ht := h0.tail
        have hs1 := hcl 0 _ us1 wr (by omega) ((Upd.refl _ _)) ht (fun k hk => .inl (by
          show (Value.slice (some ⟨gU, oU, none⟩) (us1.length + 1) cU).ownBlock = some k
          by_cases e : cU = 1
          · simpa [e, Value.ownBlock] using hk
          · simpa [e, Value.ownBlock] using hk))
        obtain ⟨n1, hn1⟩ : ∃ n1, us1.length = n1 := ⟨_, rfl⟩
        rw [hn1] at hs1 c0 hlc
        have HS1 := Lib.hid hs1
        have HEE := Lib.hid he
        have HN1 := Lib.hid hn1
        have e1 := IntWalk.i64_in (t + 1) (by omega)
        have k1 : (1 : Int) ≤ cU := by omega
        have k2 : (n1 : Int) + 1 ≤ cU := by omega
        clear h0 hpv hps hvs hcl he HE hcs ht hs1 hn1
        simp only [List.length_cons] at hcnt
        go_upto_region 19 with fail
        obtain ⟨vt, hvt⟩ : ∃ vt, Value.slice (if cU = 1 then some ⟨gU, oU, none⟩ else some ⟨gU, oU + 1, none⟩) n1 (cU - 1) = vt := ⟨_, rfl⟩
        rw [hvt] at HS1
        rw [hvt]
        obtain ⟨W5, hW5⟩ : ∃ W5, wr.setCell ⟨pb, 0, none⟩ vt = W5 := ⟨_, rfl⟩
        have HS2 : Hid (Placed w.heap.size W5 gb g pb us1 ws os0 S ∧ QStep w.heap.size S wr W5) := Lib.hid (by rw [← hW5]; exact HS1.out)
        rw [hW5]
        clear hW5 hvt HS1 c0 x0 f0 k1 k2 hcm hlc
        have HS1 := HS2
        clear HS2
        by_cases hr3 : (r : Int) % 3 = 2
        · have e3 : ((r : Int) % 3 == 2) = true := by simpa using hr3
          have CD := Lib.hid (gone_p w.heap.size gb g pb _ _ _ _ id W5 HS1.out.1 HEE.out.st.pi.ok)
          clear hr3
          go_wp2_with fail
          refine CD.out.mono ?_
          rintro e w5 ⟨ids, vv, g', hd, rfl, hown, hp5, hst5⟩
          obtain ⟨hok, hst⟩ := HEE.out.st.gone1 hd
          have hI := HEE.out.st.pi.ints (by omega)
          have hil := on_len hok (fun k => by have := HEE.out.st.pi.one k; omega)
          have CO := Lib.hid (on_p w.heap.size _ gb g' pb _ _ _ ids _ vv w5 hp5 hown hok (fun z hz => hI.2.1 z (on_sub hok z hz)) hI.2.1 (by show (us1.length : Int) + _ ≤ _; have := HEE.out.cnt; simp only [List.length_cons] at this; omega) (by show (ws.length : Int) ≤ _; have := HEE.out.cnt; omega))
          have HST := Lib.hid (And.intro hok hst)
          have HST5 := Lib.hid hst5
          clear hd hown hp5 hst5 hok hst hI hil CD
          go_wp2_with fail
          refine CO.out.mono ?_
          rintro e w6 ⟨rfl, hp6, hst6⟩
          have HEN := Lib.hid (HEE.out.step HST.out.1 HST.out.2 hp6 ((HS1.out.2.trans HST5.out).trans hst6))
          clear hp6 hst6 CO HST5 HST HS1 HEE
          go_wp2_with fail
          go_roundw
          case rel => exact ⟨r + 1, t + 1, rfl, by go_num, HEN⟩
          case measure => simp [intOf] <;> omega
        · have e3 : ((r : Int) % 3 == 2) = false := by simpa using hr3
          have e5 := IntWalk.i64_in (1 + (r : Int) % 5) (by omega)
          have CD := Lib.hid (done_p w.heap.size gb g pb _ _ _ _ (t + 1) id (1 + (r : Int) % 5) well W5 HS1.out.1 HEE.out.st.pi.ok (by omega) (by omega) (by omega) (by omega))
          clear hr3
          go_wp2_with fail
          refine CD.out.mono ?_
          rintro e w5 ⟨ids, vv, g', hd, rfl, hown, hp5, hst5⟩
          obtain ⟨hok, hst⟩ := HEE.out.st.done1 hd (by omega) (by omega) (by omega) (by omega)
          have hI := HEE.out.st.pi.ints (by omega)
          have hil := on_len hok (fun k => by have := HEE.out.st.pi.one k; omega)
          have CO := Lib.hid (on_p w.heap.size _ gb g' pb _ _ _ ids _ vv w5 hp5 hown hok (fun z hz => hI.2.1 z (on_sub hok z hz)) hI.2.1 (by show (us1.length : Int) + _ ≤ _; have := HEE.out.cnt; simp only [List.length_cons] at this; omega) (by show (ws.length : Int) ≤ _; have := HEE.out.cnt; omega))
          have HST := Lib.hid (And.intro hok hst)
          have HST5 := Lib.hid hst5
          clear hd hown hp5 hst5 hok hst hI hil CD
          go_wp2_with fail
          refine CO.out.mono ?_
          rintro e w6 ⟨rfl, hp6, hst6⟩
          have HEN := Lib.hid (HEE.out.step HST.out.1 HST.out.2 hp6 ((HS1.out.2.trans HST5.out).trans hst6))
          clear hp6 hst6 CO HST5 HST HS1 HEE
          go_wp2_with fail
          go_roundw
          case rel => exact ⟨r + 1, t + 1, rfl, by go_num, HEN⟩
          case measure => simp [intOf] <;> omega
end Go.Proofs.Ytklbnldkfohkpaa
