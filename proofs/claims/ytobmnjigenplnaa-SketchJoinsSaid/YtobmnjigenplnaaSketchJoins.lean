/- Layer 13: the walk of SketchJoins. -/
import Derived.Test.YtobmnjigenplnaaSketchJoin
namespace Go.Proofs.Ytobmnjigenplnaa
open Go.RowKit
structure St (w0 w : World) (L : List (Nat × Nat × List Nat)) : Prop where
  sk : ∀ b m l, (b, m, l) ∈ L → SkAt w b m l
  below : Below w0.heap.size w0 w
theorem St.next {w0 w w' : World} {L : List (Nat × Nat × List Nat)} (h : St w0 w L) (hb : Below w.heap.size w w') : St w0 w' L :=
  ⟨fun b m l hm => (h.sk b m l hm).keep (Upd.ofBelow hb) (by simp) (by simp), h.below.trans (hb.mono h.below.size)⟩
theorem St.add {w0 w w' : World} {L : List (Nat × Nat × List Nat)} (h : St w0 w L) (hb : Below w.heap.size w w') {b m : Nat} {l : List Nat} (hs : SkAt w' b m l) : St w0 w' ((b, m, l) :: L) :=
  ⟨fun b' m' l' hm => by
    rcases List.mem_cons.1 hm with he | hm
    · cases he; exact hs
    · exact (h.next hb).sk b' m' l' hm, (h.next hb).below⟩
def NewPost (w0 w : World) (L : List (Nat × Nat × List Nat)) (l : List Nat) (e : Ending) (w' : World) : Prop :=
  ∃ B, e = .returned (.pointer (some ⟨B + 1, 0, none⟩)) ∧ Hid (St w0 w' ((B + 1, B, l) :: L)) ∧ Hid (w.heap.size = B) ∧ Hid (Below w.heap.size w w')
theorem of_st {w0 w : World} {L : List (Nat × Nat × List Nat)} (h : St w0 w L) (v : Value) (l : List Nat) (hi : IntsIn w v (nats l)) (hlen : l.length ≤ 1000) (hl : ∀ n ∈ l, n < 4611686018427387904) :
    Calls Try.prog 19 #[v] w (NewPost w0 w L l) :=
  (of_any v l w hi hlen hl).mono fun _ _ ⟨he, hs, hb⟩ => ⟨_, he, h.add hb hs, rfl, hb⟩
theorem join_st {w0 w : World} {L : List (Nat × Nat × List Nat)} (h : St w0 w L) {b m b2 m2 : Nat} {l l2 : List Nat} (h1 : (b, m, l) ∈ L) (h2 : (b2, m2, l2) ∈ L) (hlen : l.length + l2.length ≤ 900)
    (hl : ∀ n ∈ l, n < 4611686018427387904) (hl2 : ∀ n ∈ l2, n < 4611686018427387904) :
    Calls Try.prog 24 #[.pointer (some ⟨b, 0, none⟩), .pointer (some ⟨b2, 0, none⟩)] w (NewPost w0 w L (l ++ l2)) :=
  (join_any b m b2 m2 l l2 w (h.sk _ _ _ h1) (h.sk _ _ _ h2) hlen hl hl2).mono fun _ _ ⟨he, hs, hb⟩ => ⟨_, he, h.add hb hs, rfl, hb⟩
theorem at_st {w0 w : World} {L : List (Nat × Nat × List Nat)} (h : St w0 w L) {b m : Nat} {l : List Nat} (p T : Nat) (h1 : (b, m, l) ∈ L) (hlen : (l.length : Int) ≤ 999) (hl : ∀ n ∈ l, n < 4611686018427387904) (hp : (p : Int) ≤ 1000) (hT : atVal l p = T) :
    Calls Try.prog 21 #[.pointer (some ⟨b, 0, none⟩), .int .i64 p] w (fun e w' => e = .returned (.int .i64 T) ∧ Hid (St w0 w' L)) :=
  (atv_any b m l p w (h.sk _ _ _ h1) hlen hl hp).mono fun _ _ ⟨he, hb⟩ => ⟨by rw [he, hT], h.next hb⟩
theorem rat_st {w0 w : World} {L : List (Nat × Nat × List Nat)} (h : St w0 w L) (v : Value) {l : List Nat} (p T : Nat) (hi : IntsIn w0 v (nats l)) (hlen : l.length ≤ 1000) (hl : ∀ n ∈ l, n < 4611686018427387904) (hp : (p : Int) ≤ 1000) (hT : atVal l p = T) :
    Calls Try.prog 22 #[v, .int .i64 p] w (fun e w' => e = .returned (.int .i64 T) ∧ Hid (St w0 w' L)) :=
  (ratv_any v l p w (hi.keep (Upd.ofBelow h.below) (by simp)) hlen hl hp).mono fun _ _ ⟨he, hb⟩ => ⟨by rw [he, hT], h.next hb⟩
theorem len_st {w0 w : World} {L : List (Nat × Nat × List Nat)} (h : St w0 w L) {b m : Nat} {l : List Nat} (n : Nat) (h1 : (b, m, l) ∈ L) (hn : l.length = n) :
    Calls Try.prog 20 #[.pointer (some ⟨b, 0, none⟩)] w (fun e w' => e = .returned (.int .i64 n) ∧ w = w') :=
  (skLen_any b m l w (h.sk _ _ _ h1)).mono fun _ _ ⟨he, hb⟩ => ⟨by rw [he, hn], hb⟩
/-- The adding to one of the call's own: the others, that were there before it, stay. -/
theorem add_st {w0 w : World} {L L' : List (Nat × Nat × List Nat)} (h : St w0 w L) {B : Nat} {l : List Nat} (n : Nat) (h1 : (B + 1, B, l) ∈ L) (hlen : l.length ≤ 1000) (hn : n < 4611686018427387904) (hB : w0.heap.size ≤ B)
    (hL : ∀ b m l, (b, m, l) ∈ L' → (b, m, l) ∈ L ∧ b < B ∧ m < B) :
    Calls Try.prog 25 #[.pointer (some ⟨B + 1, 0, none⟩), .int .i64 n] w (fun e w' => e = .returned (.tuple #[]) ∧ Hid (St w0 w' L')) := by
  refine (add_any (B + 1) B l n w (h.sk _ _ _ h1) hlen hn).mono ?_
  rintro e w' ⟨he, -, hu⟩
  refine ⟨he, fun b m l hm => ?_, h.below.trans (hu.below h.below.size (by simp; omega))⟩
  obtain ⟨hm, hb, hmm⟩ := hL b m l hm
  exact (h.sk b m l hm).keep hu (by simp; omega) (by simp; omega)
/-- A row of numbers of the call's own, as it is read and as it is appended. -/
structure Row (w : World) (ao : Option Addr) (cap : Nat) (l : List Nat) : Prop where
  ints : IntsIn w (.slice ao l.length cap) (nats l)
  row : RowIn w 1 ao l.length cap ((nats l).map (Value.int .i64))
theorem Row.keep {w w' : World} {ao : Option Addr} {cap : Nat} {l : List Nat} (h : Row w ao cap l) (hb : Below w.heap.size w w') : Row w' ao cap l := by
  refine ⟨h.ints.keep (Upd.ofBelow hb) (by simp), h.row.1, h.row.2.1, fun ad ha j u hu => ?_⟩
  have := h.row.2.2 ad ha j u hu
  rw [hb.cell (World.block_lt_of_cell? w _ this)]; exact this
theorem row_of {base : Nat} {w : World} {v : Value} {l : List Nat} (h : OwnInts base w v (nats l)) (hl : ∀ n ∈ l, n < 4611686018427387904) : ∃ ao cap, v = .slice ao l.length cap ∧ Row w ao cap l := by
  have hi := h.isIn (nats_range hl)
  rcases h.read with ⟨h0, rfl⟩ | ⟨g, cap, rfl, -, -, -, -, hc⟩
  · have : l = [] := by simpa [nats] using h0
    subst this
    exact ⟨none, 0, rfl, hi, RowIn.empty _ _ _ _ (fun _ => rfl)⟩
  · rw [nats_length] at hi ⊢
    refine ⟨some ⟨g, 0, none⟩, cap, rfl, hi, by simp [nats], by simp, fun ad ha j u hu => ?_⟩
    cases ha
    rw [List.getElem?_map, Option.map_eq_some_iff] at hu
    obtain ⟨z, hz, rfl⟩ := hu
    simpa only [Addr.add_lit, Nat.zero_add] using hc j z hz
set_option maxRecDepth 100000 in
theorem joins_walk (v v2 v3 : Value) (zs zs2 zs3 : List Int) (p : Int) (w : World) (h : IntsIn w v zs) (h2 : IntsIn w v2 zs2) (h3 : IntsIn w v3 zs3) (p1 : -9223372036854775808 ≤ p) (p2 : p ≤ 9223372036854775807) :
    Calls Try.prog 9 #[v, v2, v3, .int .i64 p] w (TruePost w) := by
  obtain ⟨q, hq, hq1⟩ := aroundN p 1001 (by omega)
  obtain ⟨la, hla⟩ : ∃ l, numbers zs = l := ⟨_, rfl⟩
  obtain ⟨lb, hlb⟩ : ∃ l, numbers zs2 = l := ⟨_, rfl⟩
  obtain ⟨lc, hlc⟩ : ∃ l, numbers zs3 = l := ⟨_, rfl⟩
  have na := numbers_length zs
  have nb := numbers_length zs2
  have nc := numbers_length zs3
  have ta := numbers_lt zs
  have tb := numbers_lt zs2
  have tc := numbers_lt zs3
  rw [hla] at na ta
  rw [hlb] at nb tb
  rw [hlc] at nc tc
  have HQ := Lib.hid hq
  have HQ1 := Lib.hid (show (q : Int) ≤ 1000 by omega)
  have HLA := Lib.hid hla
  have HLB := Lib.hid hlb
  have HLC := Lib.hid hlc
  have TA := Lib.hid ta
  have TB := Lib.hid tb
  have TC := Lib.hid tc
  have HI1 := Lib.hid h
  have HI2 := Lib.hid h2
  have HI3 := Lib.hid h3
  clear hq hq1 hla hlb hlc ta tb tc h h2 h3
  go_enter Try.func9, Try.ntmps9
  go_wp2_with fail
  refine (numbers_any v zs _ HI1.out).mono ?_
  rintro e w1 ⟨u, rfl, hown, hb1⟩
  rw [show numbers zs = la from HLA.out] at hown
  obtain ⟨aa, ca, rfl, hra⟩ := row_of hown TA.out
  have HI2 := Lib.hid (HI2.out.keep (Upd.ofBelow hb1) (by simp))
  have HI3 := Lib.hid (HI3.out.keep (Upd.ofBelow hb1) (by simp))
  have HRA := Lib.hid hra
  have HB1 := Lib.hid hb1
  clear hown hra hb1
  go_wp2_with fail
  refine (numbers_any v2 zs2 _ HI2.out).mono ?_
  rintro e w2 ⟨u, rfl, hown, hb2⟩
  rw [show numbers zs2 = lb from HLB.out] at hown
  obtain ⟨ab, cb, rfl, hrb⟩ := row_of hown TB.out
  have HI3 := Lib.hid (HI3.out.keep (Upd.ofBelow hb2) (by simp))
  have HRA := Lib.hid (HRA.out.keep hb2)
  have HRB := Lib.hid hrb
  have HB2 := Lib.hid (HB1.out.trans (hb2.mono HB1.out.size))
  clear hown hrb hb2
  go_wp2_with fail
  refine (numbers_any v3 zs3 _ HI3.out).mono ?_
  rintro e w3 ⟨u, rfl, hown, hb3⟩
  rw [show numbers zs3 = lc from HLC.out] at hown
  obtain ⟨ac, cc, rfl, hrc⟩ := row_of hown TC.out
  have HRA := Lib.hid (HRA.out.keep hb3)
  have HRB := Lib.hid (HRB.out.keep hb3)
  have HRC := Lib.hid hrc
  have HB3 := Lib.hid (HB2.out.trans (hb3.mono HB2.out.size))
  clear hown hrc hb3
  go_wp2_with (at_builtin; refine wpList_append_view w3 rfl (.tmp 29) (.tmp 30) 26 rfl w3.heap.size 3 1 8 Try.infoInt (by kernel_rfl) rfl (by decide) (.slice none 0 0) 0 [] rfl (World.ownsRow_nil _ _ _ _) aa la.length ca ((nats la).map (Value.int .i64)) rfl HRA.out.row (int_cells _ _) (by unfold maxLen; omega) (by omega) (Nat.le_refl _) ?_)
  intro u4 w4 hown4 hup4
  have hb4 : Below w3.heap.size w3 w4 := hup4.below (Nat.le_refl _) (by simp [Value.ownBlock])
  have hn4 := hb4.size
  clear hup4
  go_wp2_with (at_builtin; refine wpList_append_view w4 rfl (.tmp 32) (.tmp 33) 26 rfl w3.heap.size 3 1 8 Try.infoInt (by kernel_rfl) rfl (by decide) u4 _ _ rfl hown4 ab lb.length cb ((nats lb).map (Value.int .i64)) rfl (HRB.out.keep hb4).row (int_cells _ _) (by unfold maxLen; omega) (by omega) hn4 ?_)
  intro u5 w5 hown5 hup5
  have hb5 : Below w3.heap.size w3 w5 := below_own hb4 hown4 hb4.size hup5
  have hn5 := hb5.size
  clear hup5 hown4
  go_wp2_with (at_builtin; refine wpList_append_view w5 rfl (.tmp 35) (.tmp 36) 26 rfl w3.heap.size 3 1 8 Try.infoInt (by kernel_rfl) rfl (by decide) u5 _ _ rfl hown5 ac lc.length cc ((nats lc).map (Value.int .i64)) rfl (HRC.out.keep hb5).row (int_cells _ _) (by unfold maxLen; omega) (by omega) hn5 ?_)
  intro u6 w6 hown6 hup6
  have hb6 : Below w3.heap.size w3 w6 := below_own hb5 hown5 hb5.size hup6
  clear hup6 hown5
  obtain ⟨lw, hlw⟩ : ∃ lw, lw = (la ++ lb) ++ lc := ⟨_, rfl⟩
  have hnw : lw.length = la.length + lb.length + lc.length := by rw [hlw]; simp; omega
  have tw : ∀ n ∈ lw, n < 4611686018427387904 := by
    rw [hlw]; intro n hn
    simp only [List.mem_append] at hn
    rcases hn with (hn | hn) | hn
    · exact TA.out n hn
    · exact TB.out n hn
    · exact TC.out n hn
  have hoi : OwnInts w3.heap.size w6 u6 (nats lw) := OwnInts.of hown6 (by simp only [nats, List.length_map, hlw, List.length_append]) (by simp [nats, hlw])
  obtain ⟨aw, cw, rfl, hrw⟩ := row_of hoi tw
  have HRW := Lib.hid hrw
  have HST := Lib.hid (show St w3 w6 [] from ⟨fun _ _ _ hm => absurd hm (by simp), hb6⟩)
  have TW := Lib.hid tw
  have HLW := Lib.hid hlw
  have HNW := Lib.hid hnw
  clear hown6 hoi hrw hb4 hb5 hn4 hn5 tw hlw hnw
  have TAB := Lib.hid (show ∀ n ∈ la ++ lb, n < 4611686018427387904 from fun n hn => (List.mem_append.1 hn).elim (TA.out n) (TB.out n))
  have TBC := Lib.hid (show ∀ n ∈ lb ++ lc, n < 4611686018427387904 from fun n hn => (List.mem_append.1 hn).elim (TB.out n) (TC.out n))
  have T1 := Lib.hid (show ∀ n ∈ (la ++ lb) ++ lc, n < 4611686018427387904 by rw [← HLW.out]; exact TW.out)
  have T2 := Lib.hid (show ∀ n ∈ la ++ (lb ++ lc), n < 4611686018427387904 by rw [← List.append_assoc, ← HLW.out]; exact TW.out)
  have T3 := Lib.hid (show ∀ n ∈ lc ++ (la ++ lb), n < 4611686018427387904 from fun n hn => (List.mem_append.1 hn).elim (TC.out n) (TAB.out n))
  obtain ⟨T, hT⟩ : ∃ T, atVal lw q = T := ⟨_, rfl⟩
  obtain ⟨TX, hTX⟩ : ∃ T, atVal la q = T := ⟨_, rfl⟩
  have HT := Lib.hid hT
  have HTX := Lib.hid hTX
  have HT1 := Lib.hid (show atVal ((la ++ lb) ++ lc) q = T by rw [← HLW.out]; exact hT)
  have HT2 := Lib.hid (show atVal (la ++ (lb ++ lc)) q = T by rw [← List.append_assoc, ← HLW.out]; exact hT)
  have HT3 := Lib.hid (show atVal (lc ++ (la ++ lb)) q = T by rw [atVal_perm List.perm_append_comm, ← HLW.out]; exact hT)
  clear hT hTX
  have NAB := Lib.hid (show (la ++ lb).length = la.length + lb.length from List.length_append)
  have NBC := Lib.hid (show (lb ++ lc).length = lb.length + lc.length from List.length_append)
  have N1 := Lib.hid (show ((la ++ lb) ++ lc).length = lw.length by rw [HLW.out])
  have N2 := Lib.hid (show (la ++ (lb ++ lc)).length = lw.length by rw [HLW.out, List.append_assoc])
  have N3 := Lib.hid (show (lc ++ (la ++ lb)).length = lw.length by rw [List.length_append, NAB.out, HNW.out]; omega)
  go_wp2_with fail
  refine (of_st HST.out _ la (HRA.out.ints.keep (Upd.ofBelow HST.out.below) (by simp)) (by omega) TA.out).mono ?_
  rintro e w7 ⟨X, rfl, H7, HX, B7⟩
  go_wp2_with fail
  refine (of_st H7.out _ lb (HRB.out.ints.keep (Upd.ofBelow H7.out.below) (by simp)) (by omega) TB.out).mono ?_
  rintro e w8 ⟨Y, rfl, H8, HY, B8⟩
  go_wp2_with fail
  refine (of_st H8.out _ lc (HRC.out.ints.keep (Upd.ofBelow H8.out.below) (by simp)) (by omega) TC.out).mono ?_
  rintro e w9 ⟨Z, rfl, H9, HZ, B9⟩
  go_wp2_with fail
  refine (of_st H9.out _ lw (((HRW.out.keep B7.out).keep B8.out).keep B9.out).ints (by have := HNW.out; omega) TW.out).mono ?_
  rintro e w10 ⟨W, rfl, H10, HW, B10⟩
  clear H7 H8 H9 B7 B8 B9 B10 HX HY HZ HW
  go_wp2_with fail
  refine (join_st H10.out (b := X + 1) (m := X) (b2 := Y + 1) (m2 := Y) (l := la) (l2 := lb) (by simp) (by simp) (by omega) TA.out TB.out).mono ?_
  rintro e w11 ⟨XY, rfl, H11, HXY, B11⟩
  go_wp2_with fail
  refine (join_st H11.out (b := Y + 1) (m := Y) (b2 := Z + 1) (m2 := Z) (l := lb) (l2 := lc) (by simp) (by simp) (by omega) TB.out TC.out).mono ?_
  rintro e w12 ⟨YZ, rfl, H12, HYZ, B12⟩
  have lX := (H12.out.sk (X + 1) X la (by simp)).lt
  have lY := (H12.out.sk (Y + 1) Y lb (by simp)).lt
  have lXY := (H12.out.sk (XY + 1) XY (la ++ lb) (by simp)).lt
  have LT := Lib.hid (show (X + 1 < w12.heap.size ∧ X < w12.heap.size) ∧ (Y + 1 < w12.heap.size ∧ Y < w12.heap.size) ∧ (XY + 1 < w12.heap.size ∧ XY < w12.heap.size) ∧ w3.heap.size ≤ w12.heap.size from ⟨lX, lY, lXY, H12.out.below.size⟩)
  clear H10 H11 HXY HYZ B11 B12 lX lY lXY
  go_wp2_with fail
  refine (join_st H12.out (b := XY + 1) (m := XY) (b2 := Z + 1) (m2 := Z) (l := la ++ lb) (l2 := lc) (by simp) (by simp) (by have := NAB.out; omega) TAB.out TC.out).mono ?_
  rintro e w13 ⟨ONE, rfl, H13, HONE, B13⟩
  rw [HONE.out] at LT
  go_wp2_with fail
  refine (join_st H13.out (b := X + 1) (m := X) (b2 := YZ + 1) (m2 := YZ) (l := la) (l2 := lb ++ lc) (by simp) (by simp) (by have := NBC.out; omega) TA.out TBC.out).mono ?_
  rintro e w14 ⟨TWO, rfl, H14, HTWO, B14⟩
  go_wp2_with fail
  refine (join_st H14.out (b := Z + 1) (m := Z) (b2 := XY + 1) (m2 := XY) (l := lc) (l2 := la ++ lb) (by simp) (by simp) (by have := NAB.out; omega) TC.out TAB.out).mono ?_
  rintro e w15 ⟨THREE, rfl, H15, HTHREE, B15⟩
  clear H12 H13 H14 HONE HTWO HTHREE B13 B14 B15
  go_wp2_with fail
  refine (around_any p 1001 _ p1 p2 (by omega)).mono ?_
  rintro e w16 ⟨rfl, rfl⟩
  rw [show around p 1001 = q from HQ.out]
  go_wp2_with fail
  refine (at_st H15.out (b := ONE + 1) (m := ONE) (l := (la ++ lb) ++ lc) q T (by simp) (by have := N1.out; have := HNW.out; omega) T1.out HQ1.out HT1.out).mono ?_
  rintro e w16 ⟨rfl, H16⟩
  go_wp2_with fail
  refine (at_st H16.out (b := W + 1) (m := W) (l := lw) q T (by simp) (by have := HNW.out; omega) TW.out HQ1.out HT.out).mono ?_
  rintro e w17 ⟨rfl, H17⟩
  go_wp2_with fail
  refine (at_st H17.out (b := TWO + 1) (m := TWO) (l := la ++ (lb ++ lc)) q T (by simp) (by have := N2.out; have := HNW.out; omega) T2.out HQ1.out HT2.out).mono ?_
  rintro e w18 ⟨rfl, H18⟩
  go_wp2_with fail
  refine (at_st H18.out (b := W + 1) (m := W) (l := lw) q T (by simp) (by have := HNW.out; omega) TW.out HQ1.out HT.out).mono ?_
  rintro e w19 ⟨rfl, H19⟩
  go_wp2_with fail
  refine (at_st H19.out (b := THREE + 1) (m := THREE) (l := lc ++ (la ++ lb)) q T (by simp) (by have := N3.out; have := HNW.out; omega) T3.out HQ1.out HT3.out).mono ?_
  rintro e w20 ⟨rfl, H20⟩
  go_wp2_with fail
  refine (at_st H20.out (b := W + 1) (m := W) (l := lw) q T (by simp) (by have := HNW.out; omega) TW.out HQ1.out HT.out).mono ?_
  rintro e w21 ⟨rfl, H21⟩
  go_wp2_with fail
  refine (len_st H21.out (b := ONE + 1) (m := ONE) (l := (la ++ lb) ++ lc) lw.length (by simp) N1.out).mono ?_
  rintro e w22 ⟨rfl, rfl⟩
  clear H15 H16 H17 H18 H19 H20
  go_wp2_with fail
  refine (add_st (L' := [(X + 1, X, la), (Y + 1, Y, lb), (XY + 1, XY, la ++ lb)]) H21.out (l := (la ++ lb) ++ lc) 7 (by simp) (by have := N1.out; have := HNW.out; omega) (by omega) LT.out.2.2.2 (fun b m l hm => by
    simp only [List.mem_cons, List.not_mem_nil, or_false, Prod.mk.injEq] at hm
    have := LT.out
    rcases hm with ⟨rfl, rfl, rfl⟩ | ⟨rfl, rfl, rfl⟩ | ⟨rfl, rfl, rfl⟩
    · exact ⟨by simp, by omega, by omega⟩
    · exact ⟨by simp, by omega, by omega⟩
    · exact ⟨by simp, by omega, by omega⟩)).mono ?_
  rintro e w22 ⟨rfl, H22⟩
  clear H21
  go_wp2_with fail
  refine (len_st H22.out (b := X + 1) (m := X) (l := la) la.length (by simp) rfl).mono ?_
  rintro e w23 ⟨rfl, rfl⟩
  go_wp2_with fail
  refine (len_st H22.out (b := Y + 1) (m := Y) (l := lb) lb.length (by simp) rfl).mono ?_
  rintro e w23 ⟨rfl, rfl⟩
  go_wp2_with fail
  refine (at_st H22.out (b := X + 1) (m := X) (l := la) q TX (by simp) (by omega) TA.out HQ1.out HTX.out).mono ?_
  rintro e w23 ⟨rfl, H23⟩
  go_wp2_with fail
  refine (rat_st H23.out _ (l := la) q TX HRA.out.ints (by omega) TA.out HQ1.out HTX.out).mono ?_
  rintro e w24 ⟨rfl, H24⟩
  go_wp2_with fail
  refine (len_st H24.out (b := XY + 1) (m := XY) (l := la ++ lb) (la.length + lb.length) (by simp) NAB.out).mono ?_
  rintro e w25 ⟨rfl, rfl⟩
  go_wp2_with fail
  refine (lives_any _).mono ?_
  rintro e w25 ⟨rfl, hb25⟩
  have HF := Lib.hid (HB3.out.trans ((H24.out.next hb25).below.mono HB3.out.size))
  clear hb25
  go_wp2
  go_ret
  exact ⟨rfl, HF.out⟩
end Go.Proofs.Ytobmnjigenplnaa
