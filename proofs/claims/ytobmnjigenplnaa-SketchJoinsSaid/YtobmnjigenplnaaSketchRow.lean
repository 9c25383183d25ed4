/- Layer 13: the walk of SketchRow. -/
import Derived.Test.YtobmnjigenplnaaSketchNear
namespace Go.Proofs.Ytobmnjigenplnaa
open Go.RowKit
structure Two (w wr : World) (b m b2 m2 : Nat) (l l2 : List Nat) : Prop where
  sk : SkAt wr b m l
  sk2 : SkAt wr b2 m2 l2
  below : Below w.heap.size w wr
theorem Two.next {w wr w' : World} {b m b2 m2 : Nat} {l l2 : List Nat} (h : Two w wr b m b2 m2 l l2) (hb : Below wr.heap.size wr w') : Two w w' b m b2 m2 l l2 :=
  ⟨h.sk.keep (Upd.ofBelow hb) (by simp) (by simp), h.sk2.keep (Upd.ofBelow hb) (by simp) (by simp), h.below.trans (hb.mono h.below.size)⟩
theorem drop_rev {l : List Nat} {j x : Nat} (h : l[j]? = some x) : (l.drop j).reverse = (l.drop (j + 1)).reverse ++ [x] := by
  obtain ⟨hj, rfl⟩ := List.getElem?_eq_some_iff.1 h
  rw [List.drop_eq_getElem_cons hj, List.reverse_cons]
theorem nats_snoc (l : List Nat) (x : Nat) : nats (l ++ [x]) = nats l ++ [(x : Int)] := by simp [nats]
theorem row_walk (v : Value) (zs : List Int) (p : Int) (w : World) (h : IntsIn w v zs) (h1 : -9223372036854775808 ≤ p) (h2 : p ≤ 9223372036854775807) :
    Calls Try.prog 7 #[v, .int .i64 p] w (TruePost w) := by
  obtain ⟨k, hk, hk1⟩ := aroundN p 1001 (by omega)
  obtain ⟨l, hl⟩ : ∃ l, numbers zs = l := ⟨_, rfl⟩
  have hlen := numbers_length zs
  have hlt := numbers_lt zs
  rw [hl] at hlen hlt
  have HK := Lib.hid hk
  have HL := Lib.hid hl
  have HLEN := Lib.hid hlen
  have HLT := Lib.hid hlt
  have HKL := Lib.hid (show (k : Int) ≤ 1000 by omega)
  have HI := Lib.hid h
  clear hk hl hlt h hk1
  go_enter Try.func7, Try.ntmps7
  go_wp2_with fail
  refine (numbers_any v zs _ HI.out).mono ?_
  rintro e w1 ⟨u, rfl, hown, hb1⟩
  rw [show numbers zs = l from HL.out] at hown
  have hi := hown.isIn (nats_range HLT.out)
  have HI1 := Lib.hid hi
  have HB1 := Lib.hid hb1
  obtain ⟨a, cap, rfl, hcap, -, hcell⟩ := hi
  rw [nats_length] at *
  have HC := Lib.hid hcell
  clear hown hcell hb1
  go_wp2_with fail
  go_loopw [6, 7] (fun v i wr => ∃ j : Nat, j ≤ l.length ∧ i = .int .i64 ((j : Int) - 1) ∧ OwnInts w1.heap.size wr v (nats (l.drop j).reverse) ∧ Below w1.heap.size w1 wr) (fun _ i _ => (intOf i + 1).toNat)
  case atStart => exact ⟨l.length, by omega, by go_num, by simpa [nats] using OwnInts.nil _ _, Below.refl _ _⟩
  case round =>
    obtain ⟨j, hj, rfl, hown, hbr⟩ := hrel
    cases j with
    | zero =>
      rw [List.drop_zero] at hown
      have HBR := Lib.hid hbr
      have HO := Lib.hid hown
      have hi2 := hown.isIn (nats_range (by simpa using HLT.out))
      have HI2 := Lib.hid hi2
      clear hbr hown hi2
      go_wp2_with fail
      refine (of_any _ l _ (HI1.out.keep (Upd.ofBelow HBR.out) (by simp)) (by have := HLEN.out; omega) HLT.out).mono ?_
      rintro e w2 ⟨rfl, hs, hb2⟩
      have HS := Lib.hid hs
      have HB2 := Lib.hid hb2
      clear hs hb2
      go_wp2_with fail
      refine (of_any _ l.reverse _ (HI2.out.keep (Upd.ofBelow HB2.out) (by simp)) (by have := HLEN.out; simp; omega) (by simpa using HLT.out)).mono ?_
      rintro e w3 ⟨rfl, hs3, hb3⟩
      have HH := Lib.hid (show Two w w3 (wr.heap.size + 1) wr.heap.size (w2.heap.size + 1) w2.heap.size l l.reverse from ⟨HS.out.keep (Upd.ofBelow hb3) (by simp) (by simp), hs3, ((HB1.out.trans (HBR.out.mono HB1.out.size)).trans (HB2.out.mono (Nat.le_trans HB1.out.size HBR.out.size))).trans (hb3.mono (Nat.le_trans HB1.out.size (Nat.le_trans HBR.out.size HB2.out.size)))⟩)
      obtain ⟨B, hB⟩ : ∃ B, wr.heap.size = B := ⟨_, rfl⟩
      obtain ⟨C, hC⟩ : ∃ C, w2.heap.size = C := ⟨_, rfl⟩
      rw [hB, hC] at HH
      rw [hB, hC]
      clear hs3 hb3 HS HB2 HI2 HO HBR hB hC
      have HRL := Lib.hid (show l.reverse.length ≤ 30 by have := HLEN.out; simp; omega)
      have HRT := Lib.hid (show ∀ n ∈ l.reverse, n < 4611686018427387904 by simpa using HLT.out)
      have HP := Lib.hid (fun p => atVal_perm (List.reverse_perm l) p)
      go_wp2_with fail
      refine (around_any p 1001 _ h1 h2 (by omega)).mono ?_
      rintro e w4 ⟨rfl, rfl⟩
      rw [show around p 1001 = k from HK.out]
      go_wp2_with fail
      refine (atv_any (B + 1) B l k w3 HH.out.sk (by have := HLEN.out; omega) HLT.out HKL.out).mono ?_
      rintro e w4 ⟨rfl, hb4⟩
      have HH4 := Lib.hid (HH.out.next hb4)
      clear hb4
      go_wp2_with fail
      refine (atv_any (C + 1) C l.reverse k w4 HH4.out.sk2 (by have := HRL.out; omega) HRT.out HKL.out).mono ?_
      rintro e w5 ⟨rfl, hb5⟩
      rw [HP.out]
      have HH5 := Lib.hid (HH4.out.next hb5)
      clear hb5
      go_wp2_with fail
      refine (atv_any (B + 1) B l 1000 w5 HH5.out.sk (by have := HLEN.out; omega) HLT.out (by omega)).mono ?_
      rintro e w6 ⟨rfl, hb6⟩
      have HH6 := Lib.hid (HH5.out.next hb6)
      clear hb6
      go_wp2_with fail
      refine (atv_any (C + 1) C l.reverse 1000 w6 HH6.out.sk2 (by have := HRL.out; omega) HRT.out (by omega)).mono ?_
      rintro e w7 ⟨rfl, hb7⟩
      rw [HP.out]
      have HH7 := Lib.hid (HH6.out.next hb7)
      clear hb7
      go_wp2_with fail
      refine (atv_any (B + 1) B l 0 w7 HH7.out.sk (by have := HLEN.out; omega) HLT.out (by omega)).mono ?_
      rintro e w8 ⟨rfl, hb8⟩
      have HH8 := Lib.hid (HH7.out.next hb8)
      clear hb8
      go_wp2_with fail
      refine (atv_any (C + 1) C l.reverse 0 w8 HH8.out.sk2 (by have := HRL.out; omega) HRT.out (by omega)).mono ?_
      rintro e w9 ⟨rfl, hb9⟩
      rw [HP.out]
      have HH9 := Lib.hid (HH8.out.next hb9)
      clear hb9
      go_wp2_with fail
      refine (lives_any _).mono ?_
      rintro e w10 ⟨rfl, hb10⟩
      have HH10 := Lib.hid (HH9.out.next hb10)
      clear hb10
      go_wp2
      go_ret
      exact ⟨rfl, HH10.out.below⟩
    | succ j =>
      obtain ⟨x, hx⟩ : ∃ x, l[j]? = some x := ⟨l[j], by simp⟩
      have hdr := drop_rev hx
      have hd2 : nats (l.drop j).reverse = nats (l.drop (j + 1)).reverse ++ [(x : Int)] := by rw [hdr, nats_snoc]
      have hn : (nats (l.drop (j + 1)).reverse).length = l.length - (j + 1) := by simp [nats]
      rcases HC.out with hnil | ⟨b, off, rfl, hc⟩
      · exfalso
        have : l = [] := by simpa [nats] using hnil
        subst this
        simp at hj
      have hcx : w1.cell? ⟨b, off + j, none⟩ = some (.int .i64 (x : Int)) := by
        have := hc j (by omega)
        rwa [show (nats l).getD j 0 = (x : Int) by simp [nats, List.getD, hx]] at this
      have hcell : wr.cell? ⟨b, off + j, none⟩ = some (.int .i64 (x : Int)) := by
        rw [hbr.cell (p := ⟨b, off + j, none⟩) (World.block_lt_of_cell? w1 _ hcx)]; exact hcx
      unfold OwnInts at hown
      rw [hn] at hown
      have HBR := Lib.hid hbr
      have hbrs := hbr.size
      have HD2 := Lib.hid hd2
      have HN := Lib.hid hn
      clear hx hdr hd2 hn hc hcx hbr
      rw [show (((j + 1 : Nat) : Int) - 1) = (j : Int) by omega]
      go_wp2_with (at_builtin; refine wpList_append_one wr rfl (.tmp 20) (.tmp 25) 26 rfl w1.heap.size 3 1 8 Try.infoInt (by kernel_rfl) rfl (by decide) u6 (l.length - (j + 1)) _ rfl hown [Value.int .i64 (x : Int)] rfl rfl rfl (by unfold maxLen; omega) (by omega) hbrs ?_)
      intro v' w2 hown1 hup
      go_wp2_with fail
      go_roundw
      case rel => exact ⟨j, by omega, by go_num, by rw [HD2.out]; exact OwnInts.of hown1 (by have := HN.out; simp [nats] at this ⊢ <;> omega) (by simp), below_own HBR.out hown hbrs hup⟩
      case measure => simp [intOf] <;> omega
end Go.Proofs.Ytobmnjigenplnaa
