/- Layer 13: the walk of SketchShare. -/
import Derived.Test.YtobmnjigenplnaaSketchRises
namespace Go.Proofs.Ytobmnjigenplnaa
open Go.RowKit
def underN (l : List Nat) (t : Nat) : Nat := (l.filter (fun n => decide (n ≤ t))).length
def belowN (l : List Nat) (t : Nat) : Nat := (l.filter (fun n => decide (bucketN n < bucketN t))).length
theorem share_plain {l : List Nat} (hl : ∀ n ∈ l, n < 4611686018427387904) {q : Nat} (h1 : 1 ≤ q) (h2 : q ≤ 1000) :
    l.length * q ≤ underN l (atVal l q) * 1000 ∧ (l = [] ∨ belowN l (atVal l q) * 1000 < l.length * q) := by
  by_cases h0 : l = []
  · subst h0; simp
  · have hpos : 0 < l.length := List.length_pos_iff.2 h0
    obtain ⟨b, hb⟩ := told_exists l (place l.length q) hl (place_le _ _ hpos h2)
    rw [atVal_told h0 hb]
    obtain ⟨hb1, hb2, hb3⟩ := hb
    have hbl : b < 480 := by omega
    have hu : underN l (topB b) = cumN l b := by
      unfold underN cumN
      congr 1
      refine List.filter_congr (fun n hn => ?_)
      have := bucketN_le_iff (hl n hn) hbl
      simp only [decide_eq_decide]
      exact this.symm
    have hmul : 0 < l.length * q := Nat.mul_pos hpos (by omega)
    have hlow : belowN l (topB b) < place l.length q := by
      unfold belowN
      rw [bucketN_top hbl]
      cases b with
      | zero =>
        rw [List.filter_eq_nil_iff.2 (fun a _ => by simp)]
        unfold place
        simp; omega
      | succ b =>
        have := hb3 b (by omega)
        unfold cumN at this
        refine Nat.lt_of_le_of_lt (filter_length_le _ _ _ (fun y _ hy => ?_)) this
        simp at hy ⊢; omega
    rw [hu]
    unfold place upN at hb2 hlow
    generalize hM : l.length * q = M at *
    exact ⟨by omega, .inr (by omega)⟩
theorem under_snoc {l : List Nat} {k x : Nat} (h : l[k]? = some x) (t : Nat) : underN (l.take (k + 1)) t = underN (l.take k) t + if x ≤ t then 1 else 0 := by
  rw [take_snoc_of' h]; unfold underN
  by_cases hx : x ≤ t <;> simp [hx]
theorem below_snoc {l : List Nat} {k x : Nat} (h : l[k]? = some x) (t : Nat) : belowN (l.take (k + 1)) t = belowN (l.take k) t + if bucketN x < bucketN t then 1 else 0 := by
  rw [take_snoc_of' h]; unfold belowN
  by_cases hx : bucketN x < bucketN t <;> simp [hx]
theorem under_le (l : List Nat) (t : Nat) : underN l t ≤ l.length := List.length_filter_le _ _
theorem belowN_le (l : List Nat) (t : Nat) : belowN l t ≤ l.length := List.length_filter_le _ _
theorem ints_cell {w : World} {a : Option Addr} {n cap : Nat} {l : List Nat} (h : IntsIn w (.slice a n cap) (nats l)) {k x : Nat} (hx : l[k]? = some x) :
    ∃ b off, a = some ⟨b, off, none⟩ ∧ w.cell? ⟨b, off + k, none⟩ = some (.int .i64 (x : Int)) := by
  obtain ⟨a', cap', he, -, -, hc⟩ := h
  cases he
  rcases hc with hc | ⟨b, off, rfl, hc⟩
  · have : l = [] := by simpa [nats] using hc
    subst this; simp at hx
  · refine ⟨b, off, rfl, ?_⟩
    have := hc k (by rw [nats_length]; exact (List.getElem?_eq_some_iff.1 hx).1)
    rwa [show (nats l).getD k 0 = (x : Int) by simp [nats, List.getD, hx]] at this
theorem share_walk (v : Value) (zs : List Int) (p : Int) (w : World) (h : IntsIn w v zs) (h1 : -9223372036854775808 ≤ p) (h2 : p ≤ 9223372036854775807) :
    Calls Try.prog 8 #[v, .int .i64 p] w (TruePost w) := by
  obtain ⟨k, hk, hk1⟩ := aroundN p 1000 (by omega)
  obtain ⟨Q, hQ⟩ : ∃ Q : Nat, 1 + (k : Int) = (Q : Int) := ⟨k + 1, by omega⟩
  obtain ⟨l, hl⟩ : ∃ l, numbers zs = l := ⟨_, rfl⟩
  have hlen := numbers_length zs
  have hlt := numbers_lt zs
  rw [hl] at hlen hlt
  have hQ0 : (1 : Int) ≤ Q := by omega
  have hQ1 : (Q : Int) ≤ 1000 := by omega
  have HK := Lib.hid hk
  have HL := Lib.hid hl
  have HLEN := Lib.hid hlen
  have HLT := Lib.hid hlt
  have HI := Lib.hid h
  have HS := Lib.hid (share_plain hlt (q := Q) (by omega) (by omega))
  have HM := Lib.hid (show l.length * Q ≤ 30 * 1000 from Nat.mul_le_mul hlen (by omega))
  clear hk hl hlt h hk1 hlen
  go_enter Try.func8, Try.ntmps8
  go_wp2_with fail
  refine (numbers_any v zs _ HI.out).mono ?_
  rintro e w1 ⟨u, rfl, hown, hb1⟩
  rw [show numbers zs = l from HL.out] at hown
  have hi := hown.isIn (nats_range HLT.out)
  have hrd : ∃ a cap, u = .slice a l.length cap := by
    rcases hi with ⟨a, cap, rfl, -, -, -⟩
    exact ⟨a, cap, by rw [nats_length]⟩
  obtain ⟨ua, ucap, rfl⟩ := hrd
  have HI1 := Lib.hid hi
  clear hown hi
  go_wp2_with fail
  refine (of_any _ l _ HI1.out (by have := HLEN.out; omega) HLT.out).mono ?_
  rintro e w2 ⟨rfl, hs, hb2⟩
  have HH := Lib.hid (show Has w w2 (w1.heap.size + 1) w1.heap.size _ l from ⟨hs, HI1.out.keep (Upd.ofBelow hb2) (by simp), hb1.trans (hb2.mono hb1.size)⟩)
  obtain ⟨B, hB⟩ : ∃ B, w1.heap.size = B := ⟨_, rfl⟩
  rw [hB] at HH ⊢
  clear hs hb1 hb2 hB HI1
  go_wp2_with fail
  refine (around_any p 1000 _ h1 h2 (by omega)).mono ?_
  rintro e w3 ⟨rfl, rfl⟩
  rw [show around p 1000 = k from HK.out]
  go_wp2_with fail
  refine (atv_any (B + 1) B l Q w2 HH.out.sk (by have := HLEN.out; omega) HLT.out (by omega)).mono ?_
  rintro e w3 ⟨rfl, hb3⟩
  have HH3 := Lib.hid (HH.out.next hb3)
  have htl := atVal_le HLT.out Q (by omega)
  obtain ⟨t, ht⟩ : ∃ t, atVal l Q = t := ⟨_, rfl⟩
  have hsh := HS.out
  rw [ht] at htl hsh ⊢
  have HSH := Lib.hid hsh
  have HTL := Lib.hid (show t < 4611686018427387904 by omega)
  clear hb3 htl ht hsh HS
  go_wp2_with fail
  go_loopw [9, 10, 11] (fun u b i wr => ∃ k : Nat, k ≤ l.length ∧ i = .int .i64 k ∧ u = .int .i64 (underN (l.take k) t) ∧ b = .int .i64 (belowN (l.take k) t) ∧ Has w wr (B + 1) B (.slice ua l.length ucap) l) (fun _ _ i _ => l.length - (intOf i).toNat)
  case atStart => exact ⟨0, by omega, rfl, rfl, rfl, HH3.out⟩
  case round =>
    obtain ⟨j, hj, rfl, rfl, rfl, hh⟩ := hrel
    have HR := Lib.hid hh
    have hu0 := under_le (l.take j) t
    have hb0 := belowN_le (l.take j) t
    have hlen := HLEN.out
    have htk : (l.take j).length = j := by simp; omega
    rw [htk] at hu0 hb0
    by_cases hlt : j < l.length
    · obtain ⟨x, hx⟩ : ∃ x, l[j]? = some x := ⟨l[j], by simp [hlt]⟩
      obtain ⟨b, off, rfl, hcell⟩ := ints_cell hh.ints hx
      have hxl := HLT.out x (List.mem_of_getElem? hx)
      have CX := Lib.hid (fun (q : Nat) (hq : q < 4611686018427387904) => bucket_any q wr hq)
      have hus := under_snoc hx t
      have hbs := below_snoc hx t
      obtain ⟨U, hU⟩ : ∃ U, underN (l.take j) t = U := ⟨_, rfl⟩
      obtain ⟨G, hG⟩ : ∃ G, belowN (l.take j) t = G := ⟨_, rfl⟩
      rw [hU] at hus hu0 ⊢
      rw [hG] at hbs hb0 ⊢
      have hU30 : (U : Int) ≤ 30 := by omega
      have hG30 : (G : Int) ≤ 30 := by omega
      have HUS := Lib.hid hus
      have HBS := Lib.hid hbs
      have HXL := Lib.hid hxl
      clear hh hx hxl hus hbs hU hG hu0 hb0 htk
      by_cases c1 : x ≤ t
      · have e1 : decide (x ≤ t) = true := by simpa using c1
        by_cases c2 : bucketN x < bucketN t
        · have e2 : decide (bucketN x < bucketN t) = true := by simpa using c2
          go_wp2_with fail
          refine (CX.out x HXL.out).mono ?_
          rintro e w4 ⟨rfl, rfl⟩
          go_wp2_with fail
          refine (CX.out t HTL.out).mono ?_
          rintro e w4 ⟨rfl, rfl⟩
          go_wp2_with fail
          go_roundw
          case rel => exact ⟨j + 1, by omega, by go_num, by rw [HUS.out, if_pos c1]; go_num, by rw [HBS.out, if_pos c2]; go_num, HR.out⟩
          case measure => simp [intOf] <;> omega
        · have e2 : decide (bucketN x < bucketN t) = false := by simpa using c2
          go_wp2_with fail
          refine (CX.out x HXL.out).mono ?_
          rintro e w4 ⟨rfl, rfl⟩
          go_wp2_with fail
          refine (CX.out t HTL.out).mono ?_
          rintro e w4 ⟨rfl, rfl⟩
          go_wp2_with fail
          go_roundw
          case rel => exact ⟨j + 1, by omega, by go_num, by rw [HUS.out, if_pos c1]; go_num, by rw [HBS.out, if_neg c2]; go_num, HR.out⟩
          case measure => simp [intOf] <;> omega
      · have e1 : decide (x ≤ t) = false := by simpa using c1
        by_cases c2 : bucketN x < bucketN t
        · have e2 : decide (bucketN x < bucketN t) = true := by simpa using c2
          go_wp2_with fail
          refine (CX.out x HXL.out).mono ?_
          rintro e w4 ⟨rfl, rfl⟩
          go_wp2_with fail
          refine (CX.out t HTL.out).mono ?_
          rintro e w4 ⟨rfl, rfl⟩
          go_wp2_with fail
          go_roundw
          case rel => exact ⟨j + 1, by omega, by go_num, by rw [HUS.out, if_neg c1]; go_num, by rw [HBS.out, if_pos c2]; go_num, HR.out⟩
          case measure => simp [intOf] <;> omega
        · have e2 : decide (bucketN x < bucketN t) = false := by simpa using c2
          go_wp2_with fail
          refine (CX.out x HXL.out).mono ?_
          rintro e w4 ⟨rfl, rfl⟩
          go_wp2_with fail
          refine (CX.out t HTL.out).mono ?_
          rintro e w4 ⟨rfl, rfl⟩
          go_wp2_with fail
          go_roundw
          case rel => exact ⟨j + 1, by omega, by go_num, by rw [HUS.out, if_neg c1]; go_num, by rw [HBS.out, if_neg c2]; go_num, HR.out⟩
          case measure => simp [intOf] <;> omega
    · have : j = l.length := by omega
      subst this
      rw [List.take_length] at hu0 hb0 ⊢
      have hsh := HSH.out
      obtain ⟨U, hU⟩ : ∃ U, underN l t = U := ⟨_, rfl⟩
      obtain ⟨G, hG⟩ : ∃ G, belowN l t = G := ⟨_, rfl⟩
      rw [hU] at hsh hu0 ⊢
      rw [hG] at hsh hb0 ⊢
      have hm := HM.out
      obtain ⟨M, hM⟩ : ∃ M, l.length * Q = M := ⟨_, rfl⟩
      rw [hM] at hsh hm
      have hMI : (l.length : Int) * (Q : Int) = (M : Int) := by rw [← hM]; simp
      have hM1 : (M : Int) ≤ 30000 := by omega
      have hM0 : (0 : Int) ≤ M := by omega
      have hU30 : (U : Int) ≤ 30 := by omega
      have hG30 : (G : Int) ≤ 30 := by omega
      have d1 : (M : Int) ≤ (U : Int) * 1000 := by omega
      clear hh hU hG hu0 hb0 htk hM hj hlt
      by_cases h0 : l = []
      · have h00 : (l.length : Int) = 0 := by simp [h0]
        have hz : ((l.length : Int) == 0) = true := by simp [h00]
        clear hsh h0 h00
        go_wp2_with fail
        refine (lives_any _).mono ?_
        rintro e w5 ⟨rfl, hb5⟩
        have HH5 := Lib.hid (HR.out.next hb5)
        clear hb5
        go_wp2
        go_ret
        exact ⟨rfl, HH5.out.below⟩
      · have hz : ((l.length : Int) == 0) = false := by simp [h0]
        have d2 : (G : Int) * 1000 < M := by have := hsh.2.resolve_left h0; omega
        clear hsh h0
        go_wp2_with fail
        refine (lives_any _).mono ?_
        rintro e w5 ⟨rfl, hb5⟩
        have HH5 := Lib.hid (HR.out.next hb5)
        clear hb5
        go_wp2
        go_ret
        exact ⟨rfl, HH5.out.below⟩
end Go.Proofs.Ytobmnjigenplnaa
