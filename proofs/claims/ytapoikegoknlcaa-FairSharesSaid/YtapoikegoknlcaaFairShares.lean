/- Layer 22: fair shedding; the walk of FairShares. -/
import Derived.Test.YtapoikegoknlcaaFairOld
import Derived.StillTailTactics
namespace Go.Proofs.Ytapoikegoknlcaa
open Go.RowKit
theorem cnt_perm {l m : List It} (h : l.Perm m) (g : Nat) : cnt l g = cnt m g := by
  unfold cnt
  rw [(h.filter _).length_eq]
theorem cnt_zero (g : Nat) : cnt [] g = 0 := rfl
structure SI (f k id j : Nat) (L : List It) : Prop where
  flows : ∀ x ∈ L, 0 ≤ x.flow ∧ x.flow < (f : Int)
  st : (id ≤ k ∧ L.length = id ∧ ∃ t : Int, ∀ i : Nat, i < f → cnt L i = t + if i < j then 1 else 0) ∨ (k ≤ id ∧ L.length = k ∧ ∃ c : Int, ∀ i : Nat, i < f → cnt L i = c ∨ cnt L i = c + 1)
theorem SI.start (f k : Nat) : SI f k 0 0 [] := ⟨fun x hx => (by cases hx), .inl ⟨by omega, rfl, 0, fun i _ => by simp [cnt_zero]⟩⟩
theorem SI.wrap {f k id : Nat} {L : List It} (h : SI f k id f L) : SI f k id 0 L := by
  refine ⟨h.flows, h.st.imp (fun ⟨a, b, t, ht⟩ => ⟨a, b, t + 1, fun i hi => ?_⟩) _root_.id⟩
  rw [ht i hi, if_pos hi, if_neg (by omega)]; omega
theorem SI.len {f k id j : Nat} {L : List It} (h : SI f k id j L) : L.length = min k id := by
  rcases h.st with ⟨a, b, -⟩ | ⟨a, b, -⟩ <;> omega
theorem SI.room {f k id j : Nat} {L : List It} (h : SI f k id j L) (hj : j < f) (hr : L.length + 1 ≤ k) (x : It) (hx : x.flow = (j : Int)) : SI f k (id + 1) (j + 1) (L ++ [x]) := by
  refine ⟨fun y hy => ?_, .inl ?_⟩
  · rcases List.mem_append.1 hy with hy | hy
    · exact h.flows y hy
    · simp at hy; subst hy; omega
  · rcases h.st with ⟨a, b, t, ht⟩ | ⟨a, b, -⟩
    · refine ⟨by omega, by simp [b], t, fun i hi => ?_⟩
      rw [cnt_app, cnt_one, ht i hi, hx]
      by_cases e : i = j
      · subst e; simp
      · by_cases e2 : i < j
        · rw [if_pos e2, if_neg (by omega), if_pos (by omega)]; omega
        · rw [if_neg e2, if_neg (by omega), if_neg (by omega)]; omega
    · omega
theorem SI.over {f k id j : Nat} {L : List It} (h : SI f k id j L) (hj : j < f) (hr : k < L.length + 1) (x : It) (hx : x.flow = (j : Int)) {i : Nat} {fl : Int} {y : It} (hf : FullOk (L ++ [x]) fl) (hy : (L ++ [x])[i]? = some y) (hyf : y.flow = fl) :
    SI f k (id + 1) (j + 1) ((L ++ [x]).eraseIdx i) := by
  have hfl : ∀ z ∈ L ++ [x], 0 ≤ z.flow ∧ z.flow < (f : Int) := fun z hz => by
    rcases List.mem_append.1 hz with hz | hz
    · exact h.flows z hz
    · simp at hz; subst hz; omega
  refine ⟨fun z hz => hfl z (List.mem_of_mem_eraseIdx hz), .inr ?_⟩
  obtain ⟨hk, hl, c, hc⟩ : k ≤ id ∧ L.length = k ∧ ∃ c : Int, ∀ i : Nat, i < f → cnt L i = c ∨ cnt L i = c + 1 := by
    rcases h.st with ⟨a, b, t, ht⟩ | ⟨a, b, c, hc⟩
    · refine ⟨by omega, by omega, t, fun i hi => ?_⟩
      rw [ht i hi]
      by_cases e : i < j
      · rw [if_pos e]; exact .inr rfl
      · rw [if_neg e]; exact .inl (by omega)
    · exact ⟨a, b, c, hc⟩
  have hil := (List.getElem?_eq_some_iff.1 hy).1
  refine ⟨by omega, by rw [List.length_eraseIdx, if_pos hil]; simp; omega, ?_⟩
  obtain ⟨g, hg⟩ : ∃ g : Nat, fl = (g : Int) := ⟨fl.toNat, by have := hfl y (List.mem_of_getElem? hy); omega⟩
  have hgf : g < f := by have := hfl y (List.mem_of_getElem? hy); omega
  have hxm : (L ++ [x])[L.length]? = some x := by simp
  have hmost := hf.most _ x hxm
  have e1 : cntZ (L ++ [x]) x.flow = cnt (L ++ [x]) j := by rw [hx]; rfl
  have e2 : cntZ (L ++ [x]) fl = cnt (L ++ [x]) g := by rw [hg]; rfl
  rw [e1, e2, cnt_app, cnt_app, cnt_one, cnt_one, hx, if_pos rfl] at hmost
  have hcj := hc j hj
  have hcg := hc g hgf
  refine ⟨c, fun q hq => ?_⟩
  rw [cnt_erase hy, cnt_app, cnt_one, hx, hyf, hg]
  have hcq := hc q hq
  by_cases a : j = g
  · subst a
    by_cases b : j = q
    · subst b; rw [if_pos rfl]; omega
    · rw [if_neg (by omega)]; omega
  · rw [if_neg (by omega)] at hmost
    by_cases b : j = q
    · subst b; rw [if_pos rfl, if_neg (by omega)]; omega
    · rw [if_neg (by omega)]
      by_cases d : g = q
      · subst d; rw [if_pos rfl]; omega
      · rw [if_neg (by omega)]; omega
theorem SI.fair {f k id : Nat} {L : List It} (h : SI f k id 0 L) {i j : Nat} (hi : i < f) (hj : j < f) : cnt L i ≤ cnt L j + 1 := by
  rcases h.st with ⟨-, -, t, ht⟩ | ⟨-, -, c, hc⟩
  · rw [ht i hi, ht j hj]; simp; omega
  · have := hc i hi; have := hc j hj; omega
/-- One put to it. -/
theorem SI.put {f k id j : Nat} {L : List It} (h : SI f k id j L) (hj : j < f) {d : Int} {r' : Nat → Row} {n' : Int} {y : It} {is : Bool} (hp : PutIs (k : Int) (L.length : Int) (oneRow 2 L false 0) 2 ⟨d, 2, (j : Int)⟩ r' n' y is) : ∃ L', r' = oneRow 2 L' false 0 ∧ n' = (L'.length : Int) ∧ SI f k (id + 1) (j + 1) L' := by
  cases hp with
  | room hr => exact ⟨_, addIt_one _ _ _ _ _, by simp, h.room hj (by omega) _ rfl⟩
  | over r' y ho hs =>
    rw [addIt_one] at hs
    obtain ⟨i, fl, h1, h2, h3, -, rfl⟩ := shed_one hs
    refine ⟨_, rfl, ?_, h.over hj (by omega) _ rfl h1 h2 h3⟩
    have hil := (List.getElem?_eq_some_iff.1 h2).1
    rw [List.length_eraseIdx, if_pos hil]; simp
set_option maxRecDepth 100000 in
set_option maxHeartbeats 4000000 in
theorem shares_walk (f0 m0 r0 : Int) (w : World) (hf1 : -9223372036854775808 ≤ f0) (hf2 : f0 ≤ 9223372036854775807) (hm1 : -9223372036854775808 ≤ m0) (hm2 : m0 ≤ 9223372036854775807) (hr1 : -9223372036854775808 ≤ r0) (hr2 : r0 ≤ 9223372036854775807) :
    Calls Try.prog 5 #[.int .i64 f0, .int .i64 m0, .int .i64 r0] w (TruePost w) := by
  have a0 := around_nonneg f0 5 (by omega)
  have a1 := around_lt f0 5 (by omega)
  have b0 := around_nonneg m0 20 (by omega)
  have b1 := around_lt m0 20 (by omega)
  have c0 := around_nonneg r0 30 (by omega)
  have c1 := around_lt r0 30 (by omega)
  have CA := Lib.hid (fun w => around_any f0 5 w hf1 hf2 (by omega))
  have CB := Lib.hid (fun w => around_any m0 20 w hm1 hm2 (by omega))
  have CC := Lib.hid (fun w => around_any r0 30 w hr1 hr2 (by omega))
  obtain ⟨f, hf⟩ : ∃ k : Nat, around f0 5 = (k : Int) - 1 := ⟨(around f0 5).toNat + 1, by omega⟩
  obtain ⟨k, hk⟩ : ∃ k : Nat, around m0 20 = (k : Int) - 1 := ⟨(around m0 20).toNat + 1, by omega⟩
  obtain ⟨R, hR⟩ : ∃ k : Nat, around r0 30 = (k : Int) - 3 := ⟨(around r0 30).toNat + 3, by omega⟩
  rw [hf] at a0 a1 CA
  rw [hk] at b0 b1 CB
  rw [hR] at c0 c1 CC
  have sf : (1 : Int) + ((f : Int) - 1) = f := by omega
  have sk : (1 : Int) + ((k : Int) - 1) = k := by omega
  have sR : (3 : Int) + ((R : Int) - 3) = R := by omega
  have CN := Lib.hid (fun (w' : World) (h : w.heap.size ≤ w'.heap.size) => newQ_qs (k : Int) w.heap.size [] w' h (by simp))
  have f1 : (1 : Int) ≤ f := by omega
  have f2 : (f : Int) ≤ 5 := by omega
  have k1 : (1 : Int) ≤ k := by omega
  have k2 : (k : Int) ≤ 20 := by omega
  have R1 : (0 : Int) ≤ R := by omega
  have R2 : (R : Int) ≤ 32 := by omega
  clear hf hk hR hf1 hf2 hm1 hm2 hr1 hr2 a0 a1 b0 b1 c0 c1
  go_enter Try.func5, Try.ntmps5
  go_wp2_with fail
  refine (CA.out _).mono ?_
  rintro e w' ⟨rfl, rfl⟩
  go_wp2_with fail
  refine (CB.out _).mono ?_
  rintro e w' ⟨rfl, rfl⟩
  go_wp2_with fail
  refine (CN.out _ (Nat.le_refl _)).mono ?_
  rintro e w1 ⟨rfl, hq, hst⟩
  rw [oneRow_nil 2] at hq
  obtain ⟨b, hbe⟩ : ∃ b, w.heap.size = b := ⟨_, rfl⟩
  have HQ1 : Hid (QS w.heap.size w1 b k (([] : List It).length : Int) (oneRow 2 [] false 0) [] ∧ QStep w.heap.size [] w w1) := Lib.hid ⟨by rw [← hbe]; exact hq, hst⟩
  rw [hbe]
  clear hq hst hbe CN CA CB
  go_wp2_with fail
  refine (CC.out _).mono ?_
  rintro e w' ⟨rfl, rfl⟩
  have HS0 := Lib.hid (SI.start f k)
  clear CC
  go_wp2_with fail
  clear sf sk sR
  go_loopw [10, 11] (fun id i wr => ∃ (I d : Nat) (L : List It), i = .int .i64 I ∧ id = .int .i64 d ∧ I ≤ R ∧ d + 5 * I ≤ 5 * R ∧ Hid (QS w.heap.size wr b k (L.length : Int) (oneRow 2 L false 0) [] ∧ QStep w.heap.size [] w wr) ∧ Hid (SI f k d 0 L)) (fun _ i _ => (intOf i).toNat)
  case atStart => exact ⟨R, 0, [], rfl, rfl, by omega, by omega, HQ1, HS0⟩
  case round =>
    obtain ⟨I, d, L, rfl, rfl, hI, hd, HQ, HS⟩ := hrel
    clear HQ1 HS0
    by_cases hlt : 1 ≤ I
    · have hI0 : 0 < I := by omega
      have hI1 : decide (0 < I) = true := by simp; omega
      go_wp2_with fail
      go_loopw [10, 12] (fun id jj wr => ∃ (j d : Nat) (L : List It), jj = .int .i64 j ∧ id = .int .i64 d ∧ j ≤ f ∧ d + 5 * I ≤ 5 * R + j ∧ Hid (QS w.heap.size wr b k (L.length : Int) (oneRow 2 L false 0) [] ∧ QStep w.heap.size [] w wr) ∧ Hid (SI f k d j L)) (fun _ jj _ => f - (intOf jj).toNat)
      case atStart => exact ⟨0, d, L, rfl, rfl, by omega, by omega, HQ, HS⟩
      case round =>
        obtain ⟨j, d2, L2, rfl, rfl, hj, hd2, HQ2, HS2⟩ := hrel
        clear HQ HS
        by_cases hjf : j < f
        · have hjf' : (j : Int) < f := by omega
          have j0 : (0 : Int) ≤ j := by omega
          have d0 : (d2 : Int) ≤ 200 := by omega
          have CP := Lib.hid (put_qs w.heap.size b k (L2.length : Int) (oneRow 2 L2 false 0) [] 2 (⟨d2, 2, j⟩ : It) wr HQ2.out.1 (by omega) rfl (by omega) (by have := HS2.out.len; omega) (fun q _ => by have := oneRow_len (P := 2) (q := q) (tk := false) (last := 0) (Nat.le_refl L2.length); have := HS2.out.len; omega) (by omega) (by omega))
          unfold It.val at CP
          dsimp only at CP
          have HJF := Lib.hid hjf
          clear hjf
          go_wp2_with fail
          refine CP.out.mono ?_
          rintro e w2 ⟨r', n', y, is, hp, rfl, hq2, hst2⟩
          obtain ⟨L3, rfl, rfl, hs3⟩ := HS2.out.put HJF.out hp
          have HQ3 : Hid (QS w.heap.size w2 b k (L3.length : Int) (oneRow 2 L3 false 0) [] ∧ QStep w.heap.size [] w w2) := Lib.hid ⟨hq2, HQ2.out.2.trans hst2⟩
          have HS3 := Lib.hid hs3
          clear hp hq2 hst2 hs3 CP HQ2 HS2
          go_wp2_with fail
          go_roundw
          case rel => exact ⟨j + 1, d2 + 1, L3, by go_num, by go_num, by have := HJF.out; omega, by omega, HQ3, HS3⟩
          case measure => have := HJF.out; simp [intOf] <;> omega
        · obtain rfl : j = f := by omega
          have HS3 := Lib.hid HS2.out.wrap
          clear hjf
          go_wp2_with fail
          go_roundw
          case rel => exact ⟨I - 1, d2, L2, by go_num, rfl, by omega, by omega, HQ2, HS3⟩
          case measure => simp [intOf] <;> omega
    · obtain rfl : I = 0 := by omega
      have hlen := HS.out.len
      have CAll := Lib.hid (all_qs w.heap.size b k (L.length : Int) (oneRow 2 L false 0) [] wr HQ.out.1 (fun q _ => by have := oneRow_len (P := 2) (q := q) (tk := false) (last := 0) (Nat.le_refl L.length); omega))
      have HLEN := Lib.hid hlen
      clear hlt hlen hI
      go_wp2_with fail
      refine CAll.out.mono ?_
      rintro e w2 ⟨o, ov, hall, rfl, hp⟩
      have hperm := (hall.one (by omega)).perm
      obtain ⟨ao, cap, rfl, hrow⟩ := rowRead hp.own
      obtain ⟨no, hno⟩ : ∃ n, o.length = n := ⟨_, rfl⟩
      have HNO := Lib.hid hno
      have HPM := Lib.hid hperm
      have HOF : Hid (∀ x ∈ o, 0 ≤ x.flow ∧ x.flow < (f : Int)) := Lib.hid (fun x hx => HS.out.flows x (hperm.mem_iff.1 hx))
      have hnk : no = min k d := by rw [← hno, hperm.length_eq]; exact HLEN.out
      have HR : Hid (∀ W', Upd [] w2 W' → ∀ (q : Nat) (x : It), o[q]? = some x → ∃ g, ao = some ⟨g, 0, none⟩ ∧ ItemsIn W' g o ∧ g ≠ w2.heap.size ∧ o.length ≤ cap ∧ cap ≤ maxLen) := Lib.hid (fun W' hu q x hx => by
        rcases hrow with h | ⟨g, h1, h2, h3, h4, h5, h6⟩
        · exact absurd hx (by simp [h])
        · exact ⟨g, h1, h2.keep hu (by simp), by omega, h3, h4⟩)
      have HB : Hid (Below w.heap.size w (w2.alloc (.cells #[.int .i64 0, .int .i64 0, .int .i64 0, .int .i64 0, .int .i64 0] 25))) := Lib.hid ((HQ.out.2.below.trans hp.st.below).alloc (by have := HQ.out.2.size; have := hp.st.size; omega) _)
      have HT : Hid (BlockAt (w2.alloc (.cells #[.int .i64 0, .int .i64 0, .int .i64 0, .int .i64 0, .int .i64 0] 25)) w2.heap.size 25 (arr5 (cnt (o.take 0)))) := Lib.hid (BlockAt.new w2 _ (arr5 (fun _ => 0)))
      have HR1 := Lib.hid (HR.out _ (Upd.alloc [] w2 (.cells #[.int .i64 0, .int .i64 0, .int .i64 0, .int .i64 0, .int .i64 0] 25)))
      have HTW := Lib.hid (show w.heap.size ≤ w2.heap.size by have := HQ.out.2.size; have := hp.st.size; omega)
      rw [hno]
      clear hall hp hrow hperm hno CAll HQ HR
      go_wp2_with fail
      obtain ⟨t, ht⟩ : ∃ t, w2.heap.size = t := ⟨_, rfl⟩
      obtain ⟨W2, hW2⟩ : ∃ W, w2.alloc (.cells #[.int .i64 0, .int .i64 0, .int .i64 0, .int .i64 0, .int .i64 0] 25) = W := ⟨_, rfl⟩
      rw [hW2, ht] at HT HR1
      rw [hW2] at HB
      rw [ht] at HTW
      rw [hW2, ht]
      clear hW2 ht
      go_loopw [15] (fun i wr => ∃ q : Nat, q ≤ no ∧ i = .int .i64 q ∧ Hid (BlockAt wr t 25 (arr5 (cnt (o.take q)))) ∧ Hid (Below w.heap.size w wr) ∧ Hid (∀ (q : Nat) (x : It), o[q]? = some x → ∃ g, ao = some ⟨g, 0, none⟩ ∧ ItemsIn wr g o ∧ g ≠ t ∧ o.length ≤ cap ∧ cap ≤ maxLen)) (fun i _ => no - (intOf i).toNat)
      case atStart => exact ⟨0, by omega, rfl, HT, HB, HR1⟩
      case round =>
        obtain ⟨q, hq, rfl, HT2, HB2, HR2⟩ := hrel
        clear HT HB HR1
        by_cases hqn : q < no
        · obtain ⟨x, hx⟩ : ∃ x, o[q]? = some x := ⟨o[q]'(by rw [HNO.out]; omega), by simp⟩
          obtain ⟨g, rfl, hin, hgt, hle, hcm⟩ := HR2.out q x hx
          obtain ⟨e0, e1, e2⟩ := hin q x hx
          obtain ⟨x0, x1⟩ := HOF.out x (List.mem_of_getElem? hx)
          obtain ⟨xi, xp, xf⟩ := x
          dsimp only at e0 e1 e2 x0 x1
          obtain ⟨fl, rfl⟩ : ∃ g : Nat, xf = (g : Int) := ⟨xf.toNat, by omega⟩
          have hfl : fl < 5 := by omega
          have q0 : (0 : Int) ≤ q := by omega
          have q1 : (q : Int) < no := by omega
          have x2 : (fl : Int) < 5 := by omega
          have t0 := HT2.out.cell fl _ (arr5_get _ fl hfl)
          have t1 := HT2.out.free fl
          have n0 := cnt_nonneg (o.take q) fl
          have n1 : cnt (o.take q) fl ≤ 200 := by have := cnt_le (o.take q) fl; rw [List.length_take] at this; omega
          have HT3 : Hid (BlockAt (wr.drew.setCell ⟨t, fl, none⟩ (.int .i64 (cnt (o.take q) fl + 1))) t 25 (arr5 (cnt (o.take (q + 1))))) := Lib.hid (by
            have h1 := (HT2.out.drew).set fl (.int .i64 (cnt (o.take q) fl + 1))
            rw [arr5_set _ fl hfl] at h1
            rw [take_next hx, show cnt (o.take q ++ [_]) = _ from cnt_app1 (o.take q) ⟨xi, xp, fl⟩ fl rfl]
            exact h1)
          have hu3 : Upd [t] wr (wr.drew.setCell ⟨t, fl, none⟩ (.int .i64 (cnt (o.take q) fl + 1))) := (Upd.drew _ _).trans (Upd.setCell' _ _ _ (by simp))
          have HB3 := Lib.hid (HB2.out.trans (hu3.below HB2.out.size (by simp; exact HTW.out)))
          have HR3 : Hid (∀ (q' : Nat) (x : It), o[q']? = some x → ∃ g', (some ⟨g, 0, none⟩ : Option Addr) = some ⟨g', 0, none⟩ ∧ ItemsIn (wr.drew.setCell ⟨t, fl, none⟩ (.int .i64 (cnt (o.take q) fl + 1))) g' o ∧ g' ≠ t ∧ o.length ≤ cap ∧ cap ≤ maxLen) := Lib.hid (fun _ _ _ => ⟨g, rfl, hin.keep hu3 (by simp; exact hgt), hgt, hle, hcm⟩)
          obtain ⟨cq, hcq⟩ : ∃ c, cnt (o.take q) fl = c := ⟨_, rfl⟩
          rw [hcq] at t0 n0 n1 HT3 HB3 HR3
          clear hx hin hgt hle hcm hcq hu3 hfl HT2 HB2
          go_wp2_with fail
          go_still_tail 14, (by kernel_rfl)
          change wpList _ _ _ _ _ wr.drew
          go_wp2_with fail
          go_roundw
          case rel => exact ⟨q + 1, by omega, by go_num, HT3, HB3, HR3⟩
          case measure => simp [intOf] <;> omega
        · obtain rfl : q = no := by omega
          have hall : o.take q = o := by rw [← HNO.out]; simp
          have HC : Hid (arr5 (cnt (o.take q)) = arr5 (cnt L)) := Lib.hid (by rw [hall]; congr 1; funext g; exact cnt_perm HPM.out g)
          rw [HC.out] at HT2
          have HCL : Hid (∀ g, 0 ≤ cnt L g ∧ cnt L g ≤ 20) := Lib.hid (fun g => ⟨cnt_nonneg _ _, by have := cnt_le L g; have := HLEN.out; omega⟩)
          clear hall hqn hq HR2 HC
          go_wp2_with fail
          go_loopw [16] (fun i wr => ∃ i' : Nat, i' ≤ f ∧ i = .int .i64 i' ∧ Hid (BlockAt wr t 25 (arr5 (cnt L))) ∧ Hid (Below w.heap.size w wr)) (fun i _ => f - (intOf i).toNat)
          case atStart => exact ⟨0, by omega, rfl, HT2, HB2⟩
          case round =>
            obtain ⟨i, hi, rfl, HT3, HB3⟩ := hrel
            clear HT2 HB2
            by_cases hif : i < f
            · have i0 : (0 : Int) ≤ i := by omega
              have i1 : (i : Int) < f := by omega
              have i5 : (i : Int) < 5 := by omega
              have HIF := Lib.hid hif
              clear hif
              go_wp2_with fail
              go_loopw [17] (fun j wr => ∃ j' : Nat, j' ≤ f ∧ j = .int .i64 j' ∧ Hid (BlockAt wr t 25 (arr5 (cnt L))) ∧ Hid (Below w.heap.size w wr)) (fun j _ => f - (intOf j).toNat)
              case atStart => exact ⟨0, by omega, rfl, HT3, HB3⟩
              case round =>
                obtain ⟨j, hj, rfl, HT4, HB4⟩ := hrel
                clear HT3 HB3
                by_cases hjf : j < f
                · have j0 : (0 : Int) ≤ j := by omega
                  have j1 : (j : Int) < f := by omega
                  have j5 : (j : Int) < 5 := by omega
                  have t0 := HT4.out.cell i _ (arr5_get _ i (by have := HIF.out; omega))
                  have t1 := HT4.out.cell j _ (arr5_get _ j (by omega))
                  have hfair := HS.out.fair HIF.out hjf
                  obtain ⟨p1, p2⟩ := HCL.out i
                  obtain ⟨p3, p4⟩ := HCL.out j
                  obtain ⟨ci, hci⟩ : ∃ c, cnt L i = c := ⟨_, rfl⟩
                  obtain ⟨cj, hcj⟩ : ∃ c, cnt L j = c := ⟨_, rfl⟩
                  rw [hci] at t0 hfair p1 p2
                  rw [hcj] at t1 hfair p3 p4
                  have HJF := Lib.hid hjf
                  clear hci hcj hjf
                  go_wp2_with fail
                  go_quiet (fail)
                  go_wp2_with fail
                  have HT5 : ∀ n, Hid (BlockAt (wr.drewN n) t 25 (arr5 (cnt L))) := fun n => Lib.hid (HT4.out.drewN n)
                  have HB5 : ∀ n, Hid (Below w.heap.size w (wr.drewN n)) := fun n => Lib.hid (HB4.out.trans ((Upd.drewN [] _ n).below HB4.out.size (by simp)))
                  go_roundw
                  case rel => exact ⟨j + 1, by have := HJF.out; omega, by go_num, HT5 _, HB5 _⟩
                  case measure => have := HJF.out; simp [intOf] <;> omega
                · obtain rfl : j = f := by omega
                  clear hjf
                  go_wp2_with fail
                  go_roundw
                  case rel => exact ⟨i + 1, by have := HIF.out; omega, by go_num, HT4, HB4⟩
                  case measure => have := HIF.out; simp [intOf] <;> omega
            · obtain rfl : i = f := by omega
              clear hif
              by_cases hkd : k ≤ d
              · obtain rfl : q = k := by omega
                have hm : min (q : Int) (d : Int) = (q : Int) := by omega
                clear hnk hd hkd
                go_upto_region 31 with fail
                go_wp2_with fail
                refine (lives_any _).mono ?_
                rintro e w9 ⟨rfl, hb9⟩
                have HB9 := Lib.hid hb9
                clear hb9
                go_wp2_with fail
                go_ret
                exact ⟨rfl, HB3.out.trans (HB9.out.mono HB3.out.size)⟩
              · obtain rfl : q = d := by omega
                have hm : min (k : Int) (q : Int) = (q : Int) := by omega
                clear hnk hd hkd
                go_upto_region 31 with fail
                go_wp2_with fail
                refine (lives_any _).mono ?_
                rintro e w9 ⟨rfl, hb9⟩
                have HB9 := Lib.hid hb9
                clear hb9
                go_wp2_with fail
                go_ret
                exact ⟨rfl, HB3.out.trans (HB9.out.mono HB3.out.size)⟩
end Go.Proofs.Ytapoikegoknlcaa
