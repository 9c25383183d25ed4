/- Layer 22: the walk of Take. -/
import Derived.Test.YtapoikegoknlcaaFairE
import Derived.RegionTactic
namespace Go.Proofs.Ytapoikegoknlcaa
open Go.RowKit
theorem qCs_markB (most n : Int) (v : Nat → Value) (r : Nat → Row) (p : Nat) (hp : p < 4) (t : Bool) (f : Int) : ((qCs most n v r).set (2 + p * 3 + 2) (.int .i64 f)).set (2 + p * 3 + 1) (.bool t) = qCs most n v (upd r p ⟨(r p).items, t, f⟩) := by
  rcases (show p = 0 ∨ p = 1 ∨ p = 2 ∨ p = 3 by omega) with rfl | rfl | rfl | rfl <;> rfl
theorem QAt.mark {W : World} {base b : Nat} {most n : Int} {v : Nat → Value} {r : Nat → Row} (h : QAt W base b most n v r) {p : Nat} (hp : p < 4) (t : Bool) (f : Int) :
    QAt ((W.setCell ⟨b, 2 + p * 3 + 1, none⟩ (.bool t)).setCell ⟨b, 2 + p * 3 + 2, none⟩ (.int .i64 f)) base b most n v (upd r p ⟨(r p).items, t, f⟩) :=
  ⟨by rw [← qCs_mark most n v r p hp t f]; exact (h.blk.set _ _).set _ _, h.lo, fun q hq => by
    have e : (upd r p ⟨(r p).items, t, f⟩ q).items = (r q).items := by unfold upd; split <;> simp_all
    rw [e]
    exact ((Upd.setCell' (S := [b]) W ⟨b, 2 + p * 3 + 1, none⟩ _ (by simp)).trans (Upd.setCell' _ _ _ (by simp))).owns (h.own q hq) (fun k hk => by simp; exact h.ne q k hq hk), h.ne, h.apart⟩
theorem QAt.markB {W : World} {base b : Nat} {most n : Int} {v : Nat → Value} {r : Nat → Row} (h : QAt W base b most n v r) {p : Nat} (hp : p < 4) (t : Bool) (f : Int) :
    QAt ((W.setCell ⟨b, 2 + p * 3 + 2, none⟩ (.int .i64 f)).setCell ⟨b, 2 + p * 3 + 1, none⟩ (.bool t)) base b most n v (upd r p ⟨(r p).items, t, f⟩) :=
  ⟨by rw [← qCs_markB most n v r p hp t f]; exact (h.blk.set _ _).set _ _, h.lo, fun q hq => by
    have e : (upd r p ⟨(r p).items, t, f⟩ q).items = (r q).items := by unfold upd; split <;> simp_all
    rw [e]
    exact ((Upd.setCell' (S := [b]) W ⟨b, 2 + p * 3 + 2, none⟩ _ (by simp)).trans (Upd.setCell' _ _ _ (by simp))).owns (h.own q hq) (fun k hk => by simp; exact h.ne q k hq hk), h.ne, h.apart⟩
theorem upd_twice {α : Type} (f : Nat → α) (p : Nat) (x y : α) : upd (upd f p x) p y = upd f p y := by
  funext q; unfold upd; split <;> rfl
/-- What Take does: nothing waits; or the first of the next flow of the greatest priority. -/
inductive TakeIs (r : Nat → Row) : (Nat → Row) → It → Bool → Prop
  | none : (∀ q, q < 4 → (r q).items = []) → TakeIs r r zeroIt false
  | some (p i : Nat) (f : Int) (x : It) : p < 4 → (∀ q, p < q → q < 4 → (r q).items = []) → NextOk (r p).items (r p).taken (r p).last f → (r p).items[i]? = some x → x.flow = f → (∀ (k : Nat) (y : It), k < i → (r p).items[k]? = some y → ¬ y.flow = f) →
      TakeIs r (upd r p ⟨(r p).items.eraseIdx i, true, f⟩) x true
def TakePost (base b : Nat) (most n : Int) (v : Nat → Value) (r : Nat → Row) (w : World) (e : Ending) (w' : World) : Prop :=
  ∃ (v' : Nat → Value) (r' : Nat → Row) (x : It) (is : Bool), TakeIs r r' x is ∧ e = .returned (.tuple #[x.val, .bool is]) ∧ QAt w' base b most (if is then n - 1 else n) v' r' ∧ OwnFrom w v v' ∧ QUpd b v w w'
theorem QAt.empty {W : World} {base b : Nat} {most n : Int} {v : Nat → Value} {r : Nat → Row} (h : QAt W base b most n v r) {p : Nat} (hp : p < 4) (he : (r p).items = []) : ∃ ao cap, v p = .slice ao 0 cap := by
  rcases (h.own p hp).2 with ⟨hv, -⟩ | ⟨g, cap, cur, hv, -⟩
  · exact ⟨_, _, hv⟩
  · rw [he] at hv; exact ⟨_, _, hv⟩
set_option maxHeartbeats 4000000 in
theorem take_any (base b : Nat) (most n : Int) (v : Nat → Value) (r : Nat → Row) (w : World) (h : QAt w base b most n v r) (hn0 : 0 ≤ n) (hn : n ≤ 1000000) (hlen : ∀ q, q < 4 → ((r q).items.length : Int) ≤ 1000000) (hne0 : ∀ q, q < 4 → (r q).items ≠ [] → 1 ≤ n) (_ : base ≤ w.heap.size) :
    Calls Try.prog 14 #[.pointer (some ⟨b, 0, none⟩)] w (TakePost base b most n v r w) := by
  have HQ := Lib.hid h
  have hbl := h.blk.lt
  have HLE := Lib.hid hlen
  have HNE := Lib.hid hne0
  have HW1 : Hid (QAt (w.alloc (.cells #[.int .i64 0, .int .i64 0, .int .i64 0] 27)) base b most n v r) := Lib.hid (h.next (Upd.alloc _ _ _))
  have HR1 : Hid (BlockAt (w.alloc (.cells #[.int .i64 0, .int .i64 0, .int .i64 0] 27)) w.heap.size 27 [.int .i64 0, .int .i64 0, .int .i64 0]) := Lib.hid (BlockAt.new w _ [.int .i64 0, .int .i64 0, .int .i64 0])
  have HB1 : Hid (QUpd b v w (w.alloc (.cells #[.int .i64 0, .int .i64 0, .int .i64 0] 27))) := Lib.hid ((QUpd.refl b v w).step (Upd.alloc [] w _) (by simp))
  have HSZ := Lib.hid (show w.heap.size < (w.alloc (.cells #[.int .i64 0, .int .i64 0, .int .i64 0] 27)).heap.size by simp)
  have HOZ := Lib.hid (show ∀ q k, q < 4 → (v q).ownBlock = some k → k < w.heap.size from fun q k hq hk => ((h.own q hq).lt k hk).2)
  have HBZ := Lib.hid hbl
  have HST : Hid (∀ q, 4 ≤ q → q < 4 → (r q).items = []) := Lib.hid (fun q a b => by omega)
  clear h hlen hne0 hbl
  go_enter Try.func14, Try.ntmps14
  go_wp2_with fail
  obtain ⟨w1, hw1⟩ : ∃ w1, w.alloc (.cells #[.int .i64 0, .int .i64 0, .int .i64 0] 27) = w1 := ⟨_, rfl⟩
  obtain ⟨Z, hZ⟩ : ∃ Z, w.heap.size = Z := ⟨_, rfl⟩
  rw [hw1] at HW1 HR1 HB1 HSZ ⊢
  rw [hZ] at HR1 HSZ HOZ HBZ ⊢
  have HZW := Lib.hid hZ
  clear hw1 hZ HQ
  go_loop [4] (fun i => ∃ j : Nat, (j : Int) ≤ 4 ∧ i = .int .i64 ((j : Int) - 1) ∧ Hid (∀ q, j ≤ q → q < 4 → (r q).items = [])) (fun i => (intOf i + 1).toNat)
  case atStart => exact ⟨4, by omega, rfl, HST⟩
  case round =>
    obtain ⟨j, hj, rfl, HE⟩ := hrel
    clear HST
    by_cases hlt : 1 ≤ j
    · obtain ⟨p, rfl⟩ : ∃ p, j = p + 1 := ⟨j - 1, by omega⟩
      rw [show (((p + 1 : Nat) : Int) - 1) = (p : Int) by omega]
      have hp : p < 4 := by omega
      have p0 : (0 : Int) ≤ p := by omega
      have p1 : (p : Int) < 4 := by omega
      have HP := Lib.hid hp
      obtain ⟨g0, g1, g2⟩ := qCs_get most n v r p hp
      have c0 := HW1.out.blk.cell _ _ g0
      have c1 := HW1.out.blk.cell _ _ g1
      have c2 := HW1.out.blk.cell _ _ g2
      clear hj hlt g0 g1 g2 hp
      by_cases he : (r p).items = []
      · obtain ⟨ao, cap, hv⟩ := HW1.out.empty HP.out he
        have HE2 : Hid (∀ q, p ≤ q → q < 4 → (r q).items = []) := Lib.hid (fun q hq hq4 => by
          rcases (show q = p ∨ p + 1 ≤ q by omega) with rfl | hh
          · exact he
          · exact HE.out q hh hq4)
        rw [hv] at c0
        have HPM := Lib.hid (show ((p : Int) - 1 + 1).toNat < ((p : Int) + 1).toNat ∧ (p : Int) ≤ 4 by omega)
        clear he hv c1 c2
        go_wp2_with fail
        go_round
        case rel => exact ⟨p, HPM.out.2, rfl, HE2⟩
        case measure => simp [intOf] <;> omega
      · obtain ⟨g, cap, junk, hv, hg, hgl, hcm, hgb⟩ := HW1.out.row HP.out he
        rw [hv] at c0
        have hin := ItemsIn.of hg
        have hl0 : 0 < (r p).items.length := List.length_pos_iff.2 he
        have hl1 := HLE.out p HP.out
        have hn1 := HNE.out p HP.out he
        have CN := Lib.hid (next_any b (2 + p * 3) g cap (r p).items (r p).taken (r p).last w1 hin hl0 hl1 c0 c1 c2)
        obtain ⟨nl, hnl⟩ : ∃ nl, (r p).items.length = nl := ⟨_, rfl⟩
        have HNL := Lib.hid hnl
        rw [hnl] at c0 hl0
        have l1 : (nl : Int) ≤ 1000000 := by omega
        have l0 : ((nl : Int) == 0) = false := by simp; omega
        have HL2 := Lib.hid hl0
        have HV := Lib.hid hv
        have HCM := Lib.hid hcm
        clear he hv hg hgl hcm hin hl1 hnl hl0
        go_wp2_with fail
        refine CN.out.mono ?_
        rintro e w2 ⟨⟨f, rfl, hnx⟩, hb2⟩
        have HNX := Lib.hid hnx
        have HW2 := Lib.hid (HW1.out.next (Upd.ofBelow hb2))
        have HR2 := Lib.hid (HR1.out.keep (Upd.ofBelow hb2) (by simp))
        have HB2 := Lib.hid (HB1.out.step (Upd.ofBelow hb2) (by simp))
        have HS2 := Lib.hid (show Z < w2.heap.size by have := hb2.size; have := HSZ.out; omega)
        have c0 := (Upd.ofBelow hb2).cell c0 (by simp)
        obtain ⟨gq, capq, junkq, hvq, hgq, -, -, -⟩ := HW2.out.row HP.out (by intro hh; have := HNL.out; rw [hh] at this; simp at this; have := HL2.out; omega)
        have hgg : gq = g ∧ capq = cap := by rw [HV.out] at hvq; cases hvq; exact ⟨rfl, rfl⟩
        obtain ⟨rfl, rfl⟩ := hgg
        have hin3 : ItemsIn (w2.alloc (.cells #[.int .i64 f] 3)) gq (r p).items := ItemsIn.of (hgq.alloc _)
        have hs3 : (w2.alloc (.cells #[.int .i64 f] 3)).cell? ⟨w2.heap.size, 0, none⟩ = some (.int .i64 f) := (BlockAt.new w2 3 [.int .i64 f]).cell 0 _ rfl
        have CI := Lib.hid (idxF_any gq capq w2.heap.size (r p).items f _ hin3 (by rw [HNL.out]; exact l1) hs3 HNX.out.is)
        rw [HNL.out] at CI
        have HW3 : Hid (QAt (w2.alloc (.cells #[.int .i64 f] 3)) base b most n v r) := Lib.hid (HW2.out.next (Upd.alloc _ _ _))
        have HR3 : Hid (BlockAt (w2.alloc (.cells #[.int .i64 f] 3)) Z 27 [.int .i64 0, .int .i64 0, .int .i64 0]) := Lib.hid (HR2.out.alloc _)
        have HB3 : Hid (QUpd b v w (w2.alloc (.cells #[.int .i64 f] 3))) := Lib.hid (HB2.out.step (Upd.alloc [] w2 _) (by simp))
        have HSF : Hid (BlockAt (w2.alloc (.cells #[.int .i64 f] 3)) w2.heap.size 3 [.int .i64 f]) := Lib.hid (BlockAt.new w2 _ _)
        have eb : w2.heap.size ≠ b := by have := HBZ.out; have := HS2.out; omega
        have eb2 : b < w2.heap.size := by have := HBZ.out; have := HS2.out; omega
        have HSN := Lib.hid (show w2.heap.size ≠ b ∧ w2.heap.size ≠ Z from ⟨eb, by have := HS2.out; omega⟩)
        clear hnx hb2 c1 c2 hvq hgq hin3 hs3 CN
        go_wp2_with fail
        obtain ⟨W3, hW3⟩ : ∃ W, w2.alloc (.cells #[.int .i64 f] 3) = W := ⟨_, rfl⟩
        obtain ⟨s, hs⟩ : ∃ s, w2.heap.size = s := ⟨_, rfl⟩
        rw [hW3, hs] at CI HSF
        rw [hW3] at HW3 HR3 HB3
        rw [hs] at HSN eb eb2
        rw [hW3, hs]
        clear hW3 hs c0
        refine CI.out.mono ?_
        rintro e w4 ⟨⟨k, rfl, hk⟩, hb4⟩
        have HK := Lib.hid hk
        have hq4 := HW3.out.next (Upd.ofBelow hb4)
        have HW4 := Lib.hid hq4
        have HR4 := Lib.hid (HR3.out.keep (Upd.ofBelow hb4) (by simp))
        have HB4 := Lib.hid (HB3.out.step (Upd.ofBelow hb4) (by simp))
        have hsf := (HSF.out.keep (Upd.ofBelow hb4) (by simp)).cell 0 _ rfl
        obtain ⟨g0, g1, g2⟩ := qCs_get most n v r p HP.out
        have d0 := hq4.blk.cell _ _ g0
        have d1 := hq4.blk.cell _ _ g1
        have d2 := hq4.blk.cell _ _ g2
        have e1 := hq4.blk.free (2 + p * 3 + 1)
        have e2 := hq4.blk.free (2 + p * 3 + 2)
        have n1 := hq4.blk.cell 1 _ (qCs_most most n v r).2
        have n2 := hq4.blk.free 1
        clear hk hb4 hq4 g0 g1 g2 CI
        go_wp2_with fail
        go_region
        all_goals first
          | (have hq5 := (QAt.mark HW4.out HP.out true f).next (Upd.drew _ _)
             have hu5 : Upd [b] w4 (((w4.setCell ⟨b, 2 + p * 3 + 1, none⟩ (.bool true)).setCell ⟨b, 2 + p * 3 + 2, none⟩ (.int .i64 f)).drew) := ((Upd.setCell' _ _ _ (by simp)).trans (Upd.setCell' _ _ _ (by simp))).trans (Upd.drew _ _)
             obtain ⟨W5, hW5⟩ : ∃ W5, ((w4.setCell ⟨b, 2 + p * 3 + 1, none⟩ (.bool true)).setCell ⟨b, 2 + p * 3 + 2, none⟩ (.int .i64 f)).drew = W5 := ⟨_, rfl⟩
             rw [hW5] at hq5 hu5 ⊢
             clear hW5)
          | (have hq5 := (QAt.markB HW4.out HP.out true f).next (Upd.drew _ _)
             have hu5 : Upd [b] w4 (((w4.setCell ⟨b, 2 + p * 3 + 2, none⟩ (.int .i64 f)).setCell ⟨b, 2 + p * 3 + 1, none⟩ (.bool true)).drew) := ((Upd.setCell' _ _ _ (by simp)).trans (Upd.setCell' _ _ _ (by simp))).trans (Upd.drew _ _)
             obtain ⟨W5, hW5⟩ : ∃ W5, ((w4.setCell ⟨b, 2 + p * 3 + 2, none⟩ (.int .i64 f)).setCell ⟨b, 2 + p * 3 + 1, none⟩ (.bool true)).drew = W5 := ⟨_, rfl⟩
             rw [hW5] at hq5 hu5 ⊢
             clear hW5)
        all_goals
          have HW5 := Lib.hid hq5
          have HR5 := Lib.hid (HR4.out.keep hu5 (by have := HBZ.out; simp; omega))
          have HB5 := Lib.hid (HB4.out.step hu5 (by simp; exact .inl (.inl rfl)))
          have n3 := hq5.blk.cell 1 _ (qCs_most most n v _).2
          have n4 := hq5.blk.free 1
          clear hq5 hu5 d0 d1 d2 e1 e2 n1 n2 hsf
        all_goals go_wp2_with fail
        all_goals
          have hq6 := HW5.out.count (n - 1)
          have hu6 : Upd [b] W5 (W5.setCell ⟨b, 1, none⟩ (.int .i64 (n - 1))) := Upd.setCell' _ _ _ (by simp)
          obtain ⟨W6, hW6⟩ : ∃ W6, W5.setCell ⟨b, 1, none⟩ (.int .i64 (n - 1)) = W6 := ⟨_, rfl⟩
          rw [hW6] at hq6 hu6 ⊢
          have HW6 := Lib.hid hq6
          have HR6 := Lib.hid (HR5.out.keep hu6 (by have := HBZ.out; simp; omega))
          have HB6 := Lib.hid (HB5.out.step hu6 (by simp; exact .inl (.inl rfl)))
          clear hq6 hu6 hW6 n3 n4
          obtain ⟨⟨x, hx, hxf⟩, hfst⟩ := HK.out
          have hrow : (upd r p ⟨(r p).items, true, f⟩) p = ⟨(r p).items, true, f⟩ := upd_same _ _ _
          obtain ⟨g6, cap6, junk6, hv6, hg6, hl6, hm6, hb6⟩ := HW6.out.row HP.out (by rw [hrow]; intro hh; have := HNL.out; dsimp only at hh; rw [hh] at this; simp at this; have := HL2.out; omega)
          rw [hrow] at hv6 hg6 hl6
          dsimp only at hv6 hg6 hl6
          obtain ⟨z0, -, -⟩ := qCs_get most (n - 1) v (upd r p ⟨(r p).items, true, f⟩) p HP.out
          have CR := Lib.hid (remove_any b (2 + p * 3) g6 cap6 k (r p).items junk6 x W6 hx hg6 hl6 hm6 _ HW6.out.blk (by rw [z0, hv6]) (HW6.out.ne p g6 HP.out (by rw [hv6]; rfl)))
          have HX := Lib.hid (And.intro hx (And.intro hxf hfst))
          have HV6 := Lib.hid (And.intro hv6 (And.intro hm6 hb6))
          clear hx hxf hfst hv6 hg6 hl6 hm6 hb6 z0 hrow
          refine CR.out.mono ?_
          rintro e w7 ⟨rfl, hj7, hb7, hu7⟩
        all_goals
          obtain ⟨hv6, hm6, hb6⟩ := HV6.out
          have hown6 : (v p).ownBlock = some g6 := by rw [hv6]; rfl
          have hg6Z := HOZ.out p g6 HP.out hown6
          rw [qCs_row most (n - 1) v _ p HP.out _ ((r p).items.eraseIdx k), upd_same] at hb7
          obtain ⟨junk7, hj1, hj2⟩ := hj7
          have hki := (List.getElem?_eq_some_iff.1 HX.out.1).1
          have hel : ((r p).items.eraseIdx k).length = (r p).items.length - 1 := by rw [List.length_eraseIdx]; simp [hki]
          have ho7 := ownsRow_of hj1 hj2 hm6 hb6
          rw [hel] at ho7
          have hq8 := QAt.turn HW6.out HP.out hown6 hu7 (x := .slice (some ⟨g6, 0, none⟩) ((r p).items.length - 1) cap6) (y := ⟨(r p).items.eraseIdx k, true, f⟩) hb7 (by dsimp only; rw [hel]; exact ho7) rfl
          rw [upd_twice] at hq8
          have hr8 := HR6.out.keep hu7 (by have := HBZ.out; simp; omega)
          have hl8 := HB6.out.step hu7 (by simp; exact ⟨.inl (.inr ⟨p, HP.out, hown6⟩), .inl (.inl rfl)⟩)
          have HOF : Hid (OwnFrom w v (upd v p (.slice (some ⟨g6, 0, none⟩) ((r p).items.length - 1) cap6))) := Lib.hid (fun q k' hq hk' => by
            by_cases e : q = p
            · subst e; rw [upd_same] at hk'; cases hk'; exact .inl ⟨q, HP.out, hown6⟩
            · rw [upd_other _ _ e] at hk'; exact .inl ⟨q, hq, hk'⟩)
          have HO8 : Hid (∀ q k', q < 4 → ((upd v p (.slice (some ⟨g6, 0, none⟩) ((r p).items.length - 1) cap6)) q).ownBlock = some k' → k' < Z) := Lib.hid (fun q k' hq hk' => by
            by_cases e : q = p
            · subst e; rw [upd_same] at hk'; cases hk'; exact hg6Z
            · rw [upd_other _ _ e] at hk'; exact HOZ.out q k' hq hk')
          have HQ8 := Lib.hid hq8
          have HL8 := Lib.hid hl8
          have r0 := hr8.cell 0 _ rfl
          have r1 := hr8.cell 1 _ rfl
          have r2 := hr8.cell 2 _ rfl
          have f0 := hr8.free 0
          have f1 := hr8.free 1
          have f2 := hr8.free 2
          have HR8 := Lib.hid hr8
          have HTI := Lib.hid (TakeIs.some (r := r) p k f x HP.out (fun q hq hq4 => HE.out q (by omega) hq4) HNX.out HX.out.1 HX.out.2.1 HX.out.2.2)
          obtain ⟨xi, xp, xf⟩ := x
          unfold It.val
          dsimp only
          clear hv6 hm6 hb6 hown6 hg6Z hb7 hj1 hj2 hki hel ho7 hq8 hr8 hl8 hu7 CR c0
        all_goals go_wp2_with fail
        all_goals
          have hr9 : BlockAt (((w7.setCell ⟨Z, 0, none⟩ (.int .i64 xi)).setCell ⟨Z, 1, none⟩ (.int .i64 xp)).setCell ⟨Z, 2, none⟩ (.int .i64 xf)) Z 27 [.int .i64 xi, .int .i64 xp, .int .i64 xf] := ((HR8.out.set 0 _).set 1 _).set 2 _
          have q0 := hr9.cell 0 _ rfl
          have q1 := hr9.cell 1 _ rfl
          have q2 := hr9.cell 2 _ rfl
          have hu9 : Upd [Z] w7 (((w7.setCell ⟨Z, 0, none⟩ (.int .i64 xi)).setCell ⟨Z, 1, none⟩ (.int .i64 xp)).setCell ⟨Z, 2, none⟩ (.int .i64 xf)) := ((Upd.setCell' _ _ _ (by simp)).trans (Upd.setCell' _ _ _ (by simp))).trans (Upd.setCell' _ _ _ (by simp))
          obtain ⟨WF, hWF⟩ : ∃ WF, (((w7.setCell ⟨Z, 0, none⟩ (.int .i64 xi)).setCell ⟨Z, 1, none⟩ (.int .i64 xp)).setCell ⟨Z, 2, none⟩ (.int .i64 xf)) = WF := ⟨_, rfl⟩
          rw [hWF] at hr9 hu9 q0 q1 q2 ⊢
          refine bodyPost_ret (v := .tuple #[.agg #[.int .i64 xi, .int .i64 xp, .int .i64 xf], .bool true]) (by simp [results, Try.results14, go_sem, q0, q1, q2]) rfl ?_
          exact ⟨_, _, ⟨xi, xp, xf⟩, true, HTI.out, rfl, HQ8.out.away hu9 (by have := HBZ.out; simp; omega) (fun q k' hq hk' => by have := HO8.out q k' hq hk'; simp; omega), HOF.out, HL8.out.step hu9 (by have := HZW.out; simp; exact .inr (by omega))⟩
    · obtain rfl : j = 0 := by omega
      rw [show (((0 : Nat) : Int) - 1) = -1 from rfl]
      have r0 := HR1.out.cell 0 _ rfl
      have r1 := HR1.out.cell 1 _ rfl
      have r2 := HR1.out.cell 2 _ rfl
      have f0 := HR1.out.free 0
      have f1 := HR1.out.free 1
      have f2 := HR1.out.free 2
      clear hlt hj
      go_wp2_with fail
      refine bodyPost_ret (v := .tuple #[zeroIt.val, .bool false]) (by simp [results, Try.results14, go_sem, r0, r1, r2, zeroIt, It.val]) rfl ?_
      have hu5 : Upd [Z] w1 (((w1.setCell ⟨Z, 0, none⟩ (.int .i64 0)).setCell ⟨Z, 1, none⟩ (.int .i64 0)).setCell ⟨Z, 2, none⟩ (.int .i64 0)) :=
        ((Upd.setCell' _ _ _ (by simp)).trans (Upd.setCell' _ _ _ (by simp))).trans (Upd.setCell' _ _ _ (by simp))
      refine ⟨v, r, zeroIt, false, TakeIs.none (fun q hq => HE.out q (by omega) hq), rfl, HW1.out.away hu5 (by have := HBZ.out; simp; omega) (fun q k hq hk => by have := HOZ.out q k hq hk; simp; omega), fun q k hq hk => .inl ⟨q, hq, hk⟩, HB1.out.step hu5 (by have := HZW.out; simp; exact .inr (by omega))⟩
end Go.Proofs.Ytapoikegoknlcaa
