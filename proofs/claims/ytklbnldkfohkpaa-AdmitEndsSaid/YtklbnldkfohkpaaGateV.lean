/- Layer 23: made. -/
import Derived.Test.YtklbnldkfohkpaaGateT
namespace Go.Proofs.Ytklbnldkfohkpaa
open Go.RowKit
theorem GateAt.old {base : Nat} {W : World} {gb : Nat} {g : Gt} {S : List Nat} {z : Nat} (h : GateAt base W gb g S) (hz : z < base) : GateAt base W gb g (z :: S) := by
  obtain ⟨qb, lb, um, h⟩ := h
  obtain ⟨v, hq, hb, hS⟩ := h.q
  have l1 := h.low.1
  have l2 := h.low.2.1
  have l3 := h.low.2.2
  refine ⟨qb, lb, um, h.blk, ⟨v, hq, hb, fun k hk => ?_⟩, h.lim, h.set, h.gl, h.gm, h.lm, h.low, ?_, ?_, ?_⟩
  · by_cases e : k = z
    · subst e
      refine ⟨by omega, fun hm => ?_⟩
      rcases hm with rfl | ⟨q, hq4, hk4⟩
      · have := hq.lo; omega
      · have := ((hq.own q hq4).lt _ hk4).1; omega
    · refine hS k ?_
      simp only [List.mem_cons] at hk ⊢
      rcases hk with h | h | h | h | h
      · exact .inl h
      · exact .inr (.inl h)
      · exact .inr (.inr (.inl h))
      · exact absurd h e
      · exact .inr (.inr (.inr h))
  · simp only [List.mem_cons, not_or]; exact ⟨by omega, h.ap.1⟩
  · simp only [List.mem_cons, not_or]; exact ⟨by omega, h.ap.2.1⟩
  · simp only [List.mem_cons, not_or]; exact ⟨by omega, h.ap.2.2⟩
theorem GateAt.lower {base b' : Nat} {W : World} {gb : Nat} {g : Gt} {S : List Nat} (h : GateAt base W gb g S) (hb' : b' ≤ base) : GateAt b' W gb g S := by
  obtain ⟨qb, lb, um, h⟩ := h
  obtain ⟨v, hq, hb, hS⟩ := h.q
  exact ⟨qb, lb, um, h.blk, ⟨v, ⟨hq.blk, Nat.le_trans hb' hq.lo, fun p hp => ownsRow_mono (hq.own p hp) hb', hq.ne, hq.apart⟩, Nat.le_trans hb' hb, hS⟩, h.lim, h.set, h.gl, h.gm, h.lm, ⟨Nat.le_trans hb' h.low.1, Nat.le_trans hb' h.low.2.1, Nat.le_trans hb' h.low.2.2⟩, h.ap⟩
theorem GateAt.writeZ {base : Nat} {W W' : World} {gb : Nat} {g : Gt} {S T : List Nat} (h : GateAt base W gb g S) (u : Upd T W W') (hT : ∀ k ∈ T, k ∈ S) : GateAt base W' gb g S := by
  obtain ⟨qb, lb, um, h⟩ := h
  exact ⟨qb, lb, um, h.write u hT⟩
def refL (lo hi : Int) : Value := .agg #[.int .i64 lo, .int .i64 hi, .int .i64 lo, .int .i64 0, .bool false, .int .i64 0]
def refG (lo hi k : Int) : Value := .agg #[.int .i64 lo, .int .i64 hi, .int .i64 lo, .int .i64 0, .bool false, .int .i64 0, .int .i64 k, .slice none 0 0, .int .i64 0, .int .i64 0, .int .i64 0, .int .i64 0, .slice none 0 0]
set_option maxHeartbeats 1000000 in
theorem refNew21_any (lo hi : Int) (w : World) : Calls Try.prog 45 #[.int .i64 lo, .int .i64 hi] w fun e w' => e = .returned (refL lo hi) ∧ Upd [] w w' := by
  go_enter Try.func45, Try.ntmps45
  go_wp2_with fail
  have hb := BlockAt.new w 53 [.int .i64 lo, .int .i64 hi, .int .i64 lo, .int .i64 0, .bool false, .int .i64 0]
  have r0 := hb.cell 0 _ rfl
  have r1 := hb.cell 1 _ rfl
  have r2 := hb.cell 2 _ rfl
  have r3 := hb.cell 3 _ rfl
  have r4 := hb.cell 4 _ rfl
  have r5 := hb.cell 5 _ rfl
  refine bodyPost_ret (v := refL lo hi) (by simp [results, Try.results45, go_sem, r0, r1, r2, r3, r4, r5, refL]) rfl ?_
  exact ⟨rfl, Upd.alloc [] _ _⟩
set_option maxHeartbeats 1000000 in
theorem refNew_any (lo hi k : Int) (w : World) : Calls Try.prog 39 #[.int .i64 lo, .int .i64 hi, .int .i64 k] w fun e w' => e = .returned (refG lo hi k) ∧ Upd [] w w' := by
  go_enter Try.func39, Try.ntmps39
  go_wp2_with fail
  refine (refNew21_any lo hi _).mono ?_
  rintro e w1 ⟨rfl, hu⟩
  obtain ⟨Z, hZ⟩ : ∃ Z, w.heap.size = Z := ⟨_, rfl⟩
  have hb : BlockAt w1 Z 59 [.int .i64 0, .int .i64 0, .int .i64 0, .int .i64 0, .bool false, .int .i64 0, .int .i64 0, .slice none 0 0, .int .i64 0, .int .i64 0, .int .i64 0, .int .i64 0, .slice none 0 0] := by rw [← hZ]; exact (BlockAt.new w 59 [.int .i64 0, .int .i64 0, .int .i64 0, .int .i64 0, .bool false, .int .i64 0, .int .i64 0, .slice none 0 0, .int .i64 0, .int .i64 0, .int .i64 0, .int .i64 0, .slice none 0 0]).keep hu (by simp)
  have c0 := hb.cell 0 _ rfl
  have f0 := hb.free 0
  have c1 := hb.cell 1 _ rfl
  have f1 := hb.free 1
  have c2 := hb.cell 2 _ rfl
  have f2 := hb.free 2
  have c3 := hb.cell 3 _ rfl
  have f3 := hb.free 3
  have c4 := hb.cell 4 _ rfl
  have f4 := hb.free 4
  have c5 := hb.cell 5 _ rfl
  have f5 := hb.free 5
  have c6 := hb.cell 6 _ rfl
  have f6 := hb.free 6
  have c7 := hb.cell 7 _ rfl
  have f7 := hb.free 7
  have c8 := hb.cell 8 _ rfl
  have f8 := hb.free 8
  have c9 := hb.cell 9 _ rfl
  have f9 := hb.free 9
  have c10 := hb.cell 10 _ rfl
  have f10 := hb.free 10
  have c11 := hb.cell 11 _ rfl
  have f11 := hb.free 11
  have c12 := hb.cell 12 _ rfl
  have f12 := hb.free 12
  have HU : Hid (Upd [] w w1) := Lib.hid ((Upd.alloc [] w _).trans hu)
  have HZ := Lib.hid hZ
  have HB := Lib.hid hb
  rw [hZ]
  clear hu hZ hb
  unfold refL
  go_wp2_with fail
  have hb := HB.out
  have hb2 : BlockAt (((((((((((((w1.setCell ⟨Z, 0, none⟩ (.int .i64 lo)).setCell ⟨Z, 1, none⟩ (.int .i64 hi)).setCell ⟨Z, 2, none⟩ (.int .i64 lo)).setCell ⟨Z, 3, none⟩ (.int .i64 0)).setCell ⟨Z, 4, none⟩ (.bool false)).setCell ⟨Z, 5, none⟩ (.int .i64 0)).setCell ⟨Z, 6, none⟩ (.int .i64 k)).setCell ⟨Z, 7, none⟩ (.slice none 0 0)).setCell ⟨Z, 8, none⟩ (.int .i64 0)).setCell ⟨Z, 9, none⟩ (.int .i64 0)).setCell ⟨Z, 10, none⟩ (.int .i64 0)).setCell ⟨Z, 11, none⟩ (.int .i64 0)).setCell ⟨Z, 12, none⟩ (.slice none 0 0)) Z 59 [.int .i64 lo, .int .i64 hi, .int .i64 lo, .int .i64 0, .bool false, .int .i64 0, .int .i64 k, .slice none 0 0, .int .i64 0, .int .i64 0, .int .i64 0, .int .i64 0, .slice none 0 0] := (((((((((((((hb.set 0 _).set 1 _).set 2 _).set 3 _).set 4 _).set 5 _).set 6 _).set 7 _).set 8 _).set 9 _).set 10 _).set 11 _).set 12 _)
  have hu2 : Upd [Z] w1 (((((((((((((w1.setCell ⟨Z, 0, none⟩ (.int .i64 lo)).setCell ⟨Z, 1, none⟩ (.int .i64 hi)).setCell ⟨Z, 2, none⟩ (.int .i64 lo)).setCell ⟨Z, 3, none⟩ (.int .i64 0)).setCell ⟨Z, 4, none⟩ (.bool false)).setCell ⟨Z, 5, none⟩ (.int .i64 0)).setCell ⟨Z, 6, none⟩ (.int .i64 k)).setCell ⟨Z, 7, none⟩ (.slice none 0 0)).setCell ⟨Z, 8, none⟩ (.int .i64 0)).setCell ⟨Z, 9, none⟩ (.int .i64 0)).setCell ⟨Z, 10, none⟩ (.int .i64 0)).setCell ⟨Z, 11, none⟩ (.int .i64 0)).setCell ⟨Z, 12, none⟩ (.slice none 0 0)) := (((((((((((((Upd.refl [Z] w1).trans (Upd.setCell' _ _ _ (by simp))).trans (Upd.setCell' _ _ _ (by simp))).trans (Upd.setCell' _ _ _ (by simp))).trans (Upd.setCell' _ _ _ (by simp))).trans (Upd.setCell' _ _ _ (by simp))).trans (Upd.setCell' _ _ _ (by simp))).trans (Upd.setCell' _ _ _ (by simp))).trans (Upd.setCell' _ _ _ (by simp))).trans (Upd.setCell' _ _ _ (by simp))).trans (Upd.setCell' _ _ _ (by simp))).trans (Upd.setCell' _ _ _ (by simp))).trans (Upd.setCell' _ _ _ (by simp))).trans (Upd.setCell' _ _ _ (by simp))
  obtain ⟨W2, hW2⟩ : ∃ W2, (((((((((((((w1.setCell ⟨Z, 0, none⟩ (.int .i64 lo)).setCell ⟨Z, 1, none⟩ (.int .i64 hi)).setCell ⟨Z, 2, none⟩ (.int .i64 lo)).setCell ⟨Z, 3, none⟩ (.int .i64 0)).setCell ⟨Z, 4, none⟩ (.bool false)).setCell ⟨Z, 5, none⟩ (.int .i64 0)).setCell ⟨Z, 6, none⟩ (.int .i64 k)).setCell ⟨Z, 7, none⟩ (.slice none 0 0)).setCell ⟨Z, 8, none⟩ (.int .i64 0)).setCell ⟨Z, 9, none⟩ (.int .i64 0)).setCell ⟨Z, 10, none⟩ (.int .i64 0)).setCell ⟨Z, 11, none⟩ (.int .i64 0)).setCell ⟨Z, 12, none⟩ (.slice none 0 0)) = W2 := ⟨_, rfl⟩
  rw [hW2] at hb2 hu2 ⊢
  have r0 := hb2.cell 0 _ rfl
  have r1 := hb2.cell 1 _ rfl
  have r2 := hb2.cell 2 _ rfl
  have r3 := hb2.cell 3 _ rfl
  have r4 := hb2.cell 4 _ rfl
  have r5 := hb2.cell 5 _ rfl
  have r6 := hb2.cell 6 _ rfl
  have r7 := hb2.cell 7 _ rfl
  have r8 := hb2.cell 8 _ rfl
  have r9 := hb2.cell 9 _ rfl
  have r10 := hb2.cell 10 _ rfl
  have r11 := hb2.cell 11 _ rfl
  have r12 := hb2.cell 12 _ rfl
  refine bodyPost_ret (v := refG lo hi k) (by simp [results, Try.results39, go_sem, r0, r1, r2, r3, r4, r5, r6, r7, r8, r9, r10, r11, r12, refG]) rfl ?_
  exact ⟨rfl, HU.out.trans' hu2 (fun i hi => by simp at hi; subst hi; exact .inr (by rw [HZ.out]; exact Nat.le_refl _))⟩
def MadePost (lo hi k : Int) (w : World) (e : Ending) (w' : World) : Prop := ∃ gb, e = .returned (.tuple #[.pointer (some ⟨gb, 0, none⟩), refG lo hi k]) ∧ GateAt w.heap.size w' gb (newGt lo hi k) [] ∧ QStep w.heap.size [] w w'
set_option maxHeartbeats 2000000 in
theorem made_any (n0 m0 : Int) (w : World) (hn1 : -9223372036854775808 ≤ n0) (hn2 : n0 ≤ 9223372036854775807) (hm1 : -9223372036854775808 ≤ m0) (hm2 : m0 ≤ 9223372036854775807) :
    Calls Try.prog 23 #[.int .i64 n0, .int .i64 m0] w (MadePost (lowOf n0) (highOf n0) (around m0 6) w) := by
  have CB := Lib.hid (fun w => between_any n0 w hn1 hn2)
  have CM := Lib.hid (fun w => around_any m0 6 w hm1 hm2 (by omega))
  obtain ⟨lo, hlo⟩ : ∃ k : Int, lowOf n0 = k := ⟨_, rfl⟩
  obtain ⟨hi, hhi⟩ : ∃ k : Int, highOf n0 = k := ⟨_, rfl⟩
  obtain ⟨k, hM⟩ : ∃ k : Int, around m0 6 = k := ⟨_, rfl⟩
  rw [hlo, hhi] at CB
  rw [hM] at CM
  rw [hlo, hhi, hM]
  clear hlo hhi hM hn1 hn2 hm1 hm2
  go_enter Try.func23, Try.ntmps23
  go_wp2_with fail
  refine (CB.out _).mono ?_
  rintro e w' ⟨rfl, rfl⟩
  go_wp2_with fail
  refine (CM.out _).mono ?_
  rintro e w' ⟨rfl, rfl⟩
  go_upto_region 3 with fail
  obtain ⟨W, hW⟩ : ∃ W, w.alloc (.cells #[.int .i64 0, .int .i64 0, .int .i64 0, .int .i64 0, .bool false, .int .i64 0, .int .i64 0, .slice none 0 0, .int .i64 0, .int .i64 0, .int .i64 0, .int .i64 0, .slice none 0 0] 59) = W := ⟨_, rfl⟩
  obtain ⟨Z, hZ⟩ : ∃ Z, w.heap.size = Z := ⟨_, rfl⟩
  have hb : BlockAt W Z 59 [.int .i64 0, .int .i64 0, .int .i64 0, .int .i64 0, .bool false, .int .i64 0, .int .i64 0, .slice none 0 0, .int .i64 0, .int .i64 0, .int .i64 0, .int .i64 0, .slice none 0 0] := by rw [← hZ, ← hW]; exact BlockAt.new w _ _
  have hu : Upd [] w W := by rw [← hW]; exact Upd.alloc [] _ _
  have hz : W.heap.size = Z + 1 := by rw [← hW, ← hZ]; simp
  have CN := Lib.hid (newGate_any lo hi k W.heap.size W (Nat.le_refl _))
  have HB := Lib.hid (And.intro hb (And.intro hu hz))
  have HZ := Lib.hid hZ
  rw [hW, hZ]
  clear hW hZ hb hu hz CB CM
  go_wp2_with fail
  refine CN.out.mono ?_
  rintro e w1 ⟨gb, rfl, hg, hst, hgb⟩
  have HG := Lib.hid (And.intro ((hg.old (z := Z) (by rw [HB.out.2.2]; omega)).lower (b' := Z) (by rw [HB.out.2.2]; omega)) hst)
  clear hg hst hgb CN
  go_wp2_with fail
  refine (refNew_any lo hi k _).mono ?_
  rintro e w2 ⟨rfl, hu2⟩
  have HU2 := Lib.hid hu2
  clear hu2
  have hb1 : BlockAt w1 Z 59 [.int .i64 0, .int .i64 0, .int .i64 0, .int .i64 0, .bool false, .int .i64 0, .int .i64 0, .slice none 0 0, .int .i64 0, .int .i64 0, .int .i64 0, .int .i64 0, .slice none 0 0] := by
    have := HG.out.2.below.block Z (by rw [HB.out.2.2]; omega)
    unfold BlockAt
    rw [this]
    exact HB.out.1
  have hb := hb1.keep HU2.out (by simp)
  have c0 := hb.cell 0 _ rfl
  have f0 := hb.free 0
  have c1 := hb.cell 1 _ rfl
  have f1 := hb.free 1
  have c2 := hb.cell 2 _ rfl
  have f2 := hb.free 2
  have c3 := hb.cell 3 _ rfl
  have f3 := hb.free 3
  have c4 := hb.cell 4 _ rfl
  have f4 := hb.free 4
  have c5 := hb.cell 5 _ rfl
  have f5 := hb.free 5
  have c6 := hb.cell 6 _ rfl
  have f6 := hb.free 6
  have c7 := hb.cell 7 _ rfl
  have f7 := hb.free 7
  have c8 := hb.cell 8 _ rfl
  have f8 := hb.free 8
  have c9 := hb.cell 9 _ rfl
  have f9 := hb.free 9
  have c10 := hb.cell 10 _ rfl
  have f10 := hb.free 10
  have c11 := hb.cell 11 _ rfl
  have f11 := hb.free 11
  have c12 := hb.cell 12 _ rfl
  have f12 := hb.free 12
  have HB2 := Lib.hid hb
  clear hb hb1
  unfold refG
  go_wp2_with fail
  have hb := HB2.out
  have hb2 : BlockAt (((((((((((((w2.setCell ⟨Z, 0, none⟩ (.int .i64 lo)).setCell ⟨Z, 1, none⟩ (.int .i64 hi)).setCell ⟨Z, 2, none⟩ (.int .i64 lo)).setCell ⟨Z, 3, none⟩ (.int .i64 0)).setCell ⟨Z, 4, none⟩ (.bool false)).setCell ⟨Z, 5, none⟩ (.int .i64 0)).setCell ⟨Z, 6, none⟩ (.int .i64 k)).setCell ⟨Z, 7, none⟩ (.slice none 0 0)).setCell ⟨Z, 8, none⟩ (.int .i64 0)).setCell ⟨Z, 9, none⟩ (.int .i64 0)).setCell ⟨Z, 10, none⟩ (.int .i64 0)).setCell ⟨Z, 11, none⟩ (.int .i64 0)).setCell ⟨Z, 12, none⟩ (.slice none 0 0)) Z 59 [.int .i64 lo, .int .i64 hi, .int .i64 lo, .int .i64 0, .bool false, .int .i64 0, .int .i64 k, .slice none 0 0, .int .i64 0, .int .i64 0, .int .i64 0, .int .i64 0, .slice none 0 0] := (((((((((((((hb.set 0 _).set 1 _).set 2 _).set 3 _).set 4 _).set 5 _).set 6 _).set 7 _).set 8 _).set 9 _).set 10 _).set 11 _).set 12 _)
  have hu2 : Upd [Z] w2 (((((((((((((w2.setCell ⟨Z, 0, none⟩ (.int .i64 lo)).setCell ⟨Z, 1, none⟩ (.int .i64 hi)).setCell ⟨Z, 2, none⟩ (.int .i64 lo)).setCell ⟨Z, 3, none⟩ (.int .i64 0)).setCell ⟨Z, 4, none⟩ (.bool false)).setCell ⟨Z, 5, none⟩ (.int .i64 0)).setCell ⟨Z, 6, none⟩ (.int .i64 k)).setCell ⟨Z, 7, none⟩ (.slice none 0 0)).setCell ⟨Z, 8, none⟩ (.int .i64 0)).setCell ⟨Z, 9, none⟩ (.int .i64 0)).setCell ⟨Z, 10, none⟩ (.int .i64 0)).setCell ⟨Z, 11, none⟩ (.int .i64 0)).setCell ⟨Z, 12, none⟩ (.slice none 0 0)) := (((((((((((((Upd.refl [Z] w2).trans (Upd.setCell' _ _ _ (by simp))).trans (Upd.setCell' _ _ _ (by simp))).trans (Upd.setCell' _ _ _ (by simp))).trans (Upd.setCell' _ _ _ (by simp))).trans (Upd.setCell' _ _ _ (by simp))).trans (Upd.setCell' _ _ _ (by simp))).trans (Upd.setCell' _ _ _ (by simp))).trans (Upd.setCell' _ _ _ (by simp))).trans (Upd.setCell' _ _ _ (by simp))).trans (Upd.setCell' _ _ _ (by simp))).trans (Upd.setCell' _ _ _ (by simp))).trans (Upd.setCell' _ _ _ (by simp))).trans (Upd.setCell' _ _ _ (by simp))
  obtain ⟨W2, hW2⟩ : ∃ W2, (((((((((((((w2.setCell ⟨Z, 0, none⟩ (.int .i64 lo)).setCell ⟨Z, 1, none⟩ (.int .i64 hi)).setCell ⟨Z, 2, none⟩ (.int .i64 lo)).setCell ⟨Z, 3, none⟩ (.int .i64 0)).setCell ⟨Z, 4, none⟩ (.bool false)).setCell ⟨Z, 5, none⟩ (.int .i64 0)).setCell ⟨Z, 6, none⟩ (.int .i64 k)).setCell ⟨Z, 7, none⟩ (.slice none 0 0)).setCell ⟨Z, 8, none⟩ (.int .i64 0)).setCell ⟨Z, 9, none⟩ (.int .i64 0)).setCell ⟨Z, 10, none⟩ (.int .i64 0)).setCell ⟨Z, 11, none⟩ (.int .i64 0)).setCell ⟨Z, 12, none⟩ (.slice none 0 0)) = W2 := ⟨_, rfl⟩
  rw [hW2] at hb2 hu2 ⊢
  have r0 := hb2.cell 0 _ rfl
  have r1 := hb2.cell 1 _ rfl
  have r2 := hb2.cell 2 _ rfl
  have r3 := hb2.cell 3 _ rfl
  have r4 := hb2.cell 4 _ rfl
  have r5 := hb2.cell 5 _ rfl
  have r6 := hb2.cell 6 _ rfl
  have r7 := hb2.cell 7 _ rfl
  have r8 := hb2.cell 8 _ rfl
  have r9 := hb2.cell 9 _ rfl
  have r10 := hb2.cell 10 _ rfl
  have r11 := hb2.cell 11 _ rfl
  have r12 := hb2.cell 12 _ rfl
  refine bodyPost_ret (v := .tuple #[.pointer (some ⟨gb, 0, none⟩), refG lo hi k]) (by simp [results, Try.results23, go_sem, r0, r1, r2, r3, r4, r5, r6, r7, r8, r9, r10, r11, r12, refG]) rfl ?_
  have hz := HZ.out
  have s1 : QStep Z [] w W := by
    refine QStep.upd HB.out.2.1 (by omega) (by simp) (by simp)
  have s2 : QStep Z [] W w1 := ⟨HG.out.2.below.mono (by rw [HB.out.2.2]; omega), HG.out.2.size, by simp⟩
  have hZ2 : Z ≤ w1.heap.size := by have := s2.size; have := HB.out.2.2; omega
  have s3 : QStep Z [] w1 w2 := QStep.upd HU2.out hZ2 (by simp) (by simp)
  have s4 : QStep Z [] w2 W2 := QStep.upd hu2 (by have := HU2.out.size; omega) (by simp) (by simp)
  refine ⟨gb, rfl, ?_, ?_⟩
  · rw [hz]
    exact (((HG.out.1.next HU2.out).writeZ hu2 (by simp)).sub (by simp))
  · rw [hz]
    exact ((s1.trans s2).trans s3).trans s4
end Go.Proofs.Ytklbnldkfohkpaa
