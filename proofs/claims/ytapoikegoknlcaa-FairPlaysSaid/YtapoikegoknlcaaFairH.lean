/- Layer 22: the example. -/
import Derived.Test.YtapoikegoknlcaaFairG
namespace Go.Proofs.Ytapoikegoknlcaa
open Go.RowKit
def TruePost (w : World) (e : Ending) (w' : World) : Prop := e = .returned (.bool true) ∧ Below w.heap.size w w'
/-- A queue of one priority, and nothing written below. -/
structure QOne (w W : World) (b : Nat) (most n : Int) (v : Nat → Value) (P : Nat) (l : List It) (tk : Bool) (last : Int) : Prop where
  q : QAt W w.heap.size b most n v (oneRow P l tk last)
  below : Below w.heap.size w W
theorem QOne.next {w W W' : World} {b : Nat} {most n : Int} {v : Nat → Value} {P : Nat} {l : List It} {tk : Bool} {last : Int} (h : QOne w W b most n v P l tk last) (u : Upd [] W W') : QOne w W' b most n v P l tk last :=
  ⟨h.q.next u, h.below.trans (u.below h.below.size (by simp))⟩
theorem QOne.step {w W W' : World} {b : Nat} {most n m : Int} {v v' : Nat → Value} {P : Nat} {l l' : List It} {tk tk' : Bool} {last last' : Int} (h : QOne w W b most n v P l tk last) (hq : QAt W' w.heap.size b most m v' (oneRow P l' tk' last')) (u : QUpd b v W W') : QOne w W' b most m v' P l' tk' last' :=
  ⟨hq, h.below.trans (u.below h.below.size h.q.lo (fun q k hq hk => ((h.q.own q hq).lt k hk).1))⟩
/-- A new block is none of the queue's. -/
theorem QOne.apart {w W : World} {b : Nat} {most n : Int} {v : Nat → Value} {P : Nat} {l : List It} {tk : Bool} {last : Int} (h : QOne w W b most n v P l tk last) {s : Nat} (hs : W.heap.size ≤ s) : ¬ QMay b v s := by
  rintro (rfl | ⟨q, hq, hk⟩)
  · have := h.q.blk.lt; omega
  · have := ((h.q.own q hq).lt s hk).2; omega
theorem exA {i : Nat} {f : Int} {x : It} (h : NextOk [⟨10, 0, 1⟩, ⟨11, 0, 1⟩, ⟨20, 0, 2⟩] false 0 f) (hx : ([⟨10, 0, 1⟩, ⟨11, 0, 1⟩, ⟨20, 0, 2⟩] : List It)[i]? = some x) (hf : x.flow = f) (hk : ∀ (k : Nat) (y : It), k < i → ([⟨10, 0, 1⟩, ⟨11, 0, 1⟩, ⟨20, 0, 2⟩] : List It)[k]? = some y → ¬ y.flow = f) : i = 0 ∧ x = ⟨10, 0, 1⟩ ∧ f = 1 := by
  have hf1 : f = 1 := by
    rcases h.above with ⟨a, -⟩ | ⟨-, a⟩
    · cases a
    · have a0 := a 0 _ rfl
      obtain ⟨k, y, hy, hyf⟩ := h.is
      match k, hy with
      | 0, hy => cases hy; exact hyf.symm
      | 1, hy => cases hy; exact hyf.symm
      | 2, hy => cases hy; dsimp only at a0 hyf; omega
      | k + 3, hy => simp at hy
  subst hf1
  match i, hx with
  | 0, hx => cases hx; exact ⟨rfl, rfl, rfl⟩
  | 1, hx => exact absurd rfl (hk 0 _ (by omega) rfl)
  | 2, hx => cases hx; cases hf
  | i + 3, hx => simp at hx
theorem exB {i : Nat} {f : Int} {x : It} (h : NextOk [⟨11, 0, 1⟩, ⟨20, 0, 2⟩] true 1 f) (hx : ([⟨11, 0, 1⟩, ⟨20, 0, 2⟩] : List It)[i]? = some x) (hf : x.flow = f) : i = 1 ∧ x = ⟨20, 0, 2⟩ ∧ f = 2 := by
  have hf1 : f = 2 := by
    rcases h.above with ⟨-, a, b⟩ | ⟨a, -⟩
    · have := b 1 _ rfl (by decide)
      dsimp only at this; omega
    · exact absurd ⟨rfl, by decide⟩ (a 1 _ rfl)
  subst hf1
  match i, hx with
  | 0, hx => cases hx; cases hf
  | 1, hx => cases hx; exact ⟨rfl, rfl, rfl⟩
  | i + 2, hx => simp at hx
theorem exC {i : Nat} {x : It} (hx : ([⟨11, 0, 1⟩] : List It)[i]? = some x) : i = 0 ∧ x = ⟨11, 0, 1⟩ := by
  match i, hx with
  | 0, hx => cases hx; exact ⟨rfl, rfl⟩
  | i + 1, hx => simp at hx
set_option maxHeartbeats 2000000 in
theorem lives_any (w : World) : Calls Try.prog 15 #[] w (TruePost w) := by
  have HN := Lib.hid (newQ_at 5 w.heap.size w (Nat.le_refl _))
  go_enter Try.func15, Try.ntmps15
  go_wp2_with fail
  refine HN.out.mono ?_
  rintro e w1 ⟨rfl, hq, hb⟩
  rw [oneRow_nil 0] at hq
  have HQ1 := Lib.hid (show QOne w w1 w.heap.size 5 0 _ 0 [] false 0 from ⟨hq, hb⟩)
  obtain ⟨b, hbe⟩ : ∃ b, w.heap.size = b := ⟨_, rfl⟩
  have HBE := Lib.hid hbe
  have HQ1' : Hid (QOne w w1 b 5 0 (fun _ => .slice none 0 0) 0 [] false 0) := Lib.hid (by rw [← hbe]; exact HQ1.out)
  rw [hbe]
  clear hq hb hbe HQ1 HN
  have C1 := Lib.hid (put_one w.heap.size b 5 0 _ 0 [] false 0 ⟨10, 0, 1⟩ w1 HQ1'.out.q (by omega) rfl (by omega) (by omega) (by omega) (by simp) HQ1'.out.below.size)
  unfold It.val at C1
  dsimp only at C1
  go_wp2_with fail
  refine C1.out.mono ?_
  rintro e w2 ⟨rfl, ⟨v2, hq, ho⟩, hu⟩
  have HQ2 := Lib.hid (HQ1'.out.step hq hu)
  clear hq ho hu C1
  have C2 := Lib.hid (put_one w.heap.size b 5 1 _ 0 _ false 0 ⟨11, 0, 1⟩ w2 HQ2.out.q (by omega) rfl (by omega) (by omega) (by omega) (by simp) HQ2.out.below.size)
  unfold It.val at C2
  dsimp only at C2
  go_wp2_with fail
  refine C2.out.mono ?_
  rintro e w3 ⟨rfl, ⟨v3, hq, ho⟩, hu⟩
  have HQ3 := Lib.hid (HQ2.out.step hq hu)
  clear hq ho hu C2
  have C3 := Lib.hid (put_one w.heap.size b 5 2 _ 0 _ false 0 ⟨20, 0, 2⟩ w3 HQ3.out.q (by omega) rfl (by omega) (by omega) (by omega) (by simp) HQ3.out.below.size)
  unfold It.val at C3
  dsimp only at C3
  go_wp2_with fail
  refine C3.out.mono ?_
  rintro e w4 ⟨rfl, ⟨v4, hq, ho⟩, hu⟩
  have HQ4 := Lib.hid (HQ3.out.step hq hu)
  clear hq ho hu C3
  have T1 := Lib.hid (take_oneRow w.heap.size b 5 3 v4 0 _ false 0 w4 HQ4.out.q (by omega) (by simp) (by omega) (by omega) (by simp) HQ4.out.below.size)
  go_wp2_with fail
  refine T1.out.mono ?_
  rintro e w5 ⟨i, f, x, v5, hn, hx, hf, hk, rfl, hq, ho, hu⟩
  obtain ⟨rfl, rfl, rfl⟩ := exA hn hx hf hk
  have HQ5 := Lib.hid (HQ4.out.step hq hu)
  have HQ5a : Hid (QOne w (w5.alloc (.cells #[.int .i64 10, .int .i64 0, .int .i64 1] 27)) b 5 2 v5 0 [⟨11, 0, 1⟩, ⟨20, 0, 2⟩] true 1) := Lib.hid (HQ5.out.next (Upd.alloc _ _ _))
  have HS1 : Hid (BlockAt (w5.alloc (.cells #[.int .i64 10, .int .i64 0, .int .i64 1] 27)) w5.heap.size 27 [.int .i64 10, .int .i64 0, .int .i64 1]) := Lib.hid (BlockAt.new w5 _ _)
  have HM1 := Lib.hid (HQ5.out.apart (Nat.le_refl _))
  unfold It.val
  dsimp only
  clear hn hx hf hk hq ho hu T1
  go_wp2_with fail
  obtain ⟨W5, hW⟩ : ∃ W, w5.alloc (.cells #[.int .i64 10, .int .i64 0, .int .i64 1] 27) = W := ⟨_, rfl⟩
  obtain ⟨s1, hs1⟩ : ∃ s, w5.heap.size = s := ⟨_, rfl⟩
  rw [hW, hs1] at HS1
  rw [hW] at HQ5a
  rw [hs1] at HM1
  rw [hW, hs1]
  clear hW hs1
  have T2 := Lib.hid (take_oneRow w.heap.size b 5 2 v5 0 _ true 1 W5 HQ5a.out.q (by omega) (by simp) (by omega) (by omega) (by simp) HQ5a.out.below.size)
  refine T2.out.mono ?_
  rintro e w6 ⟨i, f, x, v6, hn, hx, hf, hk, rfl, hq, ho, hu⟩
  obtain ⟨rfl, rfl, rfl⟩ := exB hn hx hf
  have HQ6 := Lib.hid (HQ5a.out.step hq hu)
  have HS16 := Lib.hid (hu.block HS1.out HM1.out)
  have HM16 := Lib.hid (ho.may HS1.out.lt HM1.out)
  have HQ6a : Hid (QOne w (w6.alloc (.cells #[.int .i64 20, .int .i64 0, .int .i64 2] 27)) b 5 1 v6 0 [⟨11, 0, 1⟩] true 2) := Lib.hid (HQ6.out.next (Upd.alloc _ _ _))
  have HS17 : Hid (BlockAt (w6.alloc (.cells #[.int .i64 20, .int .i64 0, .int .i64 2] 27)) s1 27 [.int .i64 10, .int .i64 0, .int .i64 1]) := Lib.hid (HS16.out.alloc _)
  have HS2 : Hid (BlockAt (w6.alloc (.cells #[.int .i64 20, .int .i64 0, .int .i64 2] 27)) w6.heap.size 27 [.int .i64 20, .int .i64 0, .int .i64 2]) := Lib.hid (BlockAt.new w6 _ _)
  have HM2 := Lib.hid (HQ6.out.apart (Nat.le_refl _))
  unfold It.val
  dsimp only
  clear hn hx hf hk hq ho hu T2
  go_wp2_with fail
  obtain ⟨W6, hW⟩ : ∃ W, w6.alloc (.cells #[.int .i64 20, .int .i64 0, .int .i64 2] 27) = W := ⟨_, rfl⟩
  obtain ⟨s2, hs2⟩ : ∃ s, w6.heap.size = s := ⟨_, rfl⟩
  rw [hW, hs2] at HS2
  rw [hW] at HQ6a HS17
  rw [hs2] at HM2
  rw [hW, hs2]
  clear hW hs2
  have T3 := Lib.hid (take_oneRow w.heap.size b 5 1 v6 0 _ true 2 W6 HQ6a.out.q (by omega) (by simp) (by omega) (by omega) (by simp) HQ6a.out.below.size)
  refine T3.out.mono ?_
  rintro e w7 ⟨i, f, x, v7, hn, hx, hf, hk, rfl, hq, ho, hu⟩
  obtain ⟨rfl, rfl⟩ := exC hx
  have HQ7 := Lib.hid (HQ6a.out.step hq hu)
  have HS1b := Lib.hid (hu.block HS17.out HM16.out)
  have HS2b := Lib.hid (hu.block HS2.out HM2.out)
  unfold It.val
  dsimp only
  have a1 := (HS1b.out.alloc (.cells #[.int .i64 11, .int .i64 0, .int .i64 1] 27)).cell 0 _ rfl
  have a2 := (HS2b.out.alloc (.cells #[.int .i64 11, .int .i64 0, .int .i64 1] 27)).cell 0 _ rfl
  have HQ7a : Hid (QOne w (w7.alloc (.cells #[.int .i64 11, .int .i64 0, .int .i64 1] 27)) b 5 0 v7 0 [] true f) := Lib.hid (HQ7.out.next (Upd.alloc _ _ _))
  have CL := Lib.hid (len_any _ b 5 0 v7 _ _ HQ7a.out.q)
  clear hn hx hf hk hq ho hu T3
  go_wp2_with fail
  refine CL.out.mono ?_
  rintro e w8 ⟨rfl, rfl⟩
  go_wp2
  go_ret
  exact ⟨rfl, HQ7a.out.below⟩
end Go.Proofs.Ytapoikegoknlcaa
