/- Layer 11: the document's example; what the laws carry. -/
import Derived.Test.YthblblkifkndiaaZoneRefs
namespace Go.Proofs.Ythblblkifkndiaa
open Go.RowKit
/-- The endpoints and those that are well, in memory. -/
structure ZW (wh wx : World) (ev : Value) (es : List En) (wv : Value) (ws : List Int) : Prop where
  e : EIn wx ev es
  v : WIn wx wv ws
  bel : Below wh.heap.size wh wx
theorem ZW.next {w wx wy : World} {ev wv : Value} {es : List En} {ws : List Int} (h : ZW w wx ev es wv ws) (hb : Below wx.heap.size wx wy) : ZW w wy ev es wv ws := ⟨h.e.next hb, h.v.next hb, h.bel.trans (hb.mono h.bel.size)⟩
theorem ZW.upd {w wx wy : World} {ev wv : Value} {es : List En} {ws : List Int} (h : ZW w wx ev es wv ws) (u : Upd [] wx wy) : ZW w wy ev es wv ws := h.next (u.below (Nat.le_refl _) (by simp))
theorem ZW.home {w wx : World} {ev wv : Value} {es : List En} {ws : List Int} (h : ZW w wx ev es wv ws) (z : Int) :
    Calls Try.prog 12 #[ev, wv, .int .i64 z] wx fun e wy => e = .returned (.int .i64 (homeOf es ws z)) ∧ ZW w wy ev es wv ws ∧ Below wx.heap.size wx wy :=
  (home_any ev wv es ws z wx h.e.m h.v.m (by have := h.v.len; omega)).mono (fun _ _ k => ⟨k.1, h.next k.2, k.2⟩)
theorem ZW.panic {w wx : World} {ev wv : Value} {es : List En} {ws : List Int} (h : ZW w wx ev es wv ws) (p : Int) (p0 : 0 ≤ p) (p1 : p ≤ 1000) :
    Calls Try.prog 17 #[ev, wv, .int .i64 p] wx fun e wy => e = .returned (.bool (panicOf es ws p)) ∧ ZW w wy ev es wv ws ∧ Below wx.heap.size wx wy :=
  (panic_any ev wv es ws p wx h.e.m h.v.m (by have := h.v.len; omega) p0 p1).mono (fun _ _ k => ⟨k.1, h.next k.2, k.2⟩)
theorem ZW.among {w wx : World} {ev wv : Value} {es : List En} {ws : List Int} (h : ZW w wx ev es wv ws) (z p d : Int) (p0 : 0 ≤ p) (p1 : p ≤ 1000) :
    Calls Try.prog 15 #[ev, wv, .int .i64 z, .int .i64 p, .int .i64 d] wx fun e wy => ∃ v s, e = .returned v ∧ IsIds es (fitOf es ws z p d) s ∧ OwnInts wx.heap.size wy v s ∧ ZW w wy ev es wv ws ∧ Below wx.heap.size wx wy :=
  (amongs_any ev wv es ws z p d wx h.e.m h.v.m (by have := h.v.len; omega) p0 p1).mono (fun _ _ ⟨v, s, k1, k2, k3, k4⟩ => ⟨v, s, k1, k2, k3, h.next k4, k4⟩)
theorem ZW.rhome {w wx : World} {ev wv : Value} {es : List En} {ws : List Int} (h : ZW w wx ev es wv ws) (z : Int) :
    Calls Try.prog 13 #[ev, wv, .int .i64 z] wx fun e wy => e = .returned (.int .i64 (homeOf es ws z)) ∧ ZW w wy ev es wv ws ∧ Below wx.heap.size wx wy :=
  (refHome_any ev wv es ws z wx h.e h.v).mono (fun _ _ k => ⟨k.1, h.next k.2, k.2⟩)
theorem ZW.rpanic {w wx : World} {ev wv : Value} {es : List En} {ws : List Int} (h : ZW w wx ev es wv ws) (p : Int) (p0 : 0 ≤ p) (p1 : p ≤ 1000) :
    Calls Try.prog 18 #[ev, wv, .int .i64 p] wx fun e wy => e = .returned (.bool (panicOf es ws p)) ∧ ZW w wy ev es wv ws ∧ Below wx.heap.size wx wy :=
  (refPanic_any ev wv es ws p wx h.e h.v p0 p1).mono (fun _ _ k => ⟨k.1, h.next k.2, k.2⟩)
theorem ZW.ramong {w wx : World} {ev wv : Value} {es : List En} {ws : List Int} (h : ZW w wx ev es wv ws) (z p d : Int) (p0 : 0 ≤ p) (p1 : p ≤ 1000) :
    Calls Try.prog 16 #[ev, wv, .int .i64 z, .int .i64 p, .int .i64 d] wx fun e wy => ∃ v s, e = .returned v ∧ IsIds es (fitOf es ws z p d) s ∧ OwnInts wx.heap.size wy v s ∧ ZW w wy ev es wv ws ∧ Below wx.heap.size wx wy :=
  (refAmong_any ev wv es ws z p d wx h.e h.v p0 p1).mono (fun _ _ ⟨v, s, k1, k2, k3, k4⟩ => ⟨v, s, k1, k2, k3, h.next k4, k4⟩)
theorem EIn.idsI {w : World} {ev : Value} {es : List En} (h : EIn w ev es) {f : En → Bool} {s : List Int} (hs : IsIds es f s) : I64s s ∧ (s.length : Int) ≤ 100 := by
  refine ⟨fun z hz => ?_, ?_⟩
  · obtain ⟨e, he, -, rfl⟩ := (ids_mem hs z).1 hz
    have := h.ids e he
    omega
  · have h1 := ids_len hs
    have h2 := List.countP_le_length (p := f) (l := es)
    have := h.len
    omega
def exEs : List En := [⟨1, 0, 1⟩, ⟨2, 0, 1⟩, ⟨3, 0, 2⟩]
theorem ex_home : homeOf exEs [1, 3] 1 = 50 := by decide
theorem ex_panic : panicOf exEs [] 1 = true := by decide
theorem ex_among (d : Int) (s : List Int) (h : (exEs.filter (fitOf exEs [1, 3] 1 0 d)).map En.id = s) (hs : s.Pairwise (· ≤ ·)) {t : List Int} (ht : IsIds exEs (fitOf exEs [1, 3] 1 0 d) t) : t = s :=
  ids_unique ht ⟨by rw [h], hs⟩
theorem same_one {b : Nat} {v : Value} (x : Int) {w : World} (h : OwnInts b w v [x]) (hx : I64s [x]) :
    Calls Try.prog 14 #[v, .slice (some ⟨w.heap.size, 0, none⟩) 1 1] (w.alloc (.cells #[.int .i64 x] 3)) fun e w' => e = .returned (.bool true) ∧ Upd [] (w.alloc (.cells #[.int .i64 x] 3)) w' := by
  refine sameInts_any _ _ [x] _ ((h.isIn hx).keep (Upd.alloc [] w _) (by simp)) ⟨_, 1, rfl, by simp, hx, .inr ⟨_, 0, rfl, fun j hj => ?_⟩⟩ (by simp)
  obtain rfl : j = 0 := by simpa using hj
  exact (BlockAt.new w 3 [.int .i64 x]).cell 0 _ rfl
set_option maxRecDepth 100000 in
set_option maxHeartbeats 2000000 in
theorem lives_any (w : World) : Calls Try.prog 19 #[] w (TruePost w) := by
  have hE : EnsIn (w.alloc (.cells #[.int .i64 1, .int .i64 0, .int .i64 1, .int .i64 2, .int .i64 0, .int .i64 1, .int .i64 3, .int .i64 0, .int .i64 2] 35)) (.slice (some ⟨w.heap.size, 0, none⟩) 3 3) exEs := by
    have hb := BlockAt.new w 35 (cellsE exEs)
    refine ⟨_, 3, rfl, by decide, .inr ⟨w.heap.size, 0, rfl, by simp, fun j e he c u hu => ?_⟩⟩
    rw [Nat.zero_add]
    exact hb.cell _ _ (cellsE_get exEs j e he c u hu)
  have u2 := Upd.alloc [] (w.alloc (.cells #[.int .i64 1, .int .i64 0, .int .i64 1, .int .i64 2, .int .i64 0, .int .i64 1, .int .i64 3, .int .i64 0, .int .i64 2] 35)) (.cells #[.int .i64 1, .int .i64 3] 3)
  have hb2 := BlockAt.new (w.alloc (.cells #[.int .i64 1, .int .i64 0, .int .i64 1, .int .i64 2, .int .i64 0, .int .i64 1, .int .i64 3, .int .i64 0, .int .i64 2] 35)) 3 [.int .i64 1, .int .i64 3]
  have hz : ZW w ((w.alloc (.cells #[.int .i64 1, .int .i64 0, .int .i64 1, .int .i64 2, .int .i64 0, .int .i64 1, .int .i64 3, .int .i64 0, .int .i64 2] 35)).alloc (.cells #[.int .i64 1, .int .i64 3] 3)) (.slice (some ⟨w.heap.size, 0, none⟩) 3 3) exEs (.slice (some ⟨w.heap.size + 1, 0, none⟩) 2 2) [1, 3] := by
    refine ⟨⟨hE.keep u2 (by simp), by decide, by decide, by decide⟩, ⟨⟨_, 2, rfl, by decide, by decide, .inr ⟨_, 0, rfl, fun j hj => ?_⟩⟩, by decide⟩, ((Upd.alloc [] w _).trans u2).below (Nat.le_refl _) (by simp)⟩
    have hsz : (w.alloc (.cells #[.int .i64 1, .int .i64 0, .int .i64 1, .int .i64 2, .int .i64 0, .int .i64 1, .int .i64 3, .int .i64 0, .int .i64 2] 35)).heap.size = w.heap.size + 1 := by simp
    rw [hsz] at hb2
    simp only [List.length_cons, List.length_nil] at hj
    rcases (show j = 0 ∨ j = 1 by omega) with rfl | rfl
    · exact hb2.cell 0 _ rfl
    · exact hb2.cell 1 _ rfl
  have HZ := Lib.hid hz
  clear hE u2 hb2 hz
  go_enter Try.func19, Try.ntmps19
  go_upto_region 3 with fail
  obtain ⟨W, hW⟩ : ∃ W, (w.alloc (.cells #[.int .i64 1, .int .i64 0, .int .i64 1, .int .i64 2, .int .i64 0, .int .i64 1, .int .i64 3, .int .i64 0, .int .i64 2] 35)).alloc (.cells #[.int .i64 1, .int .i64 3] 3) = W := ⟨_, rfl⟩
  rw [hW] at HZ
  rw [hW]
  clear hW
  obtain ⟨A, hA⟩ : ∃ A, w.heap.size = A := ⟨_, rfl⟩
  rw [hA] at HZ
  rw [hA]
  clear hA
  have C1 := Lib.hid (HZ.out.home 1)
  rw [ex_home] at C1
  go_wp2_with fail
  refine C1.out.mono ?_
  rintro e w1 ⟨rfl, hz1, hb1⟩
  have HZ1 := Lib.hid hz1
  have C2 := Lib.hid (hz1.among 1 0 49 (by omega) (by omega))
  clear hz1 hb1 C1 HZ
  go_wp2_with fail
  refine C2.out.mono ?_
  rintro e w2 ⟨v2, s2, rfl, hs2, ho2, hz2, hb2⟩
  obtain rfl := ex_among 49 [1] (by decide) (by simp) hs2
  have hx1 : I64s [1] := by intro z hz; simp at hz; omega
  have C3 := Lib.hid (same_one 1 ho2 hx1)
  have HZ2 := Lib.hid (hz2.upd (Upd.alloc [] w2 (.cells #[.int .i64 1] 3)))
  obtain ⟨x1, y1, rfl⟩ := own_len ho2
  clear hs2 ho2 hz2 hb2 C2 HZ1
  go_wp2_with fail
  refine C3.out.mono ?_
  rintro e w3 ⟨rfl, hu3⟩
  have HZ3 := Lib.hid (HZ2.out.upd hu3)
  have C4 := Lib.hid (HZ3.out.among 1 0 50 (by omega) (by omega))
  clear hu3 C3 HZ2
  go_wp2_with fail
  refine C4.out.mono ?_
  rintro e w4 ⟨v4, s4, rfl, hs4, ho4, hz4, hb4⟩
  obtain rfl := ex_among 50 [3] (by decide) (by simp) hs4
  have hx3 : I64s [3] := by intro z hz; simp at hz; omega
  have C5 := Lib.hid (same_one 3 ho4 hx3)
  have HZ4 := Lib.hid (hz4.upd (Upd.alloc [] w4 (.cells #[.int .i64 3] 3)))
  obtain ⟨x2, y2, rfl⟩ := own_len ho4
  clear hs4 ho4 hz4 hb4 C4 HZ3
  go_wp2_with fail
  refine C5.out.mono ?_
  rintro e w5 ⟨rfl, hu5⟩
  have HZ5 := Lib.hid (HZ4.out.upd hu5)
  have C6 := Lib.hid ((show ZW w w5 (.slice (some ⟨A, 0, none⟩) 3 3) exEs (.slice none 0 0) [] from ⟨HZ5.out.e, ⟨intsIn_nil _ _ _, by simp⟩, HZ5.out.bel⟩).panic 1 (by omega) (by omega))
  rw [ex_panic] at C6
  clear hu5 C5 HZ4
  go_wp2_with fail
  refine C6.out.mono ?_
  rintro e w6 ⟨rfl, hz6, hb6⟩
  have HF : Hid (TruePost w (.returned (.bool true)) w6) := Lib.hid ⟨rfl, hz6.bel⟩
  clear hz6 hb6 C6 HZ5
  go_wp2_with fail
  go_ret
  exact HF.out
end Go.Proofs.Ythblblkifkndiaa
