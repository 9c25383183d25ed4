/- Layer 22: the reference's Drop. -/
import Derived.Test.YtapoikegoknlcaaPlayB
namespace Go.Proofs.Ytapoikegoknlcaa
open Go.RowKit
/-- What Drop keeps in memory. -/
structure TD (w W : World) (Q R1 : Nat) (k : Int) (v : Value) (T : Nat → Int) : Prop where
  q : BlockAt W Q 47 (qC k v T)
  r1 : BlockAt W R1 47 (qC 0 (.slice none 0 0) (fun _ => 0))
  below : Below w.heap.size w W
  low : w.heap.size ≤ Q
  lt1 : Q < R1
theorem TD.next {w W W' : World} {Q R1 : Nat} {k : Int} {v : Value} {T : Nat → Int} (h : TD w W Q R1 k v T) (u : Upd [] W W') : TD w W' Q R1 k v T :=
  ⟨h.q.keep u (by simp), h.r1.keep u (by simp), h.below.trans (u.below h.below.size (by simp)), h.low, h.lt1⟩
def DropPostR (k : Int) (v : Value) (L : List It) (T : Nat → Int) (r : Nat → Row) (id : Int) (w : World) (e : Ending) (w' : World) : Prop :=
  ∃ (v' : Value) (L' : List It) (r' : Nat → Row) (is : Bool), e = .returned (.tuple #[qVal k v' T, .bool is]) ∧ DropIs r id r' is ∧ RQ w w' v v' L' T r' ∧ L'.Sublist L ∧ (L.length : Int) = (if is then (L'.length : Int) + 1 else L'.length) ∧ Below w.heap.size w w'
set_option maxRecDepth 100000 in
set_option maxHeartbeats 4000000 in
theorem refDrop_any (k : Int) (v : Value) (L : List It) (T : Nat → Int) (r : Nat → Row) (id : Int) (w : World) (hR : RowRd w v L) (hrel : Rel L T r) (hris : Rising L) (hl : (L.length : Int) ≤ 1000) :
    Calls Try.prog 22 #[qVal k v T, .int .i64 id] w (DropPostR k v L T r id w) := by
  have HREL := Lib.hid (And.intro hrel hris)
  have HR := Lib.hid hR
  obtain ⟨ao, cap, rfl⟩ := hR.val
  have CW := Lib.hid (fun (b : Nat) W (h : RowRd W (.slice ao L.length cap) L) (hb : b < L.length) => without_any (.slice ao L.length cap) L b W h hb hl)
  obtain ⟨n, hn⟩ : ∃ n, L.length = n := ⟨_, rfl⟩
  have HN := Lib.hid hn
  rw [hn] at HR hl CW ⊢
  unfold qVal
  have hz : Hid (∃ W Q R1, W = (w.alloc (.cells #[.int .i64 k, .slice ao n cap, .int .i64 (T 0), .int .i64 (T 1), .int .i64 (T 2), .int .i64 (T 3)] 47)).alloc (.cells #[.int .i64 0, .slice none 0 0, .int .i64 0, .int .i64 0, .int .i64 0, .int .i64 0] 47) ∧
      Q = w.heap.size ∧ R1 = w.heap.size + 1 ∧ Hid (TD w W Q R1 k (.slice ao n cap) T)) := Lib.hid ⟨_, _, _, rfl, rfl, rfl, Lib.hid ⟨(BlockAt.new w 47 (qC k (.slice ao n cap) T)).alloc _, by simpa [qC] using (BlockAt.new (w.alloc (.cells #[.int .i64 k, .slice ao n cap, .int .i64 (T 0), .int .i64 (T 1), .int .i64 (T 2), .int .i64 (T 3)] 47)) 47 [.int .i64 0, .slice none 0 0, .int .i64 0, .int .i64 0, .int .i64 0, .int .i64 0]), ((Below.refl _ _).alloc (Nat.le_refl _) _).alloc (by simp) _, Nat.le_refl _, by omega⟩⟩
  clear hrel hR hn hris
  go_enter Try.func22, Try.ntmps22
  go_wp2_with fail
  obtain ⟨W, Q, R1, hW, hQ, hR1, HB⟩ := hz.out
  rw [← hR1, ← hQ]
  rw [← hW]
  have HS0 : Hid (∀ (i : Nat) (x : It), i < 0 → L[i]? = some x → ¬ x.id = id) := Lib.hid (fun i x h => by omega)
  clear hz hW hQ hR1
  go_loop [6] (fun iv => ∃ j : Nat, j ≤ n ∧ iv = .int .i64 j ∧ Hid (∀ (i : Nat) (x : It), i < j → L[i]? = some x → ¬ x.id = id)) (fun i => n - (intOf i).toNat)
  case atStart => exact ⟨0, by omega, rfl, HS0⟩
  case round =>
    obtain ⟨j, hj, rfl, HS⟩ := hrel
    clear HS0
    have q1 := HB.out.q.cell 1 _ rfl
    by_cases hjn : j < n
    · obtain ⟨x, hx⟩ : ∃ x, L[j]? = some x := ⟨L[j]'(by rw [HN.out]; omega), by simp⟩
      have HX := Lib.hid hx
      obtain ⟨g, d, hv, x0, x1, x2⟩ := (HR.out.keep (Upd.ofBelow HB.out.below) (by simp)).get hx
      obtain rfl : ao = some ⟨g, 0, none⟩ := by cases hv; rfl
      have j0 : (0 : Int) ≤ j := by omega
      have j1 : (j : Int) < n := by omega
      have HJ := Lib.hid hjn
      by_cases hid : x.id = id
      · obtain ⟨r', hdrop, hrel⟩ := HREL.out.1.drop HREL.out.2 hx
        rw [hid] at hdrop
        have HDR := Lib.hid (And.intro hdrop hrel)
        have CC := Lib.hid (CW.out j W (HR.out.keep (Upd.ofBelow HB.out.below) (by simp)) hjn)
        obtain ⟨xi, xp, xf⟩ := x
        dsimp only at x0 hid
        subst hid
        clear hv hx hjn hj x1 x2 hdrop hrel CW
        go_wp2_with fail
        refine CC.out.mono ?_
        rintro e w3 ⟨v3, rfl, hown, hbel⟩
        have hu := Upd.ofBelow hbel
        have HB3 := Lib.hid (HB.out.next hu)
        have HOWN := Lib.hid hown
        have HSZ := Lib.hid (And.intro HB.out.below.size HB.out.r1.lt)
        obtain ⟨ao3, cap3, rfl⟩ := (RowRd.of hown).val
        obtain ⟨m, hm⟩ : ∃ m, (L.eraseIdx j).length = m := ⟨_, rfl⟩
        have HM := Lib.hid hm
        rw [hm] at HOWN
        rw [hm]
        have hq4 : BlockAt (w3.setCell ⟨Q, 1, none⟩ (.slice ao3 m cap3)) Q 47 (qC k (.slice ao3 m cap3) T) := HB3.out.q.set 1 (.slice ao3 m cap3)
        have hu4 : Upd [Q] w3 (w3.setCell ⟨Q, 1, none⟩ (.slice ao3 m cap3)) := Upd.setCell' _ _ _ (by simp)
        have hr4 := HB3.out.r1.keep hu4 (by have := HB3.out.lt1; simp; omega)
        have f1 : w3.frozen? ⟨Q, 1, none⟩ = false := HB3.out.q.free 1
        have y1 := HB3.out.q.cell 1 _ rfl
        have nQ : ¬ Q = R1 := by have := HB3.out.lt1; omega
        have nR : ¬ R1 = Q := by have := HB3.out.lt1; omega
        have a0 := hq4.cell 0 _ rfl
        have a1 := hq4.cell 1 _ rfl
        have a2 := hq4.cell 2 _ rfl
        have a3 := hq4.cell 3 _ rfl
        have a4 := hq4.cell 4 _ rfl
        have a5 := hq4.cell 5 _ rfl
        have r0 := hr4.cell 0 _ rfl
        have r1 := hr4.cell 1 _ rfl
        have r2 := hr4.cell 2 _ rfl
        have r3 := hr4.cell 3 _ rfl
        have r4 := hr4.cell 4 _ rfl
        have r5 := hr4.cell 5 _ rfl
        have g0 := hr4.free 0
        have g1 := hr4.free 1
        have g2 := hr4.free 2
        have g3 := hr4.free 3
        have g4 := hr4.free 4
        have g5 := hr4.free 5
        have HU4 := Lib.hid hu4
        have HR4 := Lib.hid hr4
        obtain ⟨W4, hW4⟩ : ∃ W, w3.setCell ⟨Q, 1, none⟩ (.slice ao3 m cap3) = W := ⟨_, rfl⟩
        have HW4 := Lib.hid hW4
        clear hbel hu hown CC q1 hm hq4 hu4 hr4 hW4
        go_upto_region 6 with fail
        rw [HW4.out] at a0 a1 a2 a3 a4 a5 r0 r1 r2 r3 r4 r5 g0 g1 g2 g3 g4 g5 HU4 HR4
        rw [HW4.out]
        clear HW4 f1 y1
        go_wp2_with fail
        have hb1 := set1_at HR4.out k (.slice ao3 m cap3) T
        have hu5 := set1_upd W4 R1 k (.slice ao3 m cap3) T
        obtain ⟨W5, hW5⟩ : ∃ W, set1 W4 R1 k (.slice ao3 m cap3) T = W := ⟨_, rfl⟩
        rw [hW5] at hb1 hu5
        unfold set1 at hW5
        rw [hW5]
        have t0 := hb1.cell 0 _ rfl
        have t1 := hb1.cell 1 _ rfl
        have t2 := hb1.cell 2 _ rfl
        have t3 := hb1.cell 3 _ rfl
        have t4 := hb1.cell 4 _ rfl
        have t5 := hb1.cell 5 _ rfl
        refine bodyPost_ret (v := .tuple #[.agg #[.int .i64 k, .slice ao3 m cap3, .int .i64 (T 0), .int .i64 (T 1), .int .i64 (T 2), .int .i64 (T 3)], .bool true]) (by simp [results, Try.results22, go_sem, t0, t1, t2, t3, t4, t5]) rfl ?_
        have l1 := HB3.out.low
        have l2 := HB3.out.lt1
        have l4 := HSZ.out
        have hu6 : Upd [Q, R1] w3 W5 := (HU4.out.mono (by simp)).trans (hu5.mono (by simp))
        have hown6 := hu6.owns HOWN.out (fun q hq hh => by
          have := (HOWN.out.lt q hq).1
          simp at hh; omega)
        have hlen : m + 1 = n := by
          have h3 := HJ.out
          rw [← HM.out, List.length_eraseIdx, HN.out, if_pos h3]; omega
        refine ⟨.slice ao3 m cap3, L.eraseIdx j, r', true, rfl, HDR.out.1, ⟨RowRd.of (by rw [HM.out]; exact hown6), HDR.out.2, fun q hq => .inr ?_, fun _ => own_nil hown6⟩, List.eraseIdx_sublist _ _, by rw [HM.out, HN.out, if_pos rfl]; omega, HB3.out.below.trans (hu6.below (by have := HB3.out.below.size; omega) (by simp; omega))⟩
        have h6 := hown6.lt q hq
        exact ⟨by omega, h6.2⟩
      · have hb : (x.id == id) = false := by simpa using hid
        have HS2 : Hid (∀ (i : Nat) (y : It), i < j + 1 → L[i]? = some y → ¬ y.id = id) := Lib.hid (fun i y hi hy => by
          rcases (show i < j ∨ i = j by omega) with h | rfl
          · exact HS.out i y h hy
          · rw [HX.out] at hy; cases hy; exact hid)
        obtain ⟨xi, xp, xf⟩ := x
        dsimp only at x0 hid hb
        clear hv hx hjn x1 x2
        go_wp2_with fail
        go_round
        case rel => exact ⟨j + 1, by have := HJ.out; omega, by go_num, HS2⟩
        case measure => simp [intOf] <;> have := HJ.out <;> omega
    · obtain rfl : j = n := by omega
      have hq := HB.out.q
      have hr := HB.out.r1
      have a0 := hq.cell 0 _ rfl
      have a2 := hq.cell 2 _ rfl
      have a3 := hq.cell 3 _ rfl
      have a4 := hq.cell 4 _ rfl
      have a5 := hq.cell 5 _ rfl
      have r0 := hr.cell 0 _ rfl
      have r1 := hr.cell 1 _ rfl
      have r2 := hr.cell 2 _ rfl
      have r3 := hr.cell 3 _ rfl
      have r4 := hr.cell 4 _ rfl
      have r5 := hr.cell 5 _ rfl
      have g0 := hr.free 0
      have g1 := hr.free 1
      have g2 := hr.free 2
      have g3 := hr.free 3
      have g4 := hr.free 4
      have g5 := hr.free 5
      have nR : ¬ R1 = Q := by have := HB.out.lt1; omega
      have nQ : ¬ Q = R1 := by have := HB.out.lt1; omega
      clear hq hr hjn hj CW
      go_wp2_with fail
      have hb1 := set1_at HB.out.r1 k (.slice ao j cap) T
      have hu5 := set1_upd W R1 k (.slice ao j cap) T
      obtain ⟨W5, hW5⟩ : ∃ W', set1 W R1 k (.slice ao j cap) T = W' := ⟨_, rfl⟩
      rw [hW5] at hb1 hu5
      unfold set1 at hW5
      rw [hW5]
      have t0 := hb1.cell 0 _ rfl
      have t1 := hb1.cell 1 _ rfl
      have t2 := hb1.cell 2 _ rfl
      have t3 := hb1.cell 3 _ rfl
      have t4 := hb1.cell 4 _ rfl
      have t5 := hb1.cell 5 _ rfl
      refine bodyPost_ret (v := .tuple #[.agg #[.int .i64 k, .slice ao j cap, .int .i64 (T 0), .int .i64 (T 1), .int .i64 (T 2), .int .i64 (T 3)], .bool false]) (by simp [results, Try.results22, go_sem, t0, t1, t2, t3, t4, t5]) rfl ?_
      have l1 := HB.out.low
      have l2 := HB.out.lt1
      have hb5 : Below w.heap.size w W5 := HB.out.below.trans (hu5.below HB.out.below.size (by simp; omega))
      exact ⟨.slice ao j cap, L, r, false, rfl, HREL.out.1.dropNot (fun i y hy => HS.out i y (by rw [← HN.out]; exact (List.getElem?_eq_some_iff.1 hy).1) hy), ⟨HR.out.keep (Upd.ofBelow hb5) (by simp), HREL.out.1, fun q hq => .inl hq, fun h => h⟩, List.Sublist.refl _, by simp [HN.out], hb5⟩
end Go.Proofs.Ytapoikegoknlcaa
