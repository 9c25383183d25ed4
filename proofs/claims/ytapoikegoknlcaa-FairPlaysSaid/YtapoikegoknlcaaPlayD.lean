/- Layer 22: the reference's Put. -/
import Derived.Test.YtapoikegoknlcaaPlayC
namespace Go.Proofs.Ytapoikegoknlcaa
open Go.RowKit
/-- What Put keeps in memory. -/
structure TP (w W : World) (Q X R1 R2 : Nat) (k : Int) (v : Value) (T : Nat → Int) (x : It) : Prop where
  q : BlockAt W Q 47 (qC k v T)
  x : BlockAt W X 27 [.int .i64 x.id, .int .i64 x.prio, .int .i64 x.flow]
  r1 : BlockAt W R1 47 (qC 0 (.slice none 0 0) (fun _ => 0))
  r2 : BlockAt W R2 27 [.int .i64 0, .int .i64 0, .int .i64 0]
  below : Below w.heap.size w W
  low : w.heap.size ≤ Q
  lt1 : Q < X
  lt2 : X < R1
  lt3 : R1 < R2
theorem TP.step {w W W' : World} {Q X R1 R2 : Nat} {k : Int} {v : Value} {T : Nat → Int} {x : It} {S : List Nat} (h : TP w W Q X R1 R2 k v T x) (u : Upd S W W') (hS : ∀ s ∈ S, R2 < s) : TP w W' Q X R1 R2 k v T x := by
  have := h.low
  have := h.lt1
  have := h.lt2
  have := h.lt3
  exact ⟨h.q.keep u (fun hh => by have := hS _ hh; omega), h.x.keep u (fun hh => by have := hS _ hh; omega), h.r1.keep u (fun hh => by have := hS _ hh; omega), h.r2.keep u (fun hh => by have := hS _ hh; omega),
    h.below.trans (u.below h.below.size (fun s hs => by have := hS s hs; omega)), h.low, h.lt1, h.lt2, h.lt3⟩
theorem TP.next {w W W' : World} {Q X R1 R2 : Nat} {k : Int} {v : Value} {T : Nat → Int} {x : It} (h : TP w W Q X R1 R2 k v T x) (u : Upd [] W W') : TP w W' Q X R1 R2 k v T x := h.step u (by simp)
def PutPostR (n : Nat) (k : Int) (v : Value) (L : List It) (T : Nat → Int) (r : Nat → Row) (p : Nat) (x : It) (w : World) (e : Ending) (w' : World) : Prop :=
  ∃ (v' : Value) (L' : List It) (r' : Nat → Row) (y : It) (is : Bool), e = .returned (.tuple #[qVal k v' T, y.val, .bool is]) ∧ PutIs k n r p x r' L'.length y is ∧ RQ w w' v v' L' T r' ∧ L'.Sublist (L ++ [x]) ∧ Below w.heap.size w w'
theorem rowIn_all {w : World} {ao : Option Addr} {cap : Nat} {L : List It} (h : RowRd w (.slice ao L.length cap) L) (hz : ao = none → cap = 0) : RowIn w 3 ao L.length cap (cellsI L) := by
  obtain ⟨ao', cap', hv, h⟩ := h
  cases hv
  rcases h with rfl | ⟨g, rfl, hi, -⟩
  · exact RowIn.empty _ _ _ _ hz
  · have := rowIn_take (cap := cap) hi (Nat.le_refl _)
    rwa [List.take_length] at this
set_option maxRecDepth 100000 in
set_option maxHeartbeats 4000000 in
theorem refPut_any (k : Int) (v : Value) (L : List It) (T : Nat → Int) (r : Nat → Row) (p : Nat) (x : It) (w : World) (hR : RowRd w v L) (hnil : ∀ n cap, v = .slice none n cap → cap = 0) (hrel : Rel L T r) (hp : p < 4) (hx : x.prio = (p : Int)) (hf : 0 ≤ x.flow ∧ x.flow < 5) (hl : (L.length : Int) ≤ 900) :
    Calls Try.prog 24 #[qVal k v T, x.val] w (PutPostR L.length k v L T r p x w) := by
  have HREL := Lib.hid (hrel.add hp hx hf)
  have HR := Lib.hid hR
  obtain ⟨ao, cap, rfl⟩ := hR.val
  have HRI := Lib.hid (rowIn_all hR (fun h => hnil _ _ (by rw [h])))
  obtain ⟨n, hn⟩ : ∃ n, L.length = n := ⟨_, rfl⟩
  have HN := Lib.hid hn
  rw [hn] at HR HRI hl ⊢
  unfold qVal It.val
  have hz : Hid (∃ W Q X R1 R2, W = (((w.alloc (.cells #[.int .i64 k, .slice ao n cap, .int .i64 (T 0), .int .i64 (T 1), .int .i64 (T 2), .int .i64 (T 3)] 47)).alloc (.cells #[.int .i64 x.id, .int .i64 x.prio, .int .i64 x.flow] 27)).alloc (.cells #[.int .i64 0, .slice none 0 0, .int .i64 0, .int .i64 0, .int .i64 0, .int .i64 0] 47)).alloc (.cells #[.int .i64 0, .int .i64 0, .int .i64 0] 27) ∧
      Q = w.heap.size ∧ X = w.heap.size + 1 ∧ R1 = w.heap.size + 1 + 1 ∧ R2 = w.heap.size + 1 + 1 + 1 ∧ Hid (TP w W Q X R1 R2 k (.slice ao n cap) T x)) := by
    refine Lib.hid ⟨_, _, _, _, _, rfl, rfl, rfl, rfl, rfl, Lib.hid ⟨(((BlockAt.new w 47 (qC k (.slice ao n cap) T)).alloc _).alloc _).alloc _, ?_, ?_, ?_, ((((Below.refl _ _).alloc (Nat.le_refl _) _).alloc (by simp) _).alloc (by simp; omega) _).alloc (by simp; omega) _, Nat.le_refl _, by omega, by omega, by omega⟩⟩
    · simpa using ((BlockAt.new (w.alloc (.cells #[.int .i64 k, .slice ao n cap, .int .i64 (T 0), .int .i64 (T 1), .int .i64 (T 2), .int .i64 (T 3)] 47)) 27 [.int .i64 x.id, .int .i64 x.prio, .int .i64 x.flow]).alloc (.cells #[.int .i64 0, .slice none 0 0, .int .i64 0, .int .i64 0, .int .i64 0, .int .i64 0] 47)).alloc (.cells #[.int .i64 0, .int .i64 0, .int .i64 0] 27)
    · simpa [qC] using (BlockAt.new ((w.alloc (.cells #[.int .i64 k, .slice ao n cap, .int .i64 (T 0), .int .i64 (T 1), .int .i64 (T 2), .int .i64 (T 3)] 47)).alloc (.cells #[.int .i64 x.id, .int .i64 x.prio, .int .i64 x.flow] 27)) 47 [.int .i64 0, .slice none 0 0, .int .i64 0, .int .i64 0, .int .i64 0, .int .i64 0]).alloc (.cells #[.int .i64 0, .int .i64 0, .int .i64 0] 27)
    · simpa using BlockAt.new (((w.alloc (.cells #[.int .i64 k, .slice ao n cap, .int .i64 (T 0), .int .i64 (T 1), .int .i64 (T 2), .int .i64 (T 3)] 47)).alloc (.cells #[.int .i64 x.id, .int .i64 x.prio, .int .i64 x.flow] 27)).alloc (.cells #[.int .i64 0, .slice none 0 0, .int .i64 0, .int .i64 0, .int .i64 0, .int .i64 0] 47)) 27 [.int .i64 0, .int .i64 0, .int .i64 0]
  have HXP := Lib.hid (And.intro hp (And.intro hx hf))
  clear hrel hR hn hnil hp hx hf
  go_enter Try.func24, Try.ntmps24
  go_upto_region 2 with fail
  obtain ⟨W, Q, X, R1, R2, hW, hQ, hX, hR1, hR2, HB⟩ := hz.out
  rw [← hR2, ← hR1, ← hX, ← hQ]
  rw [← hW]
  have HO0 : Hid (W.ownsRow W.heap.size 27 3 (.slice none 0 0) 0 []) := Lib.hid (World.ownsRow_nil _ _ _ _)
  have HV1 : Hid (RowIn W 3 ao n cap (cellsI L)) := Lib.hid (by
    obtain ⟨e1, e2, e3⟩ := HRI.out
    exact ⟨e1, e2, fun ad had j u hu => (Upd.ofBelow HB.out.below).cell (e3 ad had j u hu) (by simp)⟩)
  have q1 := HB.out.q.cell 1 _ rfl
  clear hz hW hQ hX hR1 hR2 HRI
  go_wp2_with (at_builtin; refine wpList_append_view W rfl (.tmp 14) (.tmp 16) 37 rfl W.heap.size 27 3 24 Try.infoItem (by kernel_rfl) rfl (by decide) (.slice none 0 0) 0 [] rfl HO0.out ao n cap _ rfl HV1.out (cellsI_one _) (by unfold maxLen; omega) (by omega) (Nat.le_refl _) ?_)
  intro v1 w1 hown1 hu1
  have hu1' : Upd [] W w1 := hu1.mono (by simp [Value.ownBlock])
  have HO1 := Lib.hid hown1
  have HB1 := Lib.hid (HB.out.next hu1')
  have HSZ := Lib.hid (And.intro HB.out.r2.lt hu1'.size)
  have x0 := HB1.out.x.cell 0 _ rfl
  have x1 := HB1.out.x.cell 1 _ rfl
  have x2 := HB1.out.x.cell 2 _ rfl
  clear hown1 hu1 hu1' HO0 HV1 q1 HB
  go_wp2_with (at_builtin; refine wpList_append_one w1 rfl (.tmp 18) (.tmp 20) 37 rfl W.heap.size 27 3 24 Try.infoItem (by kernel_rfl) rfl (by decide) v1 n _ rfl HO1.out [.int .i64 x.id, .int .i64 x.prio, .int .i64 x.flow] rfl rfl rfl (by unfold maxLen; omega) (by omega) HSZ.out.2 ?_)
  intro v2 w2 hown2 hu2
  rw [show cellsI L ++ [.int .i64 x.id, .int .i64 x.prio, .int .i64 x.flow] = cellsI (L ++ [x]) by rw [cellsI_append]; rfl] at hown2
  obtain ⟨g, cap2, rfl⟩ := own_some hown2 (by omega)
  have HB2 := Lib.hid (HB1.out.step hu2 (fun s hs => by have h1 := (HO1.out.lt s (by simpa using hs)).1; have := HSZ.out; omega))
  obtain ⟨M, hM⟩ : ∃ M, L ++ [x] = M := ⟨_, rfl⟩
  have hML : M.length = n + 1 := by rw [← hM, List.length_append, HN.out]; rfl
  obtain ⟨m, hm⟩ : ∃ m, n + 1 = m := ⟨_, rfl⟩
  rw [hM] at hown2 HREL
  rw [hm] at hown2 hML ⊢
  have HO2 := Lib.hid hown2
  have HSZ2 := Lib.hid (show R2 < W.heap.size ∧ W.heap.size ≤ w2.heap.size ∧ w.heap.size ≤ W.heap.size from ⟨HSZ.out.1, Nat.le_trans HSZ.out.2 hu2.size, by have := HB1.out.low; have := HB1.out.lt1; have := HB1.out.lt2; have := HB1.out.lt3; have := HSZ.out.1; omega⟩)
  have HM := Lib.hid (And.intro hML (And.intro hm hM))
  have hq := HB2.out.q
  have hr := HB2.out.r1
  have hs := HB2.out.r2
  have q0 := hq.cell 0 _ rfl
  have m1 : (1 : Int) ≤ m := by omega
  have m9 : (m : Int) ≤ 901 := by omega
  clear hown2 hu2 hM hML hm HO1 HB1 HSZ x0 x1 x2 hl HR HN
  by_cases hk : (m : Int) ≤ k
  · have q1 := hq.cell 1 _ rfl
    have f1 : w2.frozen? ⟨Q, 1, none⟩ = false := hq.free 1
    have hq4 : BlockAt (w2.setCell ⟨Q, 1, none⟩ (.slice (some ⟨g, 0, none⟩) m cap2)) Q 47 (qC k (.slice (some ⟨g, 0, none⟩) m cap2) T) := hq.set 1 (.slice (some ⟨g, 0, none⟩) m cap2)
    have hu4 : Upd [Q] w2 (w2.setCell ⟨Q, 1, none⟩ (.slice (some ⟨g, 0, none⟩) m cap2)) := Upd.setCell' _ _ _ (by simp)
    have hr4 := hr.keep hu4 (by have := HB2.out.lt1; have := HB2.out.lt2; simp; omega)
    have hs4 := hs.keep hu4 (by have := HB2.out.lt1; have := HB2.out.lt2; have := HB2.out.lt3; simp; omega)
    have HQ4 := Lib.hid hq4
    have HR4 := Lib.hid (And.intro hr4 hs4)
    have HU4 := Lib.hid hu4
    clear hq hr hs hq4 hr4 hs4 hu4
    go_upto_region 6 with fail
    obtain ⟨W4, hW4⟩ : ∃ W, w2.setCell ⟨Q, 1, none⟩ (.slice (some ⟨g, 0, none⟩) m cap2) = W := ⟨_, rfl⟩
    rw [hW4] at HQ4 HR4 HU4
    rw [hW4]
    have a0 := HQ4.out.cell 0 _ rfl
    have a1 := HQ4.out.cell 1 _ rfl
    have a2 := HQ4.out.cell 2 _ rfl
    have a3 := HQ4.out.cell 3 _ rfl
    have a4 := HQ4.out.cell 4 _ rfl
    have a5 := HQ4.out.cell 5 _ rfl
    have r0 := HR4.out.1.cell 0 _ rfl
    have r1 := HR4.out.1.cell 1 _ rfl
    have r2 := HR4.out.1.cell 2 _ rfl
    have r3 := HR4.out.1.cell 3 _ rfl
    have r4 := HR4.out.1.cell 4 _ rfl
    have r5 := HR4.out.1.cell 5 _ rfl
    have s0 := HR4.out.2.cell 0 _ rfl
    have s1 := HR4.out.2.cell 1 _ rfl
    have s2 := HR4.out.2.cell 2 _ rfl
    have g0 := HR4.out.1.free 0
    have g1 := HR4.out.1.free 1
    have g2 := HR4.out.1.free 2
    have g3 := HR4.out.1.free 3
    have g4 := HR4.out.1.free 4
    have g5 := HR4.out.1.free 5
    have h0 := HR4.out.2.free 0
    have h1 := HR4.out.2.free 1
    have h2 := HR4.out.2.free 2
    have n1 : ¬ Q = R1 := by have := HB2.out.lt1; have := HB2.out.lt2; omega
    have n2 : ¬ Q = R2 := by have := HB2.out.lt1; have := HB2.out.lt2; have := HB2.out.lt3; omega
    have n3 : ¬ R1 = R2 := by have := HB2.out.lt3; omega
    have n4 : ¬ R2 = R1 := by have := HB2.out.lt3; omega
    have n5 : ¬ R1 = Q := by omega
    have n6 : ¬ R2 = Q := by omega
    clear hW4 q1 f1 q0
    go_wp2_with fail
    have hh := twoSets HR4.out.1 HR4.out.2 n3 k (.slice (some ⟨g, 0, none⟩) m cap2) T 0 0 0
    obtain ⟨W5, hW5⟩ : ∃ W, set2 (set1 W4 R1 k (.slice (some ⟨g, 0, none⟩) m cap2) T) R2 0 0 0 = W := ⟨_, rfl⟩
    rw [hW5] at hh
    unfold set2 set1 at hW5
    rw [hW5]
    obtain ⟨hb1, hb2, hu5⟩ := hh
    have t0 := hb1.cell 0 _ rfl
    have t1 := hb1.cell 1 _ rfl
    have t2 := hb1.cell 2 _ rfl
    have t3 := hb1.cell 3 _ rfl
    have t4 := hb1.cell 4 _ rfl
    have t5 := hb1.cell 5 _ rfl
    have v0 := hb2.cell 0 _ rfl
    have v1 := hb2.cell 1 _ rfl
    have v2 := hb2.cell 2 _ rfl
    refine bodyPost_ret (v := .tuple #[.agg #[.int .i64 k, .slice (some ⟨g, 0, none⟩) m cap2, .int .i64 (T 0), .int .i64 (T 1), .int .i64 (T 2), .int .i64 (T 3)], .agg #[.int .i64 0, .int .i64 0, .int .i64 0], .bool false]) (by simp [results, Try.results24, go_sem, t0, t1, t2, t3, t4, t5, v0, v1, v2]) rfl ?_
    have l0 := HB2.out.low
    have l1 := HB2.out.lt1
    have l2 := HB2.out.lt2
    have l3 := HB2.out.lt3
    have l4 := HSZ2.out
    have hu6 : Upd [Q, R1, R2] w2 W5 := (HU4.out.mono (by simp)).trans (hu5.mono (by simp))
    have hown6 := hu6.owns HO2.out (fun q hq hh => by
      have := (HO2.out.lt q hq).1
      simp at hh; omega)
    obtain ⟨e1, e2, e3⟩ := HM.out
    refine ⟨.slice (some ⟨g, 0, none⟩) m cap2, M, addIt r p x, zeroIt, false, rfl, ?_, ⟨RowRd.of (by rw [e1]; exact hown6), HREL.out, fun q hq => .inr ?_, fun _ => own_nil hown6⟩, by rw [e3]; exact List.Sublist.refl _, HB2.out.below.trans (hu6.below HB2.out.below.size (by simp; omega))⟩
    · have := PutIs.room (most := k) (n := (n : Int)) (r := r) (p := p) (x := x) (by omega)
      rwa [show (n : Int) + 1 = (M.length : Int) by omega] at this
    · have h6 := hown6.lt q hq
      exact ⟨by omega, h6.2⟩
  · have hk1 : k < m := by omega
    have HMR := Lib.hid (RowRd.of (o := M) (v := .slice (some ⟨g, 0, none⟩) m cap2) (by rw [HM.out.1]; exact HO2.out))
    have CM := Lib.hid (fun (P F : Int) W (h : RowRd W (.slice (some ⟨g, 0, none⟩) m cap2) M) => many_any (.slice (some ⟨g, 0, none⟩) m cap2) M P F W h (by have := HM.out.1; omega))
    have CW := Lib.hid (fun (b : Nat) W (h : RowRd W (.slice (some ⟨g, 0, none⟩) m cap2) M) (hb : b < M.length) => without_any (.slice (some ⟨g, 0, none⟩) m cap2) M b W h hb (by have := HM.out.1; omega))
    have HL0 : Hid (∃ x, SBest M 0 0 x) := Lib.hid ⟨M[0]'(by rw [HM.out.1]; omega), SBest.start (by simp)⟩
    have HST0 : Hid (Upd [] w2 w2) := Lib.hid (Upd.refl _ _)
    clear hq hr hs hk
    go_wp2_with fail
    go_loopw [8, 9, 10, 11, 12, 13] (fun bv iv _ _ _ _ wr => ∃ (j b : Nat), j ≤ m ∧ (b < j ∨ b = 0) ∧ iv = .int .i64 j ∧ bv = .int .i64 b ∧ Hid (∃ x, SBest M j b x) ∧ Hid (Upd [] w2 wr)) (fun _ i _ _ _ _ _ => m - (intOf i).toNat)
    case atStart => exact ⟨0, 0, by omega, .inr rfl, rfl, rfl, HL0, HST0⟩
    case round =>
      obtain ⟨j, b, hj, hb, rfl, rfl, HT1, HU1⟩ := hrel
      clear HL0 HST0
      by_cases hjn : j < m
      · obtain ⟨xb, hxb⟩ := HT1.out
        obtain ⟨xa, hxa⟩ : ∃ x, M[j]? = some x := ⟨M[j]'(by rw [HM.out.1]; omega), by simp⟩
        have HX := Lib.hid (And.intro hxa hxb)
        obtain ⟨ga, da, hva, a0, a1, a2⟩ := (HMR.out.keep HU1.out (by simp)).get hxa
        obtain ⟨gb, db, hvb, b0, b1, b2⟩ := (HMR.out.keep HU1.out (by simp)).get hxb.is
        obtain rfl : ga = g := by cases hva; rfl
        obtain rfl : gb = ga := by cases hvb; rfl
        have fa := (HREL.out.ok xa (List.mem_of_getElem? hxa)).2
        have fb := (HREL.out.ok xb (List.mem_of_getElem? hxb.is)).2
        have hbn : b < m := by omega
        have j0 : (0 : Int) ≤ j := by omega
        have j1 : (j : Int) < m := by omega
        have bb0 : (0 : Int) ≤ b := by omega
        have bb1 : (b : Int) < m := by omega
        have hgl := World.block_lt_of_cell? _ _ a0
        dsimp only at hgl
        obtain ⟨B, hB⟩ : ∃ B, sLess M xa xb = B := ⟨_, rfl⟩
        have HBB := Lib.hid hB
        have HK := Lib.hid (show (B = true → sKey M xa ≤ sKey M xb) ∧ (B = false → sKey M xb < sKey M xa) by
          rw [← hB, sLess_key (by have := HM.out.1; omega) fa fb]
          simp)
        obtain ⟨ia, pxa, fxa⟩ := xa
        obtain ⟨ib, pxb, fxb⟩ := xb
        dsimp only at a0 a1 a2 b0 b1 b2 fa fb
        have HA2 : Hid (∃ W A C, W = ((wr.alloc (.cells #[.int .i64 ia, .int .i64 pxa, .int .i64 fxa] 27)).alloc (.cells #[.int .i64 ib, .int .i64 pxb, .int .i64 fxb] 27)) ∧ A = wr.heap.size ∧ C = wr.heap.size + 1 ∧ BlockAt W A 27 [.int .i64 ia, .int .i64 pxa, .int .i64 fxa] ∧ BlockAt W C 27 [.int .i64 ib, .int .i64 pxb, .int .i64 fxb] ∧ Upd [] w2 W) :=
          Lib.hid ⟨_, _, _, rfl, rfl, rfl, (BlockAt.new wr 27 [.int .i64 ia, .int .i64 pxa, .int .i64 fxa]).alloc _, by simpa using BlockAt.new (wr.alloc (.cells #[.int .i64 ia, .int .i64 pxa, .int .i64 fxa] 27)) 27 [.int .i64 ib, .int .i64 pxb, .int .i64 fxb], (HU1.out.trans (Upd.alloc _ _ _)).trans (Upd.alloc _ _ _)⟩
        clear hva hvb hxa hxb hjn hB hbn hb hj
        go_upto_region 13 with fail
        obtain ⟨W2, A, C, hW2, hA, hC, hba, hbc, HU2⟩ := HA2.out
        rw [← hC, ← hA]
        rw [← hW2]
        have c1 := hba.cell 1 _ rfl
        have c2 := hba.cell 2 _ rfl
        have d1 := hbc.cell 1 _ rfl
        have d2 := hbc.cell 2 _ rfl
        have HR2 := Lib.hid (HMR.out.keep HU2 (by simp))
        have HUU := Lib.hid HU2
        have C1 := Lib.hid (CM.out pxa fxa W2 HR2.out)
        have C2 := Lib.hid (CM.out pxb fxb W2 HR2.out)
        obtain ⟨ma, hma⟩ : ∃ z, many M pxa fxa = z := ⟨_, rfl⟩
        obtain ⟨mb, hmb⟩ : ∃ z, many M pxb fxb = z := ⟨_, rfl⟩
        rw [hma] at C1
        rw [hmb] at C2
        have HSL := Lib.hid (show sLess M ⟨ia, pxa, fxa⟩ ⟨ib, pxb, fxb⟩ = (decide (pxa < pxb) || (decide (pxa = pxb) && (decide (mb < ma) || (decide (ma = mb) && decide (fxb ≤ fxa))))) by rw [← hma, ← hmb]; rfl)
        clear hW2 hA hC hba hbc HU2 a0 a1 a2 b0 b1 b2 hgl HA2 HU1 hma hmb
        go_wp2_with fail
        refine C1.out.mono ?_
        rintro e w' ⟨rfl, rfl⟩
        go_wp2_with fail
        refine C2.out.mono ?_
        rintro e w' ⟨rfl, rfl⟩
        clear C1 C2
        go_upto_region 15 with fail
        go_cut [85] (fun s wx => s = .bool B ∧ wx = W2)
        case first =>
          rcases Int.lt_trichotomy pxa pxb with h | h | h
          · have HBT : Hid (B = true) := Lib.hid (by rw [← HBB.out, HSL.out]; simp [h])
            have t1 : decide (pxa < pxb) = true := by simpa using h
            clear h
            go_wp2_with fail
            go_meet
            exact ⟨by rw [HBT.out], rfl⟩
          · subst h
            have t1 : decide (pxa < pxa) = false := by simp
            rcases Int.lt_trichotomy mb ma with h | h | h
            · have HBT : Hid (B = true) := Lib.hid (by rw [← HBB.out, HSL.out]; simp [h])
              have t2 : decide (mb < ma) = true := by simpa using h
              clear h
              go_wp2_with fail
              go_meet
              exact ⟨by rw [HBT.out], rfl⟩
            · subst h
              have t2 : decide (mb < mb) = false := by simp
              by_cases h : fxb ≤ fxa
              · have HBT : Hid (B = true) := Lib.hid (by rw [← HBB.out, HSL.out]; simp [h])
                have t3 : decide (fxb ≤ fxa) = true := by simpa using h
                clear h
                go_wp2_with fail
                go_meet
                exact ⟨by rw [HBT.out], rfl⟩
              · have HBT : Hid (B = false) := Lib.hid (by rw [← HBB.out, HSL.out]; simp [h])
                have t3 : decide (fxb ≤ fxa) = false := by simpa using h
                clear h
                go_wp2_with fail
                go_meet
                exact ⟨by rw [HBT.out], rfl⟩
            · have HBT : Hid (B = false) := Lib.hid (by rw [← HBB.out, HSL.out]; simp; omega)
              have t2 : decide (mb < ma) = false := by simp; omega
              have t3 : (ma == mb) = false := by rw [beq_eq_false_iff_ne]; omega
              clear h
              go_wp2_with fail
              go_meet
              exact ⟨by rw [HBT.out], rfl⟩
          · have HBT : Hid (B = false) := Lib.hid (by rw [← HBB.out, HSL.out]; simp; omega)
            have t1 : decide (pxa < pxb) = false := by simp; omega
            have t2 : (pxa == pxb) = false := by rw [beq_eq_false_iff_ne]; omega
            clear h
            go_wp2_with fail
            go_meet
            exact ⟨by rw [HBT.out], rfl⟩
        case rest =>
          obtain ⟨rfl, rfl⟩ := hcut
          clear c1 c2 d1 d2 HSL
          cases B with
          | true =>
            have HT2 : Hid (∃ x, SBest M (j + 1) j x) := Lib.hid ⟨_, HX.out.2.turn HX.out.1 (HK.out.1 rfl)⟩
            go_wp2_with fail
            go_roundw
            case rel => exact ⟨j + 1, j, by omega, .inl (by omega), by go_num, rfl, HT2, HUU⟩
            case measure => simp [intOf] <;> omega
          | false =>
            have HT2 : Hid (∃ x, SBest M (j + 1) b x) := Lib.hid ⟨_, HX.out.2.stay HX.out.1 (.inl (HK.out.2 rfl))⟩
            go_wp2_with fail
            go_roundw
            case rel => exact ⟨j + 1, b, by omega, by have := HX.out.2.lt; omega, by go_num, rfl, HT2, HUU⟩
            case measure => simp [intOf] <;> omega
      · obtain rfl : j = m := by omega
        obtain ⟨y, hyb⟩ := HT1.out
        have hbn : b < j := by omega
        obtain ⟨gb, d, hv, x0, x1, x2⟩ := (HMR.out.keep HU1.out (by simp)).get hyb.is
        obtain rfl : gb = g := by cases hv; rfl
        have HB3 := Lib.hid (HB2.out.next HU1.out)
        obtain ⟨r', hshed, hrel⟩ := HREL.out.shed (by have := HM.out.1; omega) (b := b) (x := y) (by rw [HM.out.1]; exact hyb)
        have HSH := Lib.hid (And.intro hshed hrel)
        have HBN := Lib.hid (And.intro hbn hyb.is)
        have CC := Lib.hid (CW.out b wr (HMR.out.keep HU1.out (by simp)) (by rw [HM.out.1]; exact hbn))
        have bb0 : (0 : Int) ≤ b := by omega
        have bb1 : (b : Int) < j := by omega
        obtain ⟨yi, yp, yf⟩ := y
        dsimp only at x0 x1 x2
        have HO3 := Lib.hid (HU1.out.owns HO2.out (by simp))
        clear hv hyb hshed hrel hbn hb hj hjn x0 x1 x2 CW CM
        go_wp2_with fail
        refine CC.out.mono ?_
        rintro e w3 ⟨v3, rfl, hown, hbel⟩
        have hu := Upd.ofBelow hbel
        have HB4 := Lib.hid (HB3.out.next hu)
        have HOWN := Lib.hid hown
        have HSZ4 := Lib.hid (show W.heap.size ≤ wr.heap.size ∧ wr.heap.size ≤ w3.heap.size from ⟨by have := HSZ2.out; have := HU1.out.size; omega, hbel.size⟩)
        have HMR4 := Lib.hid ((HMR.out.keep HU1.out (by simp)).keep hu (by simp))
        obtain ⟨ao3, cap3, rfl⟩ := (RowRd.of hown).val
        obtain ⟨m3, hm3⟩ : ∃ m, (M.eraseIdx b).length = m := ⟨_, rfl⟩
        have HM3 := Lib.hid hm3
        rw [hm3] at HOWN
        rw [hm3]
        have y1 := HB4.out.q.cell 1 _ rfl
        have f1 : w3.frozen? ⟨Q, 1, none⟩ = false := HB4.out.q.free 1
        have hq5 : BlockAt (w3.setCell ⟨Q, 1, none⟩ (.slice ao3 m3 cap3)) Q 47 (qC k (.slice ao3 m3 cap3) T) := HB4.out.q.set 1 (.slice ao3 m3 cap3)
        have hu5 : Upd [Q] w3 (w3.setCell ⟨Q, 1, none⟩ (.slice ao3 m3 cap3)) := Upd.setCell' _ _ _ (by simp)
        have HQ5 := Lib.hid hq5
        have HU5 := Lib.hid hu5
        clear hbel hu hown CC hm3 hq5 hu5
        go_upto_region 18 with fail
        obtain ⟨W4, hW4⟩ : ∃ W, w3.setCell ⟨Q, 1, none⟩ (.slice ao3 m3 cap3) = W := ⟨_, rfl⟩
        rw [hW4] at HQ5 HU5
        rw [hW4]
        have hgb := (HO3.out.lt gb rfl).1
        have l0 := HB4.out.low
        have l1 := HB4.out.lt1
        have l2 := HB4.out.lt2
        have l3 := HB4.out.lt3
        have l4 := HSZ2.out
        have HG := Lib.hid (show R2 < gb by omega)
        have hr4 := HB4.out.r1.keep HU5.out (by simp; omega)
        have hs4 := HB4.out.r2.keep HU5.out (by simp; omega)
        have HR4 := Lib.hid (And.intro hr4 hs4)
        obtain ⟨gb2, d2, hv2, x0, x1, x2⟩ := (HMR4.out.keep (S := [Q]) HU5.out (fun q hq => by cases hq; simp; omega)).get HBN.out.2
        obtain rfl : gb2 = gb := by cases hv2; rfl
        dsimp only at x0 x1 x2
        have a0 := HQ5.out.cell 0 _ rfl
        have a1 := HQ5.out.cell 1 _ rfl
        have a2 := HQ5.out.cell 2 _ rfl
        have a3 := HQ5.out.cell 3 _ rfl
        have a4 := HQ5.out.cell 4 _ rfl
        have a5 := HQ5.out.cell 5 _ rfl
        have r0 := hr4.cell 0 _ rfl
        have r1 := hr4.cell 1 _ rfl
        have r2 := hr4.cell 2 _ rfl
        have r3 := hr4.cell 3 _ rfl
        have r4 := hr4.cell 4 _ rfl
        have r5 := hr4.cell 5 _ rfl
        have s0 := hs4.cell 0 _ rfl
        have s1 := hs4.cell 1 _ rfl
        have s2 := hs4.cell 2 _ rfl
        have g0 := hr4.free 0
        have g1 := hr4.free 1
        have g2 := hr4.free 2
        have g3 := hr4.free 3
        have g4 := hr4.free 4
        have g5 := hr4.free 5
        have h0 := hs4.free 0
        have h1 := hs4.free 1
        have h2 := hs4.free 2
        have e12 : ¬ R1 = R2 := by omega
        have n0 : ¬ R2 = R1 := by omega
        have n1 : ¬ gb2 = R1 := by omega
        have n2 : ¬ gb2 = R2 := by omega
        have n3 : ¬ Q = R1 := by omega
        have n4 : ¬ Q = R2 := by omega
        have n5 : ¬ R1 = gb2 := by omega
        have n6 : ¬ R2 = gb2 := by omega
        have n7 : ¬ R1 = Q := by omega
        have n8 : ¬ R2 = Q := by omega
        clear hW4 hgb l0 l1 l2 l3 l4 hr4 hs4 hv2 y1 f1 q0
        go_region
        all_goals
          go_wp2_with fail
        all_goals first
          | (have hh := twoSets HR4.out.1 HR4.out.2 e12 k (.slice ao3 m3 cap3) T yi yp yf
             obtain ⟨W5, hW5⟩ : ∃ W, set2 (set1 W4 R1 k (.slice ao3 m3 cap3) T) R2 yi yp yf = W := ⟨_, rfl⟩
             rw [hW5] at hh
             unfold set2 set1 at hW5
             rw [hW5]
             clear hW5)
          | (have hh := twoSets' HR4.out.1 HR4.out.2 e12 k (.slice ao3 m3 cap3) T yi yp yf
             obtain ⟨W5, hW5⟩ : ∃ W, set1 (set2 W4 R2 yi yp yf) R1 k (.slice ao3 m3 cap3) T = W := ⟨_, rfl⟩
             rw [hW5] at hh
             unfold set2 set1 at hW5
             rw [hW5]
             clear hW5)
        all_goals
          obtain ⟨hb1, hb2, hu5⟩ := hh
          have t0 := hb1.cell 0 _ rfl
          have t1 := hb1.cell 1 _ rfl
          have t2 := hb1.cell 2 _ rfl
          have t3 := hb1.cell 3 _ rfl
          have t4 := hb1.cell 4 _ rfl
          have t5 := hb1.cell 5 _ rfl
          have v0 := hb2.cell 0 _ rfl
          have v1 := hb2.cell 1 _ rfl
          have v2 := hb2.cell 2 _ rfl
          refine bodyPost_ret (v := .tuple #[.agg #[.int .i64 k, .slice ao3 m3 cap3, .int .i64 (T 0), .int .i64 (T 1), .int .i64 (T 2), .int .i64 (T 3)], .agg #[.int .i64 yi, .int .i64 yp, .int .i64 yf], .bool true]) (by simp [results, Try.results24, go_sem, t0, t1, t2, t3, t4, t5, v0, v1, v2]) rfl ?_
          have l0 := HB4.out.low
          have l1 := HB4.out.lt1
          have l2 := HB4.out.lt2
          have l3 := HB4.out.lt3
          have l4 := HSZ2.out
          have l5 := HSZ4.out
          have hu6 : Upd [Q, R1, R2] w3 W5.drew := ((HU5.out.mono (by simp)).trans (hu5.mono (by simp))).trans (Upd.drew _ _)
          have hown6 := hu6.owns HOWN.out (fun q hq hh => by
            have := (HOWN.out.lt q hq).1
            simp at hh; omega)
          obtain ⟨e1, e2, e3⟩ := HM.out
          have hlen : m3 + 1 = j := by
            have h3 := HBN.out.1
            rw [← HM3.out, List.length_eraseIdx, e1, if_pos h3]; omega
          refine ⟨.slice ao3 m3 cap3, M.eraseIdx b, r', ⟨yi, yp, yf⟩, true, rfl, ?_, ⟨RowRd.of (by rw [HM3.out]; exact hown6), HSH.out.2, fun q hq => .inr ?_, fun _ => own_nil hown6⟩, by rw [e3]; exact List.eraseIdx_sublist _ _, HB4.out.below.trans (hu6.below HB4.out.below.size (by simp; omega))⟩
          · have := PutIs.over (most := k) (n := (n : Int)) (r := r) (p := p) (x := x) r' ⟨yi, yp, yf⟩ (by omega) HSH.out.1
            rw [show ((M.eraseIdx b).length : Int) = (n : Int) by rw [HM3.out]; omega]
            exact this
          · have h6 := hown6.lt q hq
            exact ⟨by omega, h6.2⟩
end Go.Proofs.Ytapoikegoknlcaa
