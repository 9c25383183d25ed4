/- Layer 22: the reference's Take. -/
import Derived.Test.YtapoikegoknlcaaPlayA
import Derived.Deep.DeepCutAuto
import Derived.RegionTactic
namespace Go.Proofs.Ytapoikegoknlcaa
open Go.RowKit
def qVal (k : Int) (v : Value) (T : Nat → Int) : Value := .agg #[.int .i64 k, v, .int .i64 (T 0), .int .i64 (T 1), .int .i64 (T 2), .int .i64 (T 3)]
def qC (k : Int) (v : Value) (T : Nat → Int) : List Value := [.int .i64 k, v, .int .i64 (T 0), .int .i64 (T 1), .int .i64 (T 2), .int .i64 (T 3)]
theorem qC_T (k : Int) (v : Value) (T : Nat → Int) {p : Nat} (hp : p < 4) : (qC k v T)[2 + p]? = some (.int .i64 (T p)) := by
  rcases (show p = 0 ∨ p = 1 ∨ p = 2 ∨ p = 3 by omega) with rfl | rfl | rfl | rfl <;> rfl
theorem qC_set (k : Int) (v : Value) (T : Nat → Int) {p : Nat} (hp : p < 4) (t : Int) : (qC k v T).set (2 + p) (.int .i64 t) = qC k v (upd T p t) := by
  rcases (show p = 0 ∨ p = 1 ∨ p = 2 ∨ p = 3 by omega) with rfl | rfl | rfl | rfl <;> rfl
/-- The reference's queue, as a value: its row can be read, and is old, or new since w. -/
structure RQ (w W : World) (v0 v : Value) (L : List It) (T : Nat → Int) (r : Nat → Row) : Prop where
  row : RowRd W v L
  rel : Rel L T r
  old : ∀ g, v.ownBlock = some g → v0.ownBlock = some g ∨ (w.heap.size ≤ g ∧ g < W.heap.size)
  nil : (∀ n cap, v0 = .slice none n cap → cap = 0) → ∀ n cap, v = .slice none n cap → cap = 0
theorem own_nil {W : World} {base : Nat} {e : TypeId} {size : Nat} {v : Value} {n : Nat} {xs : List Value} (h : W.ownsRow base e size v n xs) : ∀ m c, v = .slice none m c → c = 0 := by
  intro m c hv
  rcases h.2 with ⟨h1, -⟩ | ⟨g, cap, cur, h1, -⟩
  · rw [h1] at hv; cases hv; rfl
  · rw [h1] at hv; cases hv
def TakePostR (k : Int) (v : Value) (L : List It) (r : Nat → Row) (w : World) (e : Ending) (w' : World) : Prop :=
  ∃ (v' : Value) (L' : List It) (T' : Nat → Int) (r' : Nat → Row) (x : It) (is : Bool), e = .returned (.tuple #[qVal k v' T', x.val, .bool is]) ∧ TakeIs r r' x is ∧ RQ w w' v v' L' T' r' ∧ L'.Sublist L ∧ (is = true → L'.length + 1 = L.length) ∧ (is = false → L = []) ∧ (is = false → L' = []) ∧ Below w.heap.size w w'
/-- What Take keeps in memory. -/
structure TB (w W : World) (Q R1 R2 : Nat) (k : Int) (v : Value) (T : Nat → Int) : Prop where
  q : BlockAt W Q 47 (qC k v T)
  r1 : BlockAt W R1 47 (qC 0 (.slice none 0 0) (fun _ => 0))
  r2 : BlockAt W R2 27 [.int .i64 0, .int .i64 0, .int .i64 0]
  below : Below w.heap.size w W
  low : w.heap.size ≤ Q
  lt1 : Q < R1
  lt2 : R1 < R2
theorem TB.next {w W W' : World} {Q R1 R2 : Nat} {k : Int} {v : Value} {T : Nat → Int} (h : TB w W Q R1 R2 k v T) (u : Upd [] W W') : TB w W' Q R1 R2 k v T :=
  ⟨h.q.keep u (by simp), h.r1.keep u (by simp), h.r2.keep u (by simp), h.below.trans (u.below h.below.size (by simp)), h.low, h.lt1, h.lt2⟩
def set1 (W : World) (R : Nat) (k : Int) (v : Value) (T : Nat → Int) : World :=
  (((((W.setCell ⟨R, 0, none⟩ (.int .i64 k)).setCell ⟨R, 1, none⟩ v).setCell ⟨R, 2, none⟩ (.int .i64 (T 0))).setCell ⟨R, 3, none⟩ (.int .i64 (T 1))).setCell ⟨R, 4, none⟩ (.int .i64 (T 2))).setCell ⟨R, 5, none⟩ (.int .i64 (T 3))
def set2 (W : World) (R : Nat) (i p f : Int) : World := ((W.setCell ⟨R, 0, none⟩ (.int .i64 i)).setCell ⟨R, 1, none⟩ (.int .i64 p)).setCell ⟨R, 2, none⟩ (.int .i64 f)
theorem set1_at {W : World} {R : Nat} {k0 : Int} {v0 : Value} {T0 : Nat → Int} (h : BlockAt W R 47 (qC k0 v0 T0)) (k : Int) (v : Value) (T : Nat → Int) : BlockAt (set1 W R k v T) R 47 (qC k v T) :=
  (((((h.set 0 _).set 1 _).set 2 _).set 3 _).set 4 _).set 5 _
theorem set2_at {W : World} {R : Nat} {a b c : Int} (h : BlockAt W R 27 [.int .i64 a, .int .i64 b, .int .i64 c]) (i p f : Int) : BlockAt (set2 W R i p f) R 27 [.int .i64 i, .int .i64 p, .int .i64 f] :=
  ((h.set 0 _).set 1 _).set 2 _
theorem set1_upd (W : World) (R : Nat) (k : Int) (v : Value) (T : Nat → Int) : Upd [R] W (set1 W R k v T) :=
  (((((Upd.setCell' _ _ _ (by simp)).trans (Upd.setCell' _ _ _ (by simp))).trans (Upd.setCell' _ _ _ (by simp))).trans (Upd.setCell' _ _ _ (by simp))).trans (Upd.setCell' _ _ _ (by simp))).trans (Upd.setCell' _ _ _ (by simp))
theorem set2_upd (W : World) (R : Nat) (i p f : Int) : Upd [R] W (set2 W R i p f) := ((Upd.setCell' _ _ _ (by simp)).trans (Upd.setCell' _ _ _ (by simp))).trans (Upd.setCell' _ _ _ (by simp))
theorem twoSets {W : World} {R1 R2 : Nat} {k0 : Int} {v0 : Value} {T0 : Nat → Int} {a b c : Int} (h1 : BlockAt W R1 47 (qC k0 v0 T0)) (h2 : BlockAt W R2 27 [.int .i64 a, .int .i64 b, .int .i64 c]) (hne : ¬ R1 = R2) (k : Int) (v : Value) (T : Nat → Int) (i p f : Int) :
    BlockAt (set2 (set1 W R1 k v T) R2 i p f) R1 47 (qC k v T) ∧ BlockAt (set2 (set1 W R1 k v T) R2 i p f) R2 27 [.int .i64 i, .int .i64 p, .int .i64 f] ∧ Upd [R1, R2] W (set2 (set1 W R1 k v T) R2 i p f) :=
  ⟨(set1_at h1 k v T).keep (set2_upd _ _ _ _ _) (by simpa using hne), set2_at (h2.keep (set1_upd _ _ _ _ _) (by simp; omega)) i p f, ((set1_upd W R1 k v T).mono (by simp)).trans ((set2_upd _ R2 i p f).mono (by simp))⟩
theorem twoSets' {W : World} {R1 R2 : Nat} {k0 : Int} {v0 : Value} {T0 : Nat → Int} {a b c : Int} (h1 : BlockAt W R1 47 (qC k0 v0 T0)) (h2 : BlockAt W R2 27 [.int .i64 a, .int .i64 b, .int .i64 c]) (hne : ¬ R1 = R2) (k : Int) (v : Value) (T : Nat → Int) (i p f : Int) :
    BlockAt (set1 (set2 W R2 i p f) R1 k v T) R1 47 (qC k v T) ∧ BlockAt (set1 (set2 W R2 i p f) R1 k v T) R2 27 [.int .i64 i, .int .i64 p, .int .i64 f] ∧ Upd [R1, R2] W (set1 (set2 W R2 i p f) R1 k v T) :=
  ⟨set1_at (h1.keep (set2_upd _ _ _ _ _) (by simpa using hne)) k v T, (set2_at h2 i p f).keep (set1_upd _ _ _ _ _) (by simp; omega), ((set2_upd W R2 i p f).mono (by simp)).trans ((set1_upd _ R1 k v T).mono (by simp))⟩
set_option maxRecDepth 100000 in
set_option maxHeartbeats 4000000 in
theorem refTake_any (k : Int) (v : Value) (L : List It) (T : Nat → Int) (r : Nat → Row) (w : World) (hR : RowRd w v L) (hrel : Rel L T r) (hl : (L.length : Int) ≤ 1000) :
    Calls Try.prog 21 #[qVal k v T] w (TakePostR k v L r w) := by
  have HREL := Lib.hid hrel
  have HR := Lib.hid hR
  obtain ⟨ao, cap, rfl⟩ := hR.val
  have CW := Lib.hid (fun (b : Nat) W (h : RowRd W (.slice ao L.length cap) L) (hb : b < L.length) => without_any (.slice ao L.length cap) L b W h hb hl)
  obtain ⟨n, hn⟩ : ∃ n, L.length = n := ⟨_, rfl⟩
  have HN := Lib.hid hn
  rw [hn] at HR hl CW ⊢
  have HT : Hid (∀ p, p < 4 → 0 ≤ T p ∧ T p ≤ 5) := Lib.hid (fun p hp => hrel.T0 hp)
  unfold qVal
  clear hrel hR hn
  go_enter Try.func21, Try.ntmps21
  have hz : Hid (∃ W Q R1 R2, W = ((w.alloc (.cells #[.int .i64 k, .slice ao n cap, .int .i64 (T 0), .int .i64 (T 1), .int .i64 (T 2), .int .i64 (T 3)] 47)).alloc (.cells #[.int .i64 0, .slice none 0 0, .int .i64 0, .int .i64 0, .int .i64 0, .int .i64 0] 47)).alloc (.cells #[.int .i64 0, .int .i64 0, .int .i64 0] 27) ∧
      Q = w.heap.size ∧ R1 = w.heap.size + 1 ∧ R2 = w.heap.size + 1 + 1 ∧ Hid (TB w W Q R1 R2 k (.slice ao n cap) T)) := Lib.hid ⟨_, _, _, _, rfl, rfl, rfl, rfl, Lib.hid ⟨((BlockAt.new w 47 (qC k (.slice ao n cap) T)).alloc _).alloc _, by simpa [qC] using (BlockAt.new (w.alloc (.cells #[.int .i64 k, .slice ao n cap, .int .i64 (T 0), .int .i64 (T 1), .int .i64 (T 2), .int .i64 (T 3)] 47)) 47 [.int .i64 0, .slice none 0 0, .int .i64 0, .int .i64 0, .int .i64 0, .int .i64 0]).alloc (.cells #[.int .i64 0, .int .i64 0, .int .i64 0] 27), by simpa using BlockAt.new ((w.alloc (.cells #[.int .i64 k, .slice ao n cap, .int .i64 (T 0), .int .i64 (T 1), .int .i64 (T 2), .int .i64 (T 3)] 47)).alloc (.cells #[.int .i64 0, .slice none 0 0, .int .i64 0, .int .i64 0, .int .i64 0, .int .i64 0] 47)) 27 [.int .i64 0, .int .i64 0, .int .i64 0], (((Below.refl _ _).alloc (Nat.le_refl _) _).alloc (by simp) _).alloc (by simp; omega) _, Nat.le_refl _, by omega, by omega⟩⟩
  by_cases h0 : n = 0
  · subst h0
    go_wp2_with fail
    refine bodyPost_ret (v := .tuple #[.agg #[.int .i64 k, .slice ao 0 cap, .int .i64 (T 0), .int .i64 (T 1), .int .i64 (T 2), .int .i64 (T 3)], .agg #[.int .i64 0, .int .i64 0, .int .i64 0], .bool false]) (by simp [results, Try.results21, go_sem]) rfl ?_
    have hL : L = [] := List.eq_nil_of_length_eq_zero HN.out
    subst hL
    have hb : Below w.heap.size w (((w.alloc (.cells #[.int .i64 k, .slice ao 0 cap, .int .i64 (T 0), .int .i64 (T 1), .int .i64 (T 2), .int .i64 (T 3)] 47)).alloc (.cells #[.int .i64 k, .slice ao 0 cap, .int .i64 (T 0), .int .i64 (T 1), .int .i64 (T 2), .int .i64 (T 3)] 47)).alloc (.cells #[.int .i64 0, .int .i64 0, .int .i64 0] 27)) :=
      (((Below.refl _ _).alloc (Nat.le_refl _) _).alloc (by simp) _).alloc (by simp; omega) _
    exact ⟨.slice ao 0 cap, [], T, r, zeroIt, false, rfl, HREL.out.takeNil, ⟨HR.out.keep (Upd.ofBelow hb) (by simp), HREL.out, fun g hg => .inl hg, fun h => h⟩, List.Sublist.refl _, fun h => (by cases h), fun _ => rfl, fun _ => rfl, hb⟩
  · have n0 : ((n : Int) == 0) = false := by simp; omega
    go_wp2_with fail
    obtain ⟨W, Q, R1, R2, hW, hQ, hR1, hR2, HB⟩ := hz.out
    rw [← hR2, ← hR1, ← hQ]
    rw [← hW]
    have HR1 := Lib.hid (HR.out.keep (Upd.ofBelow HB.out.below) (by simp))
    have HL0 : Hid (∃ x, TBest T L 0 0 x) := Lib.hid ⟨L[0]'(by rw [HN.out]; omega), TBest.start (by simp)⟩
    have n1 : (1 : Int) ≤ n := by omega
    clear hz hW hQ hR1 hR2 h0
    go_loopw [5, 6, 7, 8] (fun bv iv _ _ wr => ∃ (j b : Nat), j ≤ n ∧ (b < j ∨ b = 0) ∧ iv = .int .i64 j ∧ bv = .int .i64 b ∧ Hid (∃ x, TBest T L j b x) ∧ Hid (TB w wr Q R1 R2 k (.slice ao n cap) T)) (fun _ i _ _ _ => n - (intOf i).toNat)
    case atStart => exact ⟨0, 0, by omega, .inr rfl, rfl, rfl, HL0, HB⟩
    case round =>
      obtain ⟨j, b, hj, hb, rfl, rfl, HT1, HB1⟩ := hrel
      clear HL0 HB
      by_cases hjn : j < n
      · obtain ⟨xb, hxb⟩ := HT1.out
        obtain ⟨xa, hxa⟩ : ∃ x, L[j]? = some x := ⟨L[j]'(by rw [HN.out]; omega), by simp⟩
        have HX := Lib.hid (And.intro hxa hxb)
        obtain ⟨ga, da, hva, a0, a1, a2⟩ := (HR.out.keep (Upd.ofBelow HB1.out.below) (by simp)).get hxa
        obtain ⟨gb, db, hvb, b0, b1, b2⟩ := (HR.out.keep (Upd.ofBelow HB1.out.below) (by simp)).get hxb.is
        obtain rfl : ao = some ⟨ga, 0, none⟩ := by cases hva; rfl
        obtain rfl : ga = gb := by cases hvb; rfl
        obtain ⟨⟨pa, hpa, hpae⟩, fa⟩ := HREL.out.ok xa (List.mem_of_getElem? hxa)
        obtain ⟨⟨pb, hpb, hpbe⟩, fb⟩ := HREL.out.ok xb (List.mem_of_getElem? hxb.is)
        have hbn : b < n := by omega
        have j0 : (0 : Int) ≤ j := by omega
        have j1 : (j : Int) < n := by omega
        have bb0 : (0 : Int) ≤ b := by omega
        have bb1 : (b : Int) < n := by omega
        have q1 := HB1.out.q.cell 1 _ rfl
        have hQl := HB1.out.q.lt
        have hgl := World.block_lt_of_cell? _ _ a0
        dsimp only at hgl
        obtain ⟨B, hB⟩ : ∃ B, tLess T xa xb = B := ⟨_, rfl⟩
        have HBB := Lib.hid hB
        have HK := Lib.hid (show (B = true → tKey T xa < tKey T xb) ∧ (B = false → tKey T xb ≤ tKey T xa) by
          rw [← hB, tLess_key fa fb]
          simp)
        obtain ⟨ia, pxa, fxa⟩ := xa
        obtain ⟨ib, pxb, fxb⟩ := xb
        dsimp only at a0 a1 a2 b0 b1 b2 hpae hpbe fa fb
        subst hpae hpbe
        have HP := Lib.hid (And.intro hpa hpb)
        have HA2 : Hid (∃ W A C, W = ((wr.alloc (.cells #[.int .i64 ia, .int .i64 pa, .int .i64 fxa] 27)).alloc (.cells #[.int .i64 ib, .int .i64 pb, .int .i64 fxb] 27)) ∧ A = wr.heap.size ∧ C = wr.heap.size + 1 ∧ BlockAt W A 27 [.int .i64 ia, .int .i64 pa, .int .i64 fxa] ∧ BlockAt W C 27 [.int .i64 ib, .int .i64 pb, .int .i64 fxb] ∧ Hid (TB w W Q R1 R2 k (.slice (some ⟨ga, 0, none⟩) n cap) T)) :=
          Lib.hid ⟨_, _, _, rfl, rfl, rfl, (BlockAt.new wr 27 [.int .i64 ia, .int .i64 pa, .int .i64 fxa]).alloc _, by simpa using BlockAt.new (wr.alloc (.cells #[.int .i64 ia, .int .i64 pa, .int .i64 fxa] 27)) 27 [.int .i64 ib, .int .i64 pb, .int .i64 fxb], Lib.hid ((HB1.out.next (Upd.alloc _ _ _)).next (Upd.alloc _ _ _))⟩
        clear hva hvb hxa hxb hjn hB hbn hpa hpb hb hj
        go_wp2_with fail
        obtain ⟨W, A, C, hW, hA, hC, hba, hbc, HB2⟩ := HA2.out
        rw [← hC, ← hA]
        rw [← hW]
        have q9 := HB2.out.q.cell (2 + pa) _ (qC_T _ _ _ HP.out.1)
        have c0 := hba.cell 0 _ rfl
        have c1 := hba.cell 1 _ rfl
        have c2 := hba.cell 2 _ rfl
        have d1 := hbc.cell 1 _ rfl
        have d2 := hbc.cell 2 _ rfl
        clear hW hA hC a0 a1 a2 b0 b1 b2 q1 hba hbc hQl hgl HA2 HB1
        go_cut [56] (fun s wx => s = .bool B ∧ ∃ n, wx = W.drewN n)
        case first =>
          have hpa4 : (pa : Int) < 4 := by have := HP.out.1; omega
          have pa0 : (0 : Int) ≤ pa := by omega
          rcases Int.lt_trichotomy (pb : Int) pa with h | h | h
          · have hg : decide ((pb : Int) < pa) = true := by simpa using h
            have hBt : B = true := by
              rw [← HBB.out]; unfold tLess; dsimp only; rw [hg]; rfl
            have HBT := Lib.hid hBt
            clear hBt
            go_quiet (fail)
            go_wp2_with fail
            go_meet
            exact ⟨by rw [HBT.out], _, rfl⟩
          · obtain rfl : pb = pa := by omega
            have hBa : aheadB fxa fxb (T pb) = B := by
              rw [← HBB.out]; unfold tLess; simp
            have CA := Lib.hid (fun w => ahead_any fxa fxb (T pb) w)
            rw [hBa] at CA
            clear hBa h
            go_quiet ((go_at_call 32; exact quietSame (CA.out _)))
            go_wp2_with fail
            go_meet
            exact ⟨rfl, _, rfl⟩
          · have hg : decide ((pb : Int) < pa) = false := by simp; omega
            have he : ((pa : Int) == pb) = false := by simp; omega
            have hg2 : decide (pb < pa) = false := by simp; omega
            have he2 : (pa == pb) = false := by simp; omega
            have he3 : ¬ pa = pb := by omega
            have hg3 : ¬ pb < pa := by omega
            have hBf : B = false := by
              rw [← HBB.out]; unfold tLess; simp; omega
            have HBT := Lib.hid hBf
            clear hBf
            go_quiet (fail)
            go_wp2_with fail
            go_meet
            exact ⟨by rw [HBT.out], _, rfl⟩
        case rest =>
          obtain ⟨rfl, nw, rfl⟩ := hcut
          have HB3 := Lib.hid (HB2.out.next (Upd.drewN [] _ nw))
          clear HB2 q9 c0 c1 c2 d1 d2
          cases B with
          | true =>
            have HT2 : Hid (∃ x, TBest T L (j + 1) j x) := Lib.hid ⟨_, HX.out.2.turn HX.out.1 (HK.out.1 rfl)⟩
            go_wp2_with fail
            go_roundw
            case rel => exact ⟨j + 1, j, by omega, .inl (by omega), by go_num, rfl, HT2, HB3⟩
            case measure => simp [intOf] <;> omega
          | false =>
            have HT2 : Hid (∃ x, TBest T L (j + 1) b x) := Lib.hid ⟨_, HX.out.2.stay HX.out.1 (HK.out.2 rfl)⟩
            go_wp2_with fail
            go_roundw
            case rel => exact ⟨j + 1, b, by omega, by have := HX.out.2.lt; omega, by go_num, rfl, HT2, HB3⟩
            case measure => simp [intOf] <;> omega
      · obtain rfl : j = n := by omega
        obtain ⟨x, hxb⟩ := HT1.out
        have hbn : b < j := by omega
        obtain ⟨g, d, hv, x0, x1, x2⟩ := (HR.out.keep (Upd.ofBelow HB1.out.below) (by simp)).get hxb.is
        obtain rfl : ao = some ⟨g, 0, none⟩ := by cases hv; rfl
        obtain ⟨r', p, hp, hxp, htake, hrel⟩ := HREL.out.take (b := b) (x := x) (by rw [HN.out]; exact hxb)
        have fx := (HREL.out.ok x (List.mem_of_getElem? hxb.is)).2
        have HTAKE := Lib.hid (And.intro htake hrel)
        obtain ⟨xi, xp, xf⟩ := x
        dsimp only at x0 x1 x2 hxp fx HTAKE
        subst hxp
        have HP := Lib.hid hp
        have HBN := Lib.hid hbn
        have hgl := World.block_lt_of_cell? _ _ x0
        dsimp only at hgl
        have hQl := HB1.out.q.lt
        have q1 := HB1.out.q.cell 1 _ rfl
        have bb0 : (0 : Int) ≤ b := by omega
        have bb1 : (b : Int) < j := by omega
        have HX : Hid (∃ W X, W = wr.alloc (.cells #[.int .i64 xi, .int .i64 (p : Int), .int .i64 xf] 27) ∧ X = wr.heap.size ∧ BlockAt W X 27 [.int .i64 xi, .int .i64 (p : Int), .int .i64 xf] ∧ Hid (TB w W Q R1 R2 k (.slice (some ⟨g, 0, none⟩) j cap) T) ∧ X < W.heap.size ∧ R2 < X) :=
          Lib.hid ⟨_, _, rfl, rfl, BlockAt.new wr 27 [.int .i64 xi, .int .i64 (p : Int), .int .i64 xf], Lib.hid (HB1.out.next (Upd.alloc _ _ _)), by simp, HB1.out.r2.lt⟩
        clear hv hxb htake hrel hp hbn hb hjn hj
        go_wp2_with fail
        obtain ⟨W2, X, hW2, hX, hbx, HB2, hXl, hRX⟩ := HX.out
        rw [← hX]
        rw [← hW2]
        have hr2 := HR.out.keep (Upd.ofBelow HB2.out.below) (by simp)
        have CC := Lib.hid (CW.out b W2 hr2 HBN.out)
        have HBX := Lib.hid (And.intro hbx (And.intro hXl hRX))
        clear hX hW2 hbx hXl hRX hr2 HX HB1 x0 x1 x2 q1 hgl hQl CW
        refine CC.out.mono ?_
        rintro e w3 ⟨v3, rfl, hown, hbel⟩
        have hu := Upd.ofBelow hbel
        have HB3 := Lib.hid (HB2.out.next hu)
        have hbx := HBX.out.1.keep hu (by simp)
        have HBX3 := Lib.hid hbx
        have HSZ := Lib.hid (show w.heap.size ≤ W2.heap.size ∧ W2.heap.size ≤ w3.heap.size from ⟨HB2.out.below.size, hbel.size⟩)
        have hXQ : ¬ X = Q := by have := HBX.out.2.2; have := HB2.out.lt1; have := HB2.out.lt2; omega
        have x1 := hbx.cell 1 _ rfl
        have x2 := hbx.cell 2 _ rfl
        have f1 : w3.frozen? ⟨Q, 1, none⟩ = false := HB3.out.q.free 1
        have f2 : w3.frozen? ⟨Q, 2 + p, none⟩ = false := HB3.out.q.free (2 + p)
        have y1 := HB3.out.q.cell 1 _ rfl
        have y2 := HB3.out.q.cell (2 + p) _ (qC_T _ _ _ HP.out)
        have HOWN := Lib.hid hown
        obtain ⟨ao3, cap3, rfl⟩ := (RowRd.of hown).val
        obtain ⟨m, hm⟩ : ∃ m, (L.eraseIdx b).length = m := ⟨_, rfl⟩
        have HM := Lib.hid hm
        rw [hm] at HOWN
        rw [hm]
        have p0 : (0 : Int) ≤ p := by omega
        have p1 : (p : Int) < 4 := by have := HP.out; omega
        have ew := IntWalk.i64_in (xf + 1) (by omega)
        clear hbel hu hown hbx CC HB2 hm
        go_wp2_with fail
        have hu4 : Upd [Q] w3 ((w3.setCell ⟨Q, 1, none⟩ (.slice ao3 m cap3)).setCell ⟨Q, 2 + p, none⟩ (.int .i64 (xf + 1))) := (Upd.setCell' _ _ _ (by simp)).trans (Upd.setCell' _ _ _ (by simp))
        have hq4 : BlockAt ((w3.setCell ⟨Q, 1, none⟩ (.slice ao3 m cap3)).setCell ⟨Q, 2 + p, none⟩ (.int .i64 (xf + 1))) Q 47 (qC k (.slice ao3 m cap3) (upd T p (xf + 1))) := by
          have := (HB3.out.q.set 1 (.slice ao3 m cap3)).set (2 + p) (.int .i64 (xf + 1))
          rwa [show (qC k (.slice (some ⟨g, 0, none⟩) j cap) T).set 1 (.slice ao3 m cap3) = qC k (.slice ao3 m cap3) T from rfl, qC_set _ _ _ HP.out] at this
        obtain ⟨W4, hW4⟩ : ∃ W, (w3.setCell ⟨Q, 1, none⟩ (.slice ao3 m cap3)).setCell ⟨Q, 2 + p, none⟩ (.int .i64 (xf + 1)) = W := ⟨_, rfl⟩
        rw [hW4] at hu4 hq4
        rw [hW4]
        have hr4 := HB3.out.r1.keep hu4 (by have := HB3.out.lt1; simp; omega)
        have hs4 := HB3.out.r2.keep hu4 (by have := HB3.out.lt1; have := HB3.out.lt2; simp; omega)
        have hx4 := HBX3.out.keep hu4 (by simpa using hXQ)
        have HR4 := Lib.hid (And.intro hr4 hs4)
        obtain ⟨T', hT'⟩ : ∃ T', upd T p (xf + 1) = T' := ⟨_, rfl⟩
        rw [hT'] at hq4 HTAKE
        have a0 := hq4.cell 0 _ rfl
        have a1 := hq4.cell 1 _ rfl
        have a2 := hq4.cell 2 _ rfl
        have a3 := hq4.cell 3 _ rfl
        have a4 := hq4.cell 4 _ rfl
        have a5 := hq4.cell 5 _ rfl
        have z0 := hx4.cell 0 _ rfl
        have z1 := hx4.cell 1 _ rfl
        have z2 := hx4.cell 2 _ rfl
        have r0 := hr4.cell 0 _ rfl
        have r1 := hr4.cell 1 _ rfl
        have r2 := hr4.cell 2 _ rfl
        have r3 := hr4.cell 3 _ rfl
        have r4 := hr4.cell 4 _ rfl
        have r5 := hr4.cell 5 _ rfl
        have s0 := hs4.cell 0 _ rfl
        have s1 := hs4.cell 1 _ rfl
        have s2 := hs4.cell 2 _ rfl
        have g0 := hr4.free 0
        have g1 := hr4.free 1
        have g2 := hr4.free 2
        have g3 := hr4.free 3
        have g4 := hr4.free 4
        have g5 := hr4.free 5
        have h0 := hs4.free 0
        have h1 := hs4.free 1
        have h2 := hs4.free 2
        have e12 : ¬ R1 = R2 := by have := HB3.out.lt2; omega
        have e21 : ¬ R2 = R1 := by have := HB3.out.lt2; omega
        have HU4 := Lib.hid hu4
        have hlt1 := HB3.out.lt1
        have hlt2 := HB3.out.lt2
        have hlt3 := HBX.out.2.2
        have n1 : ¬ X = R1 := by omega
        have n2 : ¬ X = R2 := by omega
        have n3 : ¬ Q = R1 := by omega
        have n4 : ¬ Q = R2 := by omega
        have n5 : ¬ R1 = X := by omega
        have n6 : ¬ R2 = X := by omega
        have n7 : ¬ R1 = Q := by omega
        have n8 : ¬ R2 = Q := by omega
        clear hlt1 hlt2 hlt3
        clear hT' hW4 hu4 hq4 hr4 hs4 hx4 y1 y2 f1 f2 x1 x2 HBX3
        go_region
        all_goals
          go_wp2_with fail
        all_goals first
          | (have hh := twoSets HR4.out.1 HR4.out.2 e12 k (.slice ao3 m cap3) T' xi p xf
             obtain ⟨W5, hW5⟩ : ∃ W, set2 (set1 W4 R1 k (.slice ao3 m cap3) T') R2 xi p xf = W := ⟨_, rfl⟩
             rw [hW5] at hh
             unfold set2 set1 at hW5
             rw [hW5]
             clear hW5)
          | (have hh := twoSets' HR4.out.1 HR4.out.2 e12 k (.slice ao3 m cap3) T' xi p xf
             obtain ⟨W5, hW5⟩ : ∃ W, set1 (set2 W4 R2 xi p xf) R1 k (.slice ao3 m cap3) T' = W := ⟨_, rfl⟩
             rw [hW5] at hh
             unfold set2 set1 at hW5
             rw [hW5]
             clear hW5)
        all_goals
          obtain ⟨hb1, hb2, hu5⟩ := hh
          have t0 := hb1.cell 0 _ rfl
          have t1 := hb1.cell 1 _ rfl
          have t2 := hb1.cell 2 _ rfl
          have t3 := hb1.cell 3 _ rfl
          have t4 := hb1.cell 4 _ rfl
          have t5 := hb1.cell 5 _ rfl
          have v0 := hb2.cell 0 _ rfl
          have v1 := hb2.cell 1 _ rfl
          have v2 := hb2.cell 2 _ rfl
          refine bodyPost_ret (v := .tuple #[.agg #[.int .i64 k, .slice ao3 m cap3, .int .i64 (T' 0), .int .i64 (T' 1), .int .i64 (T' 2), .int .i64 (T' 3)], .agg #[.int .i64 xi, .int .i64 p, .int .i64 xf], .bool true]) (by simp [results, Try.results21, go_sem, t0, t1, t2, t3, t4, t5, v0, v1, v2]) rfl ?_
          have l1 := HB3.out.low
          have l2 := HB3.out.lt1
          have l3 := HB3.out.lt2
          have l4 := HSZ.out
          have hu6 : Upd [Q, R1, R2] w3 W5.drew := ((HU4.out.mono (by simp)).trans (hu5.mono (by simp))).trans (Upd.drew _ _)
          have hown6 := hu6.owns HOWN.out (fun q hq hh => by
            have := (HOWN.out.lt q hq).1
            have h3 := HBX.out.2
            simp at hh; omega)
          have hlen : m + 1 = j := by
            have h3 := HBN.out
            rw [← HM.out, List.length_eraseIdx, HN.out, if_pos h3]; omega
          refine ⟨.slice ao3 m cap3, L.eraseIdx b, T', r', ⟨xi, p, xf⟩, true, rfl, HTAKE.out.1, ⟨RowRd.of (by rw [HM.out]; exact hown6), HTAKE.out.2, fun q hq => .inr ?_, fun _ => own_nil hown6⟩, List.eraseIdx_sublist _ _, fun _ => by rw [HM.out, HN.out]; exact hlen, fun h => (by cases h), fun h => (by cases h), HB3.out.below.trans (hu6.below (by omega) (by simp; omega))⟩
          have h6 := hown6.lt q hq
          exact ⟨by omega, h6.2⟩
end Go.Proofs.Ytapoikegoknlcaa
