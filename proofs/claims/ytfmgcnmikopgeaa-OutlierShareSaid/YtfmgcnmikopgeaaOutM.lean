/- Layer 14: a watch, made of a number; the endpoints at first. -/
import Derived.Test.YtfmgcnmikopgeaaOutL
import Derived.RegionTactic
namespace Go.Proofs.Ytfmgcnmikopgeaa
open Go.RowKit
def shareL : List Int := [50, 100, 34, 0, 20]
def topL : List Int := [1, 2, 8, 3]
def watchK (k : Int) : Wt := ⟨1 + k % 4, 5 + k / 4 % 20, k / 80 % 3 * 8, k / 240 % 3 * 10, shareL.getD (k / 720 % 5).toNat 0, 1 + k / 3600 % 20, (1 + k / 3600 % 20) * topL.getD (k / 72000 % 4).toNat 0⟩
def watchN (n : Int) : Wt := watchK (around n 10000000)
theorem share_get {d : Nat} (h : d < 5) : shareL[d]? = some (shareL.getD d 0) ∧ 0 ≤ shareL.getD d 0 ∧ shareL.getD d 0 ≤ 100 := by
  rcases (show d = 0 ∨ d = 1 ∨ d = 2 ∨ d = 3 ∨ d = 4 by omega) with rfl | rfl | rfl | rfl | rfl <;> decide
theorem top_get {d : Nat} (h : d < 4) : topL[d]? = some (topL.getD d 0) ∧ 1 ≤ topL.getD d 0 ∧ topL.getD d 0 ≤ 8 := by
  rcases (show d = 0 ∨ d = 1 ∨ d = 2 ∨ d = 3 by omega) with rfl | rfl | rfl | rfl <;> decide
structure WtK (t : Wt) : Prop where
  e0 : 1 ≤ t.errors
  e1 : t.errors ≤ 4
  w0 : 5 ≤ t.window
  w1 : t.window ≤ 24
  d0 : 0 ≤ t.dev
  d1 : t.dev ≤ 16
  l0 : t.slow = 0 ∨ 10 ≤ t.slow
  l1 : t.slow ≤ 20
  s0 : 0 ≤ t.share
  s1 : t.share ≤ 100
  b0 : 1 ≤ t.base
  b1 : t.base ≤ 20
  t0 : t.base ≤ t.top
  t1 : t.top ≤ 160
theorem watchN_ok (n : Int) : WtK (watchN n) := by
  have h0 := around_nonneg n 10000000 (by omega)
  unfold watchN
  generalize around n 10000000 = k at h0 ⊢
  obtain ⟨-, s2, s3⟩ := share_get (d := (k / 720 % 5).toNat) (by omega)
  obtain ⟨-, u2, u3⟩ := top_get (d := (k / 72000 % 4).toNat) (by omega)
  have hb : 1 ≤ 1 + k / 3600 % 20 ∧ 1 + k / 3600 % 20 ≤ 20 := by omega
  have hm : 1 + k / 3600 % 20 ≤ (1 + k / 3600 % 20) * topL.getD (k / 72000 % 4).toNat 0 ∧ (1 + k / 3600 % 20) * topL.getD (k / 72000 % 4).toNat 0 ≤ 160 := by
    generalize 1 + k / 3600 % 20 = x at hb ⊢
    generalize topL.getD (k / 72000 % 4).toNat 0 = y at u2 u3 ⊢
    have h1 := Int.mul_le_mul_of_nonneg_left u2 (show 0 ≤ x by omega)
    have h2 := Int.mul_le_mul hb.2 u3 (by omega) (by omega : (0 : Int) ≤ 20)
    rw [Int.mul_one] at h1
    omega
  unfold watchK
  exact ⟨by show 1 ≤ 1 + k % 4; omega, by show 1 + k % 4 ≤ 4; omega, by show 5 ≤ 5 + k / 4 % 20; omega, by show 5 + k / 4 % 20 ≤ 24; omega, by show 0 ≤ k / 80 % 3 * 8; omega, by show k / 80 % 3 * 8 ≤ 16; omega, by show k / 240 % 3 * 10 = 0 ∨ 10 ≤ k / 240 % 3 * 10; omega, by show k / 240 % 3 * 10 ≤ 20; omega, s2, s3, hb.1, hb.2, hm.1, hm.2⟩
theorem WtK.ok {t : Wt} (h : WtK t) : WtOk t := by
  obtain ⟨a, b, c, d, e, f, g, i, j, k, l, m, n, o⟩ := h
  exact ⟨by omega, by omega, by omega, by omega, by omega, by omega, by omega, by omega, by omega, by omega⟩
theorem ends_any (w : World) : Calls Try.prog 9 #[] w fun e w' => e = .returned (.slice (some ⟨w.heap.size, 0, none⟩) 4 4) ∧ IntsIn w' (.slice (some ⟨w.heap.size, 0, none⟩) 4 4) (rise 4) ∧ Below w.heap.size w w' := by
  have hi := ints_new w [1, 2, 3, 4] (by decide) (by decide) 4 rfl
  have HI := Lib.hid hi
  clear hi
  go_enter Try.func9, Try.ntmps9
  go_wp2_with fail
  go_ret
  exact ⟨rfl, HI.out, (Below.refl _ _).alloc (Nat.le_refl _) _⟩
def WatchPost (n : Int) (w : World) (e : Ending) (w' : World) : Prop := e = .returned (watchN n).val ∧ Below w.heap.size w w'
set_option maxRecDepth 100000 in
set_option maxHeartbeats 4000000 in
theorem watch_any (n : Int) (w : World) (h1 : -9223372036854775808 ≤ n) (h2 : n ≤ 9223372036854775807) :
    Calls Try.prog 7 #[.int .i64 n] w (WatchPost n w) := by
  have CA := Lib.hid (fun w => around_any n 10000000 w h1 h2 (by omega))
  have k0 := around_nonneg n 10000000 (by omega)
  have k1 := around_lt n 10000000 (by omega)
  have HK := Lib.hid (watchN_ok n)
  obtain ⟨k, hk⟩ : ∃ k, around n 10000000 = k := ⟨_, rfl⟩
  rw [hk] at CA k0 k1
  have HW := Lib.hid (show watchN n = watchK k by unfold watchN; rw [hk])
  obtain ⟨d, hd⟩ : ∃ d : Nat, k / 720 % 5 = (d : Int) := ⟨(k / 720 % 5).toNat, by omega⟩
  obtain ⟨f, hf⟩ : ∃ f : Nat, k / 72000 % 4 = (f : Int) := ⟨(k / 72000 % 4).toNat, by omega⟩
  have d5 : (d : Int) < 5 := by omega
  have f4 : (f : Int) < 4 := by omega
  have d0 : (0 : Int) ≤ d := by omega
  have f0 : (0 : Int) ≤ f := by omega
  have hsd := (share_get (d := d) (by omega)).1
  have htf := (top_get (d := f) (by omega)).1
  obtain ⟨sh, hsh⟩ : ∃ x, shareL.getD d 0 = x := ⟨_, rfl⟩
  obtain ⟨tp, htp⟩ : ∃ x, topL.getD f 0 = x := ⟨_, rfl⟩
  rw [hsh] at hsd
  rw [htp] at htf
  have HS := Lib.hid (show shareL.getD (k / 720 % 5).toNat 0 = sh ∧ topL.getD (k / 72000 % 4).toNat 0 = tp by rw [hd, hf]; exact ⟨hsh, htp⟩)
  have hc1 : ∀ W : World, (W.alloc (.cells #[.int .i64 50, .int .i64 100, .int .i64 34, .int .i64 0, .int .i64 20] 3)).cell? ⟨W.heap.size, d, none⟩ = some (.int .i64 sh) := fun W => (BlockAt.new W 3 (shareL.map (Value.int .i64))).cell d _ (by rw [List.getElem?_map, hsd]; rfl)
  have hc2 : ∀ W : World, (W.alloc (.cells #[.int .i64 1, .int .i64 2, .int .i64 8, .int .i64 3] 3)).cell? ⟨W.heap.size, f, none⟩ = some (.int .i64 tp) := fun W => (BlockAt.new W 3 (topL.map (Value.int .i64))).cell f _ (by rw [List.getElem?_map, htf]; rfl)
  have HC1 := hc1 (w.alloc (.cells #[.int .i64 0, .int .i64 0, .int .i64 0, .int .i64 0, .int .i64 0, .int .i64 0, .int .i64 0] 24))
  rw [show (w.alloc (.cells #[.int .i64 0, .int .i64 0, .int .i64 0, .int .i64 0, .int .i64 0, .int .i64 0, .int .i64 0] 24)).heap.size = w.heap.size + 1 by simp] at HC1
  clear hk h1 h2 hsd htf hsh htp hc1
  go_enter Try.func7, Try.ntmps7
  go_wp2_with fail
  refine (CA.out _).mono ?_
  rintro e w' ⟨rfl, rfl⟩
  clear CA
  go_wp2_with fail
  have HW3 : Hid (∃ W X R, W = ((w.alloc (.cells #[.int .i64 0, .int .i64 0, .int .i64 0, .int .i64 0, .int .i64 0, .int .i64 0, .int .i64 0] 24)).alloc (.cells #[.int .i64 50, .int .i64 100, .int .i64 34, .int .i64 0, .int .i64 20] 3)).alloc (.cells #[.int .i64 (1 + k % 4), .int .i64 (5 + k / 4 % 20), .int .i64 (k / 80 % 3 * 8), .int .i64 (k / 240 % 3 * 10), .int .i64 sh, .int .i64 (1 + k / 3600 % 20), .int .i64 0] 24) ∧ X = w.heap.size + 1 + 1 ∧ R = w.heap.size ∧
      BlockAt W X 24 [.int .i64 (1 + k % 4), .int .i64 (5 + k / 4 % 20), .int .i64 (k / 80 % 3 * 8), .int .i64 (k / 240 % 3 * 10), .int .i64 sh, .int .i64 (1 + k / 3600 % 20), .int .i64 0] ∧ BlockAt W R 24 [.int .i64 0, .int .i64 0, .int .i64 0, .int .i64 0, .int .i64 0, .int .i64 0, .int .i64 0] ∧ R < X ∧ w.heap.size ≤ R ∧ Upd [] w W) := Lib.hid
    ⟨_, _, _, rfl, rfl, rfl, by simpa using BlockAt.new ((w.alloc (.cells #[.int .i64 0, .int .i64 0, .int .i64 0, .int .i64 0, .int .i64 0, .int .i64 0, .int .i64 0] 24)).alloc (.cells #[.int .i64 50, .int .i64 100, .int .i64 34, .int .i64 0, .int .i64 20] 3)) 24 [.int .i64 (1 + k % 4), .int .i64 (5 + k / 4 % 20), .int .i64 (k / 80 % 3 * 8), .int .i64 (k / 240 % 3 * 10), .int .i64 sh, .int .i64 (1 + k / 3600 % 20), .int .i64 0], ((BlockAt.new w 24 [.int .i64 0, .int .i64 0, .int .i64 0, .int .i64 0, .int .i64 0, .int .i64 0, .int .i64 0]).alloc _).alloc _, by omega, Nat.le_refl _, ((Upd.alloc [] w _).trans (Upd.alloc [] _ _)).trans (Upd.alloc [] _ _)⟩
  obtain ⟨W3, X, R, hW3, hX, hR, hbx, hbr, hRX, hRl, hu3⟩ := HW3.out
  rw [← hX, ← hR]
  rw [← hW3]
  have hXl := hbx.lt
  have hm := HK.out.t1
  have hm0 := HK.out.t0
  rw [HW.out] at hm hm0
  obtain ⟨A1, hA1⟩ : ∃ x, 1 + k % 4 = x := ⟨_, rfl⟩
  obtain ⟨A2, hA2⟩ : ∃ x, 5 + k / 4 % 20 = x := ⟨_, rfl⟩
  obtain ⟨A3, hA3⟩ : ∃ x, k / 80 % 3 * 8 = x := ⟨_, rfl⟩
  obtain ⟨A4, hA4⟩ : ∃ x, k / 240 % 3 * 10 = x := ⟨_, rfl⟩
  obtain ⟨A6, hA6⟩ : ∃ x, 1 + k / 3600 % 20 = x := ⟨_, rfl⟩
  have hT : watchK k = ⟨A1, A2, A3, A4, sh, A6, A6 * tp⟩ := by unfold watchK; rw [hA1, hA2, hA3, hA4, hA6, HS.out.1, HS.out.2]
  rw [hT] at hm hm0
  dsimp only at hm hm0
  have hA6b : 1 ≤ A6 := by omega
  have ewm := IntWalk.i64_in (A6 * tp) (by omega)
  rw [hA1, hA2, hA3, hA4, hA6] at hbx
  rw [hA1, hA2, hA3, hA4, hA6]
  have HT := Lib.hid (show watchN n = ⟨A1, A2, A3, A4, sh, A6, A6 * tp⟩ by rw [HW.out, hT])
  have hc3 : (W3.drew.alloc (.cells #[.int .i64 1, .int .i64 2, .int .i64 8, .int .i64 3] 3)).cell? ⟨W3.heap.size, f, none⟩ = some (.int .i64 tp) := hc2 W3.drew
  have hc4 : (W3.alloc (.cells #[.int .i64 1, .int .i64 2, .int .i64 8, .int .i64 3] 3)).drew.cell? ⟨W3.heap.size, f, none⟩ = some (.int .i64 tp) := hc2 W3
  have hc5 : (W3.alloc (.cells #[.int .i64 1, .int .i64 2, .int .i64 8, .int .i64 3] 3)).cell? ⟨W3.heap.size, f, none⟩ = some (.int .i64 tp) := hc2 W3
  have x5 := hbx.cell 5 _ rfl
  have x6 := hbx.cell 6 _ rfl
  have g6 := hbx.free 6
  have HBX := Lib.hid hbx
  have HBR := Lib.hid (And.intro hbr (And.intro hRX (And.intro hRl hu3)))
  have hne : ¬ X = W3.heap.size := by omega
  clear HW3 hW3 hX hR hbx hbr hRX hRl hu3 hc2 HC1 hA1 hA2 hA3 hA4 hA6 hT hm hm0 HW HK HS hd
  go_region
  all_goals
    have hx4 : BlockAt ((W3.setCell ⟨X, 6, none⟩ (.int .i64 (A6 * tp))).alloc (.cells #[.int .i64 1, .int .i64 2, .int .i64 8, .int .i64 3] 3)).drew X 24 [.int .i64 A1, .int .i64 A2, .int .i64 A3, .int .i64 A4, .int .i64 sh, .int .i64 A6, .int .i64 (A6 * tp)] := (HBX.out.set 6 (.int .i64 (A6 * tp))).alloc _
    have hu4 : Upd [X] W3 ((W3.setCell ⟨X, 6, none⟩ (.int .i64 (A6 * tp))).alloc (.cells #[.int .i64 1, .int .i64 2, .int .i64 8, .int .i64 3] 3)).drew := ((Upd.setCell' _ _ _ (by simp)).trans (Upd.alloc _ _ _)).trans (Upd.drew _ _)
    obtain ⟨W4, hW4⟩ : ∃ W, ((W3.setCell ⟨X, 6, none⟩ (.int .i64 (A6 * tp))).alloc (.cells #[.int .i64 1, .int .i64 2, .int .i64 8, .int .i64 3] 3)).drew = W := ⟨_, rfl⟩
    rw [hW4] at hx4 hu4
    rw [hW4]
    have hr4 := HBR.out.1.keep hu4 (by have := HBR.out.2.1; simp; omega)
    have hXR : ¬ X = R := by have := HBR.out.2.1; omega
    have hRX : ¬ R = X := by omega
    have b0 := hx4.cell 0 _ rfl
    have b1 := hx4.cell 1 _ rfl
    have b2 := hx4.cell 2 _ rfl
    have b3 := hx4.cell 3 _ rfl
    have b4 := hx4.cell 4 _ rfl
    have b5 := hx4.cell 5 _ rfl
    have b6 := hx4.cell 6 _ rfl
    have r0 := hr4.cell 0 _ rfl
    have r1 := hr4.cell 1 _ rfl
    have r2 := hr4.cell 2 _ rfl
    have r3 := hr4.cell 3 _ rfl
    have r4 := hr4.cell 4 _ rfl
    have r5 := hr4.cell 5 _ rfl
    have r6 := hr4.cell 6 _ rfl
    have s0 := hr4.free 0
    have s1 := hr4.free 1
    have s2 := hr4.free 2
    have s3 := hr4.free 3
    have s4 := hr4.free 4
    have s5 := hr4.free 5
    have s6 := hr4.free 6
    have HR4 := Lib.hid (And.intro hr4 (And.intro hu4 True.intro))
    clear hW4 hx4 hu4 hr4 hc3 hc4 hc5 x5 x6 g6 hne hXl HBX
  all_goals go_wp2_with fail
  all_goals
    have hf5 := ((((((HR4.out.1.set 0 (.int .i64 A1)).set 1 (.int .i64 A2)).set 2 (.int .i64 A3)).set 3 (.int .i64 A4)).set 4 (.int .i64 sh)).set 5 (.int .i64 A6)).set 6 (.int .i64 (A6 * tp))
    have hu5 : Upd [R] W4 (((((((W4.setCell ⟨R, 0, none⟩ (.int .i64 A1)).setCell ⟨R, 1, none⟩ (.int .i64 A2)).setCell ⟨R, 2, none⟩ (.int .i64 A3)).setCell ⟨R, 3, none⟩ (.int .i64 A4)).setCell ⟨R, 4, none⟩ (.int .i64 sh)).setCell ⟨R, 5, none⟩ (.int .i64 A6)).setCell ⟨R, 6, none⟩ (.int .i64 (A6 * tp))) :=
      ((((((Upd.setCell' _ _ _ (by simp)).trans (Upd.setCell' _ _ _ (by simp))).trans (Upd.setCell' _ _ _ (by simp))).trans (Upd.setCell' _ _ _ (by simp))).trans (Upd.setCell' _ _ _ (by simp))).trans (Upd.setCell' _ _ _ (by simp))).trans (Upd.setCell' _ _ _ (by simp))
    obtain ⟨W5, hW5⟩ : ∃ W, (((((((W4.setCell ⟨R, 0, none⟩ (.int .i64 A1)).setCell ⟨R, 1, none⟩ (.int .i64 A2)).setCell ⟨R, 2, none⟩ (.int .i64 A3)).setCell ⟨R, 3, none⟩ (.int .i64 A4)).setCell ⟨R, 4, none⟩ (.int .i64 sh)).setCell ⟨R, 5, none⟩ (.int .i64 A6)).setCell ⟨R, 6, none⟩ (.int .i64 (A6 * tp))) = W := ⟨_, rfl⟩
    rw [hW5] at hf5 hu5
    rw [hW5]
    have t0 := hf5.cell 0 _ rfl
    have t1 := hf5.cell 1 _ rfl
    have t2 := hf5.cell 2 _ rfl
    have t3 := hf5.cell 3 _ rfl
    have t4 := hf5.cell 4 _ rfl
    have t5 := hf5.cell 5 _ rfl
    have t6 := hf5.cell 6 _ rfl
    refine bodyPost_ret (v := .agg #[.int .i64 A1, .int .i64 A2, .int .i64 A3, .int .i64 A4, .int .i64 sh, .int .i64 A6, .int .i64 (A6 * tp)]) (by simp [results, Try.results7, go_sem, t0, t1, t2, t3, t4, t5, t6]) rfl ?_
    refine ⟨by rw [HT.out]; rfl, ?_⟩
    have hu6 : Upd [X, R] W3 W5 := (HR4.out.2.1.mono (by simp)).trans (hu5.mono (by simp))
    have h3 := HBR.out
    exact (h3.2.2.2.below (Nat.le_refl _) (by simp)).trans (hu6.below h3.2.2.2.size (by simp; omega))
end Go.Proofs.Ytfmgcnmikopgeaa
