/- Layer 1: the walk of FixOrder. -/
import Derived.Test.YtphdpdmkoogkkaaFixH
import Derived.Deep.RegionHeld3
import Derived.Deep.DeepCutAuto
namespace Go.Proofs.Ytphdpdmkoogkkaa
open Go.RowKit
/-! The order, in plain integers. -/
theorem frac_lt {a b c d e f : Int} (hb : 1 ≤ b) (hd : 1 ≤ d) (hf : 1 ≤ f) (h1 : a * d ≤ c * b) (h2 : c * f ≤ e * d) : a * f ≤ e * b := by
  have s1 : a * d * f ≤ c * b * f := Int.mul_le_mul_of_nonneg_right h1 (by omega)
  have s2 : c * f * b ≤ e * d * b := Int.mul_le_mul_of_nonneg_right h2 (by omega)
  have e1 : a * d * f = a * f * d := by grind
  have e2 : c * b * f = c * f * b := by grind
  have e3 : e * d * b = e * b * d := by grind
  have : a * f * d ≤ e * b * d := by omega
  exact Int.le_of_mul_le_mul_right this (by omega)
theorem order_trans {a b c d e f : Int} (hb : 1 ≤ b) (hd : 1 ≤ d) (hf : 1 ≤ f) (h1 : cmpZ (a * d) (c * b) ≤ 0) (h2 : cmpZ (c * f) (e * d) ≤ 0) : cmpZ (a * f) (e * b) ≤ 0 :=
  (cmpZ_le _ _).2 (frac_lt hb hd hf ((cmpZ_le _ _).1 h1) ((cmpZ_le _ _).1 h2))
theorem order_eq {a b c d e f : Int} (hb : 1 ≤ b) (hd : 1 ≤ d) (hf : 1 ≤ f) (h1 : cmpZ (a * d) (c * b) = 0) : cmpZ (c * f) (e * d) = cmpZ (a * f) (e * b) := by
  have h := (cmpZ_zero _ _).1 h1
  refine cmpZ_congr ⟨fun k => ?_, fun k => ?_⟩ ⟨fun k => ?_, fun k => ?_⟩
  · rcases Int.lt_or_le (a * f) (e * b) with g | g
    · exact g
    · have := frac_lt (a := e) (b := f) (c := a) (d := b) (e := c) (f := d) hf hb hd g (by omega)
      omega
  · rcases Int.lt_or_le (c * f) (e * d) with g | g
    · exact g
    · have := frac_lt (a := e) (b := f) (c := c) (d := d) (e := a) (f := b) hf hd hb g (by omega)
      omega
  · rcases Int.lt_or_le (e * b) (a * f) with g | g
    · exact g
    · have := frac_lt (a := c) (b := d) (c := a) (d := b) (e := e) (f := f) hd hb hf (by omega) g
      omega
  · rcases Int.lt_or_le (e * d) (c * f) with g | g
    · exact g
    · have := frac_lt (a := a) (b := b) (c := c) (d := d) (e := e) (f := f) hb hd hf (by omega) g
      omega
theorem order_down {a b c d : Int} (hb : 1 ≤ b) (hd : 1 ≤ d) (h1 : cmpZ (a * d) (c * b) ≤ 0) : a / b ≤ c / d := by
  rcases Int.lt_or_le (c / d) (a / b) with g | g
  · have := cmp_whole_gt hb hd g
    omega
  · exact g
theorem order_scale {a b c d m : Int} (hm : 1 ≤ m) : cmpZ (a * m * d) (c * (b * m)) = cmpZ (a * d) (c * b) := by
  have e1 : a * m * d = a * d * m := by grind
  have e2 : c * (b * m) = c * b * m := by grind
  rw [e1, e2]
  refine cmpZ_congr ⟨fun k => Int.lt_of_mul_lt_mul_right k (by omega), fun k => Int.mul_lt_mul_of_pos_right k (by omega)⟩ ⟨fun k => Int.lt_of_mul_lt_mul_right k (by omega), fun k => Int.mul_lt_mul_of_pos_right k (by omega)⟩
/-- The two arrays, in memory of the call's own. -/
structure OrdW (w W : World) (X Y : Nat) (n0 n1 n2 d0 d1 d2 : Int) : Prop where
  x : BlockAt W X 40 [.int .i64 n0, .int .i64 n1, .int .i64 n2]
  y : BlockAt W Y 40 [.int .i64 d0, .int .i64 d1, .int .i64 d2]
  below : Below w.heap.size w W
theorem OrdW.next {w W W' : World} {X Y : Nat} {n0 n1 n2 d0 d1 d2 : Int} (h : OrdW w W X Y n0 n1 n2 d0 d1 d2) (hb : Below W.heap.size W W') : OrdW w W' X Y n0 n1 n2 d0 d1 d2 :=
  ⟨h.x.keep (Upd.ofBelow hb) (by simp), h.y.keep (Upd.ofBelow hb) (by simp), h.below.trans (hb.mono h.below.size)⟩
theorem OrdW.held {w W : World} {X Y : Nat} {n0 n1 n2 d0 d1 d2 : Int} (h : OrdW w W X Y n0 n1 n2 d0 d1 d2) :
    W.cell? ⟨X, 0, none⟩ = some (.int .i64 n0) ∧ W.cell? ⟨X, 1, none⟩ = some (.int .i64 n1) ∧ W.cell? ⟨X, 2, none⟩ = some (.int .i64 n2) ∧ W.cell? ⟨Y, 0, none⟩ = some (.int .i64 d0) ∧ W.cell? ⟨Y, 1, none⟩ = some (.int .i64 d1) ∧ W.cell? ⟨Y, 2, none⟩ = some (.int .i64 d2) ∧ Hid (OrdW w W X Y n0 n1 n2 d0 d1 d2) :=
  ⟨h.x.cell 0 _ rfl, h.x.cell 1 _ rfl, h.x.cell 2 _ rfl, h.y.cell 0 _ rfl, h.y.cell 1 _ rfl, h.y.cell 2 _ rfl, h⟩
theorem ord_held {P : Program} {f : FuncId} {args : Array Value} {w W : World} {X Y : Nat} {n0 n1 n2 d0 d1 d2 : Int} {v : Value} (hc : Calls P f args W fun e w' => e = .returned v ∧ Below W.heap.size W w') (h : Hid (OrdW w W X Y n0 n1 n2 d0 d1 d2)) :
    Calls P f args W fun e W => e = .returned v ∧ W.cell? ⟨X, 0, none⟩ = some (.int .i64 n0) ∧ W.cell? ⟨X, 1, none⟩ = some (.int .i64 n1) ∧ W.cell? ⟨X, 2, none⟩ = some (.int .i64 n2) ∧ W.cell? ⟨Y, 0, none⟩ = some (.int .i64 d0) ∧ W.cell? ⟨Y, 1, none⟩ = some (.int .i64 d1) ∧ W.cell? ⟨Y, 2, none⟩ = some (.int .i64 d2) ∧ Hid (OrdW w W X Y n0 n1 n2 d0 d1 d2) :=
  hc.mono fun _ _ ⟨he, hb⟩ => ⟨he, (h.out.next hb).held⟩
def nomZ (x : Int) : Int := around x 2147483648 - 1073741824
def denZ (x : Int) : Int := 1 + around x 1073741824
set_option maxRecDepth 100000 in
set_option maxHeartbeats 4000000 in
theorem order_walk (l0 l1 l2 l3 l4 l5 k : Int) (w : World) (b0 : -9223372036854775808 ≤ l0 ∧ l0 ≤ 9223372036854775807) (b1 : -9223372036854775808 ≤ l1 ∧ l1 ≤ 9223372036854775807) (b2 : -9223372036854775808 ≤ l2 ∧ l2 ≤ 9223372036854775807) (b3 : -9223372036854775808 ≤ l3 ∧ l3 ≤ 9223372036854775807) (b4 : -9223372036854775808 ≤ l4 ∧ l4 ≤ 9223372036854775807) (b5 : -9223372036854775808 ≤ l5 ∧ l5 ≤ 9223372036854775807) (h1 : -9223372036854775808 ≤ k) (h2 : k ≤ 9223372036854775807) :
    Calls Try.prog 11 #[.agg #[.int .i64 l0, .int .i64 l1, .int .i64 l2, .int .i64 l3, .int .i64 l4, .int .i64 l5], .int .i64 k] w (TruePost w) := by
  have C0 := Lib.hid (fun w => around_any l0 2147483648 w b0.1 b0.2 (by omega))
  have C1 := Lib.hid (fun w => around_any l1 2147483648 w b1.1 b1.2 (by omega))
  have C2 := Lib.hid (fun w => around_any l2 2147483648 w b2.1 b2.2 (by omega))
  have C3 := Lib.hid (fun w => around_any l3 1073741824 w b3.1 b3.2 (by omega))
  have C4 := Lib.hid (fun w => around_any l4 1073741824 w b4.1 b4.2 (by omega))
  have C5 := Lib.hid (fun w => around_any l5 1073741824 w b5.1 b5.2 (by omega))
  have CM := Lib.hid (fun w => around_any k 1000 w h1 h2 (by omega))
  have u0 := around_nonneg l0 2147483648 (by omega)
  have v0 := around_lt l0 2147483648 (by omega)
  have u1 := around_nonneg l1 2147483648 (by omega)
  have v1 := around_lt l1 2147483648 (by omega)
  have u2 := around_nonneg l2 2147483648 (by omega)
  have v2 := around_lt l2 2147483648 (by omega)
  have u3 := around_nonneg l3 1073741824 (by omega)
  have v3 := around_lt l3 1073741824 (by omega)
  have u4 := around_nonneg l4 1073741824 (by omega)
  have v4 := around_lt l4 1073741824 (by omega)
  have u5 := around_nonneg l5 1073741824 (by omega)
  have v5 := around_lt l5 1073741824 (by omega)
  have u6 := around_nonneg k 1000 (by omega)
  have v6 := around_lt k 1000 (by omega)
  obtain ⟨x0, e0⟩ : ∃ z, around l0 2147483648 = z := ⟨_, rfl⟩
  obtain ⟨x1, e1⟩ : ∃ z, around l1 2147483648 = z := ⟨_, rfl⟩
  obtain ⟨x2, e2⟩ : ∃ z, around l2 2147483648 = z := ⟨_, rfl⟩
  obtain ⟨x3, e3⟩ : ∃ z, around l3 1073741824 = z := ⟨_, rfl⟩
  obtain ⟨x4, e4⟩ : ∃ z, around l4 1073741824 = z := ⟨_, rfl⟩
  obtain ⟨x5, e5⟩ : ∃ z, around l5 1073741824 = z := ⟨_, rfl⟩
  obtain ⟨m', e6⟩ : ∃ z, around k 1000 = z := ⟨_, rfl⟩
  rw [e0] at C0 u0 v0
  rw [e1] at C1 u1 v1
  rw [e2] at C2 u2 v2
  rw [e3] at C3 u3 v3
  rw [e4] at C4 u4 v4
  rw [e5] at C5 u5 v5
  rw [e6] at CM u6 v6
  clear b0 b1 b2 b3 b4 b5 e0 e1 e2 e3 e4 e5 e6
  go_enter Try.func11, Try.ntmps11
  go_wp2_with fail
  refine wp_loop_rounds 4 ?_
  rw [rounds_succ]
  go_wp2_with fail
  refine (C0.out _).mono ?_
  rintro e w1 ⟨rfl, rfl⟩
  go_wp2_with fail
  refine (C3.out _).mono ?_
  rintro e w1 ⟨rfl, rfl⟩
  go_wp2_with fail
  rw [rounds_succ]
  go_wp2_with fail
  refine (C1.out _).mono ?_
  rintro e w1 ⟨rfl, rfl⟩
  go_wp2_with fail
  refine (C4.out _).mono ?_
  rintro e w1 ⟨rfl, rfl⟩
  go_wp2_with fail
  rw [rounds_succ]
  go_wp2_with fail
  refine (C2.out _).mono ?_
  rintro e w1 ⟨rfl, rfl⟩
  go_wp2_with fail
  refine (C5.out _).mono ?_
  rintro e w1 ⟨rfl, rfl⟩
  go_wp2_with fail
  rw [rounds_succ]
  obtain ⟨n0, en0⟩ : ∃ z, x0 - 1073741824 = z := ⟨_, rfl⟩
  obtain ⟨n1, en1⟩ : ∃ z, x1 - 1073741824 = z := ⟨_, rfl⟩
  obtain ⟨n2, en2⟩ : ∃ z, x2 - 1073741824 = z := ⟨_, rfl⟩
  obtain ⟨d0, ed0⟩ : ∃ z, 1 + x3 = z := ⟨_, rfl⟩
  obtain ⟨d1, ed1⟩ : ∃ z, 1 + x4 = z := ⟨_, rfl⟩
  obtain ⟨d2, ed2⟩ : ∃ z, 1 + x5 = z := ⟨_, rfl⟩
  rw [en0, en1, en2, ed0, ed1, ed2]
  have r0 : -1073741824 ≤ n0 ∧ n0 ≤ 1073741824 := by omega
  have r1 : -1073741824 ≤ n1 ∧ n1 ≤ 1073741824 := by omega
  have r2 : -1073741824 ≤ n2 ∧ n2 ≤ 1073741824 := by omega
  have s0 : 1 ≤ d0 ∧ d0 ≤ 1073741824 := by omega
  have s1 : 1 ≤ d1 ∧ d1 ≤ 1073741824 := by omega
  have s2 : 1 ≤ d2 ∧ d2 ≤ 1073741824 := by omega
  clear en0 en1 en2 ed0 ed1 ed2 u0 u1 u2 u3 u4 u5 v0 v1 v2 v3 v4 v5 C0 C1 C2 C3 C4 C5
  have HST := Lib.hid (show OrdW w (((w.alloc (.cells #[.int .i64 l0, .int .i64 l1, .int .i64 l2, .int .i64 l3, .int .i64 l4, .int .i64 l5] 39)).alloc (.cells #[.int .i64 n0, .int .i64 n1, .int .i64 n2] 40)).alloc (.cells #[.int .i64 d0, .int .i64 d1, .int .i64 d2] 40)) (w.heap.size + 1) (w.heap.size + 1 + 1) n0 n1 n2 d0 d1 d2 from
    ⟨by simpa using (BlockAt.new (w.alloc (.cells #[.int .i64 l0, .int .i64 l1, .int .i64 l2, .int .i64 l3, .int .i64 l4, .int .i64 l5] 39)) 40 [.int .i64 n0, .int .i64 n1, .int .i64 n2]).alloc (.cells #[.int .i64 d0, .int .i64 d1, .int .i64 d2] 40),
     by simpa using BlockAt.new ((w.alloc (.cells #[.int .i64 l0, .int .i64 l1, .int .i64 l2, .int .i64 l3, .int .i64 l4, .int .i64 l5] 39)).alloc (.cells #[.int .i64 n0, .int .i64 n1, .int .i64 n2] 40)) 40 [.int .i64 d0, .int .i64 d1, .int .i64 d2], (((Below.refl _ _).alloc (Nat.le_refl _) _).alloc (by simp) _).alloc (by simp; omega) _⟩)
  obtain ⟨W0, hW0⟩ : ∃ W, ((w.alloc (.cells #[.int .i64 l0, .int .i64 l1, .int .i64 l2, .int .i64 l3, .int .i64 l4, .int .i64 l5] 39)).alloc (.cells #[.int .i64 n0, .int .i64 n1, .int .i64 n2] 40)).alloc (.cells #[.int .i64 d0, .int .i64 d1, .int .i64 d2] 40) = W := ⟨_, rfl⟩
  obtain ⟨Y, hY⟩ : ∃ Y, w.heap.size + 1 + 1 = Y := ⟨_, rfl⟩
  obtain ⟨X, hX⟩ : ∃ X, w.heap.size + 1 = X := ⟨_, rfl⟩
  rw [hW0, hY, hX] at HST
  rw [hW0, hY, hX]
  clear hW0 hY hX
  obtain ⟨m, em⟩ : ∃ z, 1 + m' = z := ⟨_, rfl⟩
  have m0 : 1 ≤ m ∧ m ≤ 1000 := by omega
  have HM := Lib.hid em
  clear em
  have K1 := Lib.hid (fun w => cmp_any n0 d0 n1 d1 w (by omega) (by omega) (by omega) (by omega) (by omega) (by omega) (by omega) (by omega))
  have K2 := Lib.hid (fun w => cmp_any n1 d1 n0 d0 w (by omega) (by omega) (by omega) (by omega) (by omega) (by omega) (by omega) (by omega))
  have K3 := Lib.hid (fun w => cmp_any n1 d1 n2 d2 w (by omega) (by omega) (by omega) (by omega) (by omega) (by omega) (by omega) (by omega))
  have K4 := Lib.hid (fun w => cmp_any n0 d0 n2 d2 w (by omega) (by omega) (by omega) (by omega) (by omega) (by omega) (by omega) (by omega))
  have K5 := Lib.hid (fun w => cmp_any n0 1 n1 1 w (by omega) (by omega) (by omega) (by omega) (by omega) (by omega) (by omega) (by omega))
  have D1 := Lib.hid (fun w => down_any n0 d0 w (by omega) (by omega) (by omega) (by omega))
  have D2 := Lib.hid (fun w => down_any n1 d1 w (by omega) (by omega) (by omega) (by omega))
  have hnm1 : n0 * m ≤ 1073741824 * 1000 := by
    rcases Int.le_total 0 n0 with h | h
    · exact Int.mul_le_mul (by omega) (by omega) (by omega) (by omega)
    · have := Int.mul_nonneg (show 0 ≤ -n0 by omega) (show 0 ≤ m by omega)
      rw [Int.neg_mul] at this; omega
  have hnm2 : -(1073741824 * 1000) ≤ n0 * m := by
    rcases Int.le_total 0 n0 with h | h
    · have := Int.mul_nonneg h (show 0 ≤ m by omega); omega
    · have : -n0 * m ≤ 1073741824 * 1000 := Int.mul_le_mul (by omega) (by omega) (by omega) (by omega)
      rw [Int.neg_mul] at this; omega
  have hdm1 : d0 * m ≤ 1073741824 * 1000 := Int.mul_le_mul (by omega) (by omega) (by omega) (by omega)
  have hdm0 : 1 * 1 ≤ d0 * m := Int.mul_le_mul (by omega) (by omega) (by omega) (by omega)
  have K6 := Lib.hid (fun w => cmp_any (n0 * m) (d0 * m) n1 d1 w (by omega) (by omega) (by omega) (by omega) (by omega) (by omega) (by omega) (by omega))
  rw [order_scale (by omega)] at K6
  have hba := cmpZ_neg (n1 * d0) (n0 * d1)
  have htr := order_trans (a := n0) (b := d0) (c := n1) (d := d1) (e := n2) (f := d2) s0.1 s1.1 s2.1
  have heq := order_eq (a := n0) (b := d0) (c := n1) (d := d1) (e := n2) (f := d2) s0.1 s1.1 s2.1
  have hdn := order_down (a := n0) (b := d0) (c := n1) (d := d1) s0.1 s1.1
  have hlt5 := cmpZ_lt (n0 * 1) (n1 * 1)
  rw [Int.mul_one, Int.mul_one] at hlt5
  rw [Int.mul_one, Int.mul_one] at K5
  rw [hba] at K2
  obtain ⟨AB, eAB⟩ : ∃ z, cmpZ (n0 * d1) (n1 * d0) = z := ⟨_, rfl⟩
  obtain ⟨BC, eBC⟩ : ∃ z, cmpZ (n1 * d2) (n2 * d1) = z := ⟨_, rfl⟩
  obtain ⟨AC, eAC⟩ : ∃ z, cmpZ (n0 * d2) (n2 * d0) = z := ⟨_, rfl⟩
  obtain ⟨AO, eAO⟩ : ∃ z, cmpZ n0 n1 = z := ⟨_, rfl⟩
  obtain ⟨DA, eDA⟩ : ∃ z, n0 / d0 = z := ⟨_, rfl⟩
  obtain ⟨DB, eDB⟩ : ∃ z, n1 / d1 = z := ⟨_, rfl⟩
  rw [eAB] at K1 K2 K6 htr heq hdn
  rw [eBC] at K3 htr heq
  rw [eAC] at K4 htr heq
  rw [eAO] at K5 hlt5
  rw [eDA] at D1 hdn
  rw [eDB] at D2 hdn
  obtain ⟨NM, eNM⟩ : ∃ z, n0 * m = z := ⟨_, rfl⟩
  obtain ⟨DM, eDM⟩ : ∃ z, d0 * m = z := ⟨_, rfl⟩
  rw [eNM] at K6 hnm1 hnm2
  rw [eDM] at K6 hdm1 hdm0
  have v1 : IntKind.i64.wrap (n0 * m) = NM := by rw [eNM]; exact IntWalk.i64_in _ (by omega)
  have v2 : IntKind.i64.wrap (d0 * m) = DM := by rw [eDM]; exact IntWalk.i64_in _ (by omega)
  have HEM := Lib.hid (And.intro eNM eDM)
  have rAB := cmpZ_range (n0 * d1) (n1 * d0)
  rw [eAB] at rAB
  have HF := Lib.hid (And.intro htr (And.intro heq (And.intro hdn hlt5)))
  obtain ⟨r00, r01⟩ := r0
  obtain ⟨r10, r11⟩ := r1
  obtain ⟨m00, m01⟩ := m0
  have g1 : -1 ≤ AB := by omega
  have g2 : AB ≤ 1 := by omega
  clear hba htr heq hdn hlt5 eAB eBC eAC eAO eDA eDB eNM eDM rAB hnm1 hnm2 hdm1 hdm0 r2 s0 s1 s2
  obtain ⟨c0, c1, c2, c3, c4, c5, -⟩ := HST.out.held
  go_wp2_with fail
  refine (K1.out _).mono ?_
  rintro e w1 ⟨rfl, hb⟩
  have HW1 := Lib.hid (HST.out.next hb)
  clear hb c0 c1 c2 c3 c4 c5
  obtain ⟨c0, c1, c2, c3, c4, c5, -⟩ := HW1.out.held
  go_wp2_with fail
  refine (K2.out _).mono ?_
  rintro e w2 ⟨rfl, hb⟩
  have HW2 := Lib.hid (HW1.out.next hb)
  clear hb c0 c1 c2 c3 c4 c5
  obtain ⟨c0, c1, c2, c3, c4, c5, -⟩ := HW2.out.held
  go_wp2_with fail
  refine (K3.out _).mono ?_
  rintro e w3 ⟨rfl, hb⟩
  have HW3 := Lib.hid (HW2.out.next hb)
  clear hb c0 c1 c2 c3 c4 c5
  obtain ⟨c0, c1, c2, c3, c4, c5, -⟩ := HW3.out.held
  go_wp2_with fail
  refine (K4.out _).mono ?_
  rintro e w4 ⟨rfl, hb⟩
  have HW4 := Lib.hid (HW3.out.next hb)
  clear hb c0 c1 c2 c3 c4 c5
  obtain ⟨c0, c1, c2, c3, c4, c5, c6⟩ := HW4.out.held
  clear c6
  go_upto_region 12 with fail
  go_cut [92] (fun s wx => s = .bool false ∧ wx = w4)
  case first =>
    have hcase : (0 < AB) ∨ (AB ≤ 0 ∧ AB ≠ 0 ∧ 0 < BC) ∨ (AB ≤ 0 ∧ AB ≠ 0 ∧ BC ≤ 0) ∨ (AB = 0 ∧ 0 < BC) ∨ (AB = 0 ∧ BC ≤ 0) := by omega
    rcases hcase with hab | ⟨hab, hab0, hbc⟩ | ⟨hab, hab0, hbc⟩ | ⟨hab0, hbc⟩ | ⟨hab0, hbc⟩
    · have i1 : ¬ AB ≤ 0 := by omega
      have i2 : (AB == 0) = false := by simp; omega
      go_wp2_with fail
      go_meet
      exact ⟨rfl, rfl⟩
    · have i2 : (AB == 0) = false := by simp; omega
      have i4 : ¬ BC ≤ 0 := by omega
      clear hab0
      go_wp2_with fail
      go_meet
      exact ⟨rfl, rfl⟩
    · have i2 : (AB == 0) = false := by simp; omega
      have i4 : AC ≤ 0 := HF.out.1 hab hbc
      have i6 : ¬ 0 < AC := by omega
      clear hab0
      go_wp2_with fail
      go_meet
      exact ⟨rfl, rfl⟩
    · have i7 : BC = AC := HF.out.2.1 hab0
      subst hab0 i7
      have i4 : ¬ BC ≤ 0 := by omega
      go_wp2_with fail
      go_meet
      exact ⟨rfl, rfl⟩
    · have i7 : BC = AC := HF.out.2.1 hab0
      subst hab0 i7
      have i6 : ¬ 0 < BC := by omega
      go_wp2_with fail
      go_meet
      exact ⟨rfl, rfl⟩
  case rest =>
    obtain ⟨rfl, rfl⟩ := hcut
    go_upto_region 14 with fail
    go_cut [107] (fun s wx => s = .bool false ∧ Hid (OrdW w wx X Y n0 n1 n2 d0 d1 d2))
    case first =>
      by_cases hab : AB ≤ 0
      · have i3 : decide (AB ≤ 0) = true := by simpa using hab
        have i5 : DA ≤ DB := HF.out.2.2.1 hab
        have i6 : decide (DB < DA) = false := by simp; omega
        have i7 : decide (DA > DB) = false := by simp; omega
        go_quiet ((go_at_call 20; (first | (with_reducible exact quietSame (D1.out _)) | (with_reducible exact quietSame (D2.out _)))))
        go_wp2_with fail
        go_meet
        exact ⟨rfl, HW4.out.next (Upd.below (Upd.drewN [] _ _) (Nat.le_refl _) (by simp))⟩
      · have i3 : decide (AB ≤ 0) = false := by simpa using hab
        go_quiet (fail)
        go_wp2_with fail
        go_meet
        exact ⟨rfl, HW4.out.next (Upd.below (Upd.drewN [] _ _) (Nat.le_refl _) (by simp))⟩
    case rest =>
      obtain ⟨rfl, HWQ⟩ := hcut
      clear c0 c1 c2 c3 c4 c5
      obtain ⟨c0, c1, c2, c3, c4, c5, -⟩ := HWQ.out.held
      go_wp2_with fail
      refine (CM.out _).mono ?_
      rintro e w5 ⟨rfl, rfl⟩
      have hM := HM.out
      have L6 := Lib.hid (fun W (h : Hid (OrdW w W X Y n0 n1 n2 d0 d1 d2)) => ord_held (K6.out W) h)
      have L5 := Lib.hid (fun W (h : Hid (OrdW w W X Y n0 n1 n2 d0 d1 d2)) => ord_held (K5.out W) h)
      have L7 := Lib.hid (fun W (h : Hid (OrdW w W X Y n0 n1 n2 d0 d1 d2)) => ord_held (lives_any W) h)
      obtain ⟨k0, k1, k2, k3, k4, k5, k6⟩ := (HWQ.out.next (Upd.below (Upd.drew [] _) (Nat.le_refl _) (by simp))).held
      obtain ⟨Bq, q1, q2⟩ : ∃ Bq : Bool, decide (AO < 0) = Bq ∧ decide (n0 < n1) = Bq := by
        refine ⟨decide (n0 < n1), ?_, rfl⟩
        have := HF.out.2.2.2
        exact decide_eq_decide.2 this
      go_wp2_with fail
      clear hM
      go_region_held3 (fun W => W.cell? ⟨X, 0, none⟩ = some (.int .i64 n0) ∧ W.cell? ⟨X, 1, none⟩ = some (.int .i64 n1) ∧ W.cell? ⟨X, 2, none⟩ = some (.int .i64 n2) ∧ W.cell? ⟨Y, 0, none⟩ = some (.int .i64 d0) ∧ W.cell? ⟨Y, 1, none⟩ = some (.int .i64 d1) ∧ W.cell? ⟨Y, 2, none⟩ = some (.int .i64 d2) ∧ Hid (OrdW w W X Y n0 n1 n2 d0 d1 d2))
        (first | go_keep | exact ⟨k0, k1, k2, k3, k4, k5, k6⟩ | exact ⟨by assumption, by assumption, by assumption, by assumption, by assumption, by assumption, by assumption⟩)
        (first
          | (go_at_call 32; (first | (with_reducible refine (L6.out _ (by assumption)).mono ?_) | (with_reducible refine (L5.out _ (by assumption)).mono ?_)); rintro e w' ⟨rfl, e0, e1, e2, e3, e4, e5, e6⟩)
          | (go_at_call 15; refine (L7.out _ (by assumption)).mono ?_; rintro e w' ⟨rfl, e0, e1, e2, e3, e4, e5, e6⟩))
      all_goals go_wp2
      all_goals go_ret
      all_goals exact ⟨rfl, e6.out.below⟩
end Go.Proofs.Ytphdpdmkoogkkaa
