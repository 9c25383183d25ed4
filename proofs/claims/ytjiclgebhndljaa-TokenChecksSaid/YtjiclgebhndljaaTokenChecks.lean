/- Layer 19: the walk of TokenChecks. -/
import Derived.Test.YtjiclgebhndljaaTokenD
import Derived.Deep.RegionHeld3
namespace Go.Proofs.Ytjiclgebhndljaa
open Go.RowKit
def chkB (p o b : Int) : Prop := p < 0 ∨ 100 < p ∨ o < 1 ∨ 100 < o ∨ b < 0 ∨ 100 < b
instance (p o b : Int) : Decidable (chkB p o b) := by unfold chkB; infer_instance
def chkI (p o b : Int) : Int := if chkB p o b then 16 else 0
theorem chk_any (p o b : Int) (w : World) : Calls Try.prog 17 #[.agg #[.int .i64 p, .int .i64 o, .int .i64 b]] w fun e w' => e = .returned (.int .i64 (chkI p o b)) ∧ Below w.heap.size w w' := by
  have hy : chkI p o b = 16 ∧ chkB p o b ∨ chkI p o b = 0 ∧ ¬ chkB p o b := by unfold chkI; by_cases h : chkB p o b <;> simp [h]
  have HB : ∀ o', Below w.heap.size w (w.alloc o') := fun o' => (Below.refl _ _).alloc (Nat.le_refl _) _
  have HBB := Lib.hid HB
  clear HB
  rcases hy with ⟨he, hc⟩ | ⟨he, hc⟩
  · rw [he]
    have HC := Lib.hid hc
    clear he hc
    go_enter Try.func17, Try.ntmps17
    go_wp2
    all_goals first
      | (go_ret; exact ⟨rfl, HBB.out _⟩)
      | (exfalso; have := HC.out; unfold chkB at this; omega)
  · rw [he]
    unfold chkB at hc
    have k1 : ¬ p < 0 := by omega
    have k2 : ¬ 100 < p := by omega
    have k3 : ¬ o < 1 := by omega
    have k4 : ¬ 100 < o := by omega
    have k5 : ¬ b < 0 := by omega
    have k6 : ¬ 100 < b := by omega
    clear hc he
    go_enter Try.func17, Try.ntmps17
    go_wp2
    go_ret
    exact ⟨rfl, HBB.out _⟩
theorem rchk_any (p o b : Int) (w : World) : Calls Try.prog 18 #[.agg #[.int .i64 p, .int .i64 o, .int .i64 b]] w fun e w' => e = .returned (.int .i64 (chkI p o b)) ∧ Below w.heap.size w w' := by
  have hy : chkI p o b = 16 ∧ chkB p o b ∨ chkI p o b = 0 ∧ ¬ chkB p o b := by unfold chkI; by_cases h : chkB p o b <;> simp [h]
  have HB : ∀ o', Below w.heap.size w (w.alloc o') := fun o' => (Below.refl _ _).alloc (Nat.le_refl _) _
  have HBB := Lib.hid HB
  clear HB
  rcases hy with ⟨he, hc⟩ | ⟨he, hc⟩
  · rw [he]
    have HC := Lib.hid hc
    clear he hc
    go_enter Try.func18, Try.ntmps18
    go_wp2
    all_goals first
      | (go_ret; exact ⟨rfl, HBB.out _⟩)
      | (exfalso; have := HC.out; unfold chkB at this; omega)
  · rw [he]
    unfold chkB at hc
    have k1 : ¬ p < 0 := by omega
    have k2 : ¬ 100 < p := by omega
    have k3 : ¬ o < 1 := by omega
    have k4 : ¬ 100 < o := by omega
    have k5 : ¬ b < 0 := by omega
    have k6 : ¬ 100 < b := by omega
    clear hc he
    go_enter Try.func18, Try.ntmps18
    go_wp2
    go_ret
    exact ⟨rfl, HBB.out _⟩
structure ChkW (w W : World) (X Y Z : Nat) (r0 r1 r2 y0 y1 y2 z0 z1 z2 : Int) : Prop where
  x : BudAt W X r0 r1 r2
  y : BudAt W Y y0 y1 y2
  z : BudAt W Z z0 z1 z2
  below : Below w.heap.size w W
theorem ChkW.next {w W W' : World} {X Y Z : Nat} {r0 r1 r2 y0 y1 y2 z0 z1 z2 : Int} (h : ChkW w W X Y Z r0 r1 r2 y0 y1 y2 z0 z1 z2) (hb : Below W.heap.size W W') : ChkW w W' X Y Z r0 r1 r2 y0 y1 y2 z0 z1 z2 :=
  ⟨h.x.keep (Upd.ofBelow hb) (by simp), h.y.keep (Upd.ofBelow hb) (by simp), h.z.keep (Upd.ofBelow hb) (by simp), h.below.trans (hb.mono h.below.size)⟩
theorem ChkW.held {w W : World} {X Y Z : Nat} {r0 r1 r2 y0 y1 y2 z0 z1 z2 : Int} (h : ChkW w W X Y Z r0 r1 r2 y0 y1 y2 z0 z1 z2) :
    W.cell? ⟨X, 0, none⟩ = some (.int .i64 r0) ∧ W.cell? ⟨X, 1, none⟩ = some (.int .i64 r1) ∧ W.cell? ⟨X, 2, none⟩ = some (.int .i64 r2) ∧ W.cell? ⟨Y, 0, none⟩ = some (.int .i64 y0) ∧ W.cell? ⟨Y, 1, none⟩ = some (.int .i64 y1) ∧ W.cell? ⟨Y, 2, none⟩ = some (.int .i64 y2) ∧ W.cell? ⟨Z, 0, none⟩ = some (.int .i64 z0) ∧ W.cell? ⟨Z, 1, none⟩ = some (.int .i64 z1) ∧ W.cell? ⟨Z, 2, none⟩ = some (.int .i64 z2) ∧ Hid (ChkW w W X Y Z r0 r1 r2 y0 y1 y2 z0 z1 z2) := by
  have hx := h.x
  have hy := h.y
  have hz := h.z
  exact ⟨BlockAt.cell (w := W) hx 0 _ rfl, BlockAt.cell (w := W) hx 1 _ rfl, BlockAt.cell (w := W) hx 2 _ rfl, BlockAt.cell (w := W) hy 0 _ rfl, BlockAt.cell (w := W) hy 1 _ rfl, BlockAt.cell (w := W) hy 2 _ rfl, BlockAt.cell (w := W) hz 0 _ rfl, BlockAt.cell (w := W) hz 1 _ rfl, BlockAt.cell (w := W) hz 2 _ rfl, h⟩
theorem chk_held {P : Program} {f : FuncId} {args : Array Value} {w W : World} {X Y Z : Nat} {r0 r1 r2 y0 y1 y2 z0 z1 z2 : Int} {v : Value} (hc : Calls P f args W fun e w' => e = .returned v ∧ Below W.heap.size W w') (h : Hid (ChkW w W X Y Z r0 r1 r2 y0 y1 y2 z0 z1 z2)) :
    Calls P f args W fun e W => e = .returned v ∧ W.cell? ⟨X, 0, none⟩ = some (.int .i64 r0) ∧ W.cell? ⟨X, 1, none⟩ = some (.int .i64 r1) ∧ W.cell? ⟨X, 2, none⟩ = some (.int .i64 r2) ∧ W.cell? ⟨Y, 0, none⟩ = some (.int .i64 y0) ∧ W.cell? ⟨Y, 1, none⟩ = some (.int .i64 y1) ∧ W.cell? ⟨Y, 2, none⟩ = some (.int .i64 y2) ∧ W.cell? ⟨Z, 0, none⟩ = some (.int .i64 z0) ∧ W.cell? ⟨Z, 1, none⟩ = some (.int .i64 z1) ∧ W.cell? ⟨Z, 2, none⟩ = some (.int .i64 z2) ∧ Hid (ChkW w W X Y Z r0 r1 r2 y0 y1 y2 z0 z1 z2) :=
  hc.mono fun _ _ ⟨he, hb⟩ => ⟨he, (h.out.next hb).held⟩
theorem near_cell (w : World) (k : Nat) (hk : k < 5) : ∃ z : Int, -1 ≤ z ∧ z ≤ 101 ∧ (w.alloc (.cells #[.int .i64 (-1), .int .i64 0, .int .i64 1, .int .i64 100, .int .i64 101] 3)).cell? ⟨w.heap.size, k, none⟩ = some (.int .i64 z) := by
  have hb := BlockAt.new w 3 [.int .i64 (-1), .int .i64 0, .int .i64 1, .int .i64 100, .int .i64 101]
  rcases (show k = 0 ∨ k = 1 ∨ k = 2 ∨ k = 3 ∨ k = 4 by omega) with rfl | rfl | rfl | rfl | rfl
  · exact ⟨-1, by omega, by omega, hb.cell 0 _ rfl⟩
  · exact ⟨0, by omega, by omega, hb.cell 1 _ rfl⟩
  · exact ⟨1, by omega, by omega, hb.cell 2 _ rfl⟩
  · exact ⟨100, by omega, by omega, hb.cell 3 _ rfl⟩
  · exact ⟨101, by omega, by omega, hb.cell 4 _ rfl⟩
set_option maxHeartbeats 2000000 in
theorem checks_walk (r0 r1 r2 n which calls : Int) (w : World) (h1 : -9223372036854775808 ≤ n) (h2 : n ≤ 9223372036854775807) (h3 : -9223372036854775808 ≤ which) (h4 : which ≤ 9223372036854775807) (h5 : -9223372036854775808 ≤ calls) (h6 : calls ≤ 9223372036854775807) :
    Calls Try.prog 6 #[.agg #[.int .i64 r0, .int .i64 r1, .int .i64 r2], .int .i64 n, .int .i64 which, .int .i64 calls] w (TruePost w) := by
  have hb0 : Below w.heap.size w (w.alloc (.cells #[.int .i64 r0, .int .i64 r1, .int .i64 r2] 24)) := (Below.refl _ _).alloc (Nat.le_refl _) _
  have HX0 := Lib.hid (show BudAt (w.alloc (.cells #[.int .i64 r0, .int .i64 r1, .int .i64 r2] 24)) w.heap.size r0 r1 r2 from BlockAt.new w 24 [.int .i64 r0, .int .i64 r1, .int .i64 r2])
  have HB0 := Lib.hid hb0
  clear hb0
  have u0 := around_nonneg n 5 (by omega)
  have u1 := around_lt n 5 (by omega)
  obtain ⟨k, hk⟩ : ∃ k : Nat, around n 5 = (k : Int) := ⟨(around n 5).toNat, by omega⟩
  have hk5 : k < 5 := by omega
  have HK := Lib.hid hk
  clear u0 u1 hk
  have q0 := around_nonneg which 3 (by omega)
  have q1 := around_lt which 3 (by omega)
  obtain ⟨sw, hsw⟩ : ∃ k : Int, around which 3 = k := ⟨_, rfl⟩
  have HSW := Lib.hid hsw
  rw [hsw] at q0 q1
  clear hsw
  have c0 := around_nonneg calls 2147483648 (by omega)
  have c1 := around_lt calls 2147483648 (by omega)
  obtain ⟨C, hC⟩ : ∃ k : Int, around calls 2147483648 = k := ⟨_, rfl⟩
  have HC := Lib.hid hC
  rw [hC] at c0 c1
  clear hC
  go_enter Try.func6, Try.ntmps6
  go_wp2_with fail
  refine (budget_any n _ h1 h2).mono ?_
  rintro e w1 ⟨⟨p, o, B, rfl, hok0⟩, hb⟩
  have HX1 := Lib.hid ((HX0.out.keep (Upd.ofBelow hb) (by simp)).keep (Upd.alloc [] w1 (.cells #[.int .i64 p, .int .i64 o, .int .i64 B] 24)) (by simp))
  have HY1 := Lib.hid (show BudAt (w1.alloc (.cells #[.int .i64 p, .int .i64 o, .int .i64 B] 24)) w1.heap.size p o B from BlockAt.new w1 24 [.int .i64 p, .int .i64 o, .int .i64 B])
  have hbb := HB0.out.trans (hb.mono HB0.out.size)
  have HB1 := Lib.hid (hbb.alloc hbb.size (.cells #[.int .i64 p, .int .i64 o, .int .i64 B] 24))
  have HWY := Lib.hid (show w.heap.size < w1.heap.size by have := hb.size; simp at this; omega)
  clear hb hbb HX0 HB0
  unfold bud
  obtain ⟨w2, hw2⟩ : ∃ w2, w1.alloc (.cells #[.int .i64 p, .int .i64 o, .int .i64 B] 24) = w2 := ⟨_, rfl⟩
  obtain ⟨Y, hY⟩ : ∃ Y, w1.heap.size = Y := ⟨_, rfl⟩
  obtain ⟨X, hX⟩ : ∃ X, w.heap.size = X := ⟨_, rfl⟩
  rw [hw2] at HX1 HY1 HB1
  rw [hY] at HY1 HWY
  rw [hX] at HX1 HWY
  obtain ⟨z, zl, zh, zc⟩ := near_cell w2 k hk5
  go_wp2_with fail
  refine (around_any n 5 _ h1 h2 (by omega)).mono ?_
  rintro e w' ⟨rfl, rfl⟩
  rw [show around n 5 = k from HK.out]
  have HX2 := Lib.hid (HX1.out.keep (Upd.alloc [] w2 (.cells #[.int .i64 (-1), .int .i64 0, .int .i64 1, .int .i64 100, .int .i64 101] 3)) (by simp))
  have HY2 := Lib.hid (HY1.out.keep (Upd.alloc [] w2 (.cells #[.int .i64 (-1), .int .i64 0, .int .i64 1, .int .i64 100, .int .i64 101] 3)) (by simp))
  have HB2 := Lib.hid (HB1.out.alloc HB1.out.size (.cells #[.int .i64 (-1), .int .i64 0, .int .i64 1, .int .i64 100, .int .i64 101] 3))
  have HwY := Lib.hid (show w.heap.size ≤ Y by have := HWY.out; omega)
  have hk50 : (0 : Int) ≤ (k : Int) := by omega
  have hk51 : (k : Int) < 5 := by omega
  clear hw2 hY hX HX1 HY1 HB1
  go_wp2_with fail
  refine (around_any which 3 _ h3 h4 (by omega)).mono ?_
  rintro e w' ⟨rfl, rfl⟩
  rw [show around which 3 = sw from HSW.out]
  clear zc hk50 hk51 hk5 HK
  obtain ⟨w3, hw3⟩ : ∃ w3, w2.alloc (.cells #[.int .i64 (-1), .int .i64 0, .int .i64 1, .int .i64 100, .int .i64 101] 3) = w3 := ⟨_, rfl⟩
  rw [hw3] at HX2 HY2 HB2 ⊢
  clear hw3
  have HA : ∀ (y0 y1 y2 : Int) (W : World), Hid (BudAt W Y y0 y1 y2) → Hid (BudAt W X r0 r1 r2) → Hid (Below w.heap.size w W) → True := fun _ _ _ _ _ _ _ => trivial
  clear HA
  have f0 := BlockAt.free (w := w3) HY2.out 0
  have f1 := BlockAt.free (w := w3) HY2.out 1
  have f2 := BlockAt.free (w := w3) HY2.out 2
  have g0 := BlockAt.cell (w := w3) HY2.out 0 _ rfl
  have g1 := BlockAt.cell (w := w3) HY2.out 1 _ rfl
  have g2 := BlockAt.cell (w := w3) HY2.out 2 _ rfl
  have HXY := Lib.hid (show X ≠ Y by have := HWY.out; omega)
  rcases (show sw = 0 ∨ sw = 1 ∨ sw = 2 by omega) with rfl | rfl | rfl
  · go_wp2_with fail
    refine (budget_any n _ h1 h2).mono ?_
    rintro e w4 ⟨⟨z0, z1, z2, rfl, hok⟩, hb⟩
    unfold bud
    have HX3 := Lib.hid ((HX2.out.keep (Upd.setCell w3 ⟨Y, 0, none⟩ (.int .i64 z)) (by simp; exact HXY.out)).keep (Upd.ofBelow hb) (by simp))
    have HY3 := Lib.hid (BudAt.keep (p := z) (o := o) (b := B) (BlockAt.set HY2.out 0 (.int .i64 z)) (Upd.ofBelow hb) (by simp))
    have hb3 := (HB2.out.trans ((Upd.setCell w3 ⟨Y, 0, none⟩ (.int .i64 z)).below HB2.out.size (by simp; exact HwY.out)))
    have HB3 := Lib.hid (hb3.trans (hb.mono hb3.size))
    obtain ⟨y0, hy0⟩ : ∃ y, z = y := ⟨_, rfl⟩
    obtain ⟨y1, hy1⟩ : ∃ y, o = y := ⟨_, rfl⟩
    obtain ⟨y2, hy2⟩ : ∃ y, B = y := ⟨_, rfl⟩
    rw [hy0, hy1, hy2] at HY3
    clear hb hb3 f0 f1 f2 g0 g1 g2 hy0 hy1 hy2 HX2 HY2 HB2
    have HW := Lib.hid (show ChkW w (w4.alloc (.cells #[.int .i64 z0, .int .i64 z1, .int .i64 z2] 24)) X Y w4.heap.size r0 r1 r2 y0 y1 y2 z0 z1 z2 from
      ⟨HX3.out.keep (Upd.alloc [] w4 _) (by simp), HY3.out.keep (Upd.alloc [] w4 _) (by simp), BlockAt.new w4 24 [.int .i64 z0, .int .i64 z1, .int .i64 z2], HB3.out.alloc HB3.out.size _⟩)
    clear HX3 HY3 HB3
    go_wp2_with fail
    refine (around_any calls 2147483648 _ h5 h6 (by omega)).mono ?_
    rintro e w' ⟨rfl, rfl⟩
    rw [show around calls 2147483648 = C from HC.out]
    obtain ⟨w5, hw5⟩ : ∃ w5, w4.alloc (.cells #[.int .i64 z0, .int .i64 z1, .int .i64 z2] 24) = w5 := ⟨_, rfl⟩
    obtain ⟨Z, hZ⟩ : ∃ Z, w4.heap.size = Z := ⟨_, rfl⟩
    rw [hw5, hZ] at HW
    rw [hw5, hZ]
    clear hw5 hZ
    have hz : chkI z0 z1 z2 = 0 := by
      obtain ⟨a0, a1, a2, a3, a4, a5⟩ := hok
      unfold chkI
      rw [if_neg (by unfold chkB; omega)]
    have K1 := Lib.hid (fun (W : World) (h : Hid (ChkW w W X Y Z r0 r1 r2 y0 y1 y2 z0 z1 z2)) => chk_held (chk_any r0 r1 r2 W) h)
    have K2 := Lib.hid (fun (W : World) (h : Hid (ChkW w W X Y Z r0 r1 r2 y0 y1 y2 z0 z1 z2)) => chk_held (rchk_any r0 r1 r2 W) h)
    have K3 := Lib.hid (fun (W : World) (h : Hid (ChkW w W X Y Z r0 r1 r2 y0 y1 y2 z0 z1 z2)) => chk_held (chk_any y0 y1 y2 W) h)
    have K4 := Lib.hid (fun (W : World) (h : Hid (ChkW w W X Y Z r0 r1 r2 y0 y1 y2 z0 z1 z2)) => chk_held (rchk_any y0 y1 y2 W) h)
    have K5 := Lib.hid (fun (W : World) (h : Hid (ChkW w W X Y Z r0 r1 r2 y0 y1 y2 z0 z1 z2)) => chk_held (chk_any z0 z1 z2 W) h)
    have K6 := Lib.hid (fun (W : World) (h : Hid (ChkW w W X Y Z r0 r1 r2 y0 y1 y2 z0 z1 z2)) => chk_held (most_any z0 z1 z2 C hok W c0 (by omega)) h)
    have K7 := Lib.hid (fun (W : World) (h : Hid (ChkW w W X Y Z r0 r1 r2 y0 y1 y2 z0 z1 z2)) => chk_held (rmost_any z0 z1 z2 C hok W c0 (by omega)) h)
    have K8 := Lib.hid (fun (W : World) (h : Hid (ChkW w W X Y Z r0 r1 r2 y0 y1 y2 z0 z1 z2)) => chk_held (lives_any W) h)
    rw [hz] at K5
    unfold bud at K6 K7
    obtain ⟨E1, hE1⟩ : ∃ E, chkI r0 r1 r2 = E := ⟨_, rfl⟩
    obtain ⟨E2, hE2⟩ : ∃ E, chkI y0 y1 y2 = E := ⟨_, rfl⟩
    obtain ⟨MO, hMO⟩ : ∃ E, mostOf z0 z1 z2 C = E := ⟨_, rfl⟩
    rw [hE1] at K1 K2
    rw [hE2] at K3 K4
    rw [hMO] at K6 K7
    clear hE1 hE2 hMO hz
    obtain ⟨d0, d1, d2, d3, d4, d5, d6, d7, d8, d9⟩ := (HW.out.next (Upd.below (Upd.drew [] w5) (Nat.le_refl _) (by simp))).held
    clear hok HW
    go_wp2_with fail
    go_region_held3 (fun W => W.cell? ⟨X, 0, none⟩ = some (.int .i64 r0) ∧ W.cell? ⟨X, 1, none⟩ = some (.int .i64 r1) ∧ W.cell? ⟨X, 2, none⟩ = some (.int .i64 r2) ∧ W.cell? ⟨Y, 0, none⟩ = some (.int .i64 y0) ∧ W.cell? ⟨Y, 1, none⟩ = some (.int .i64 y1) ∧ W.cell? ⟨Y, 2, none⟩ = some (.int .i64 y2) ∧ W.cell? ⟨Z, 0, none⟩ = some (.int .i64 z0) ∧ W.cell? ⟨Z, 1, none⟩ = some (.int .i64 z1) ∧ W.cell? ⟨Z, 2, none⟩ = some (.int .i64 z2) ∧ Hid (ChkW w W X Y Z r0 r1 r2 y0 y1 y2 z0 z1 z2))
      (first | go_keep | exact ⟨d0, d1, d2, d3, d4, d5, d6, d7, d8, d9⟩ | exact ⟨by assumption, by assumption, by assumption, by assumption, by assumption, by assumption, by assumption, by assumption, by assumption, by assumption⟩)
      (first
        | (go_at_call 17; (first | (with_reducible refine (K1.out _ (by assumption)).mono ?_) | (with_reducible refine (K3.out _ (by assumption)).mono ?_) | (with_reducible refine (K5.out _ (by assumption)).mono ?_)); rintro e w' ⟨rfl, e0, e1, e2, e3, e4, e5, e6, e7, e8, e9⟩)
        | (go_at_call 18; (first | (with_reducible refine (K2.out _ (by assumption)).mono ?_) | (with_reducible refine (K4.out _ (by assumption)).mono ?_)); rintro e w' ⟨rfl, e0, e1, e2, e3, e4, e5, e6, e7, e8, e9⟩)
        | (go_at_call 15; refine (K6.out _ (by assumption)).mono ?_; rintro e w' ⟨rfl, e0, e1, e2, e3, e4, e5, e6, e7, e8, e9⟩)
        | (go_at_call 19; refine (K7.out _ (by assumption)).mono ?_; rintro e w' ⟨rfl, e0, e1, e2, e3, e4, e5, e6, e7, e8, e9⟩)
        | (go_at_call 16; refine (K8.out _ (by assumption)).mono ?_; rintro e w' ⟨rfl, e0, e1, e2, e3, e4, e5, e6, e7, e8, e9⟩))
    all_goals go_wp2
    all_goals go_ret
    all_goals exact ⟨rfl, e9.out.below⟩
  · go_wp2_with fail
    refine (budget_any n _ h1 h2).mono ?_
    rintro e w4 ⟨⟨z0, z1, z2, rfl, hok⟩, hb⟩
    unfold bud
    have HX3 := Lib.hid ((HX2.out.keep (Upd.setCell w3 ⟨Y, 1, none⟩ (.int .i64 z)) (by simp; exact HXY.out)).keep (Upd.ofBelow hb) (by simp))
    have HY3 := Lib.hid (BudAt.keep (p := p) (o := z) (b := B) (BlockAt.set HY2.out 1 (.int .i64 z)) (Upd.ofBelow hb) (by simp))
    have hb3 := (HB2.out.trans ((Upd.setCell w3 ⟨Y, 1, none⟩ (.int .i64 z)).below HB2.out.size (by simp; exact HwY.out)))
    have HB3 := Lib.hid (hb3.trans (hb.mono hb3.size))
    obtain ⟨y0, hy0⟩ : ∃ y, p = y := ⟨_, rfl⟩
    obtain ⟨y1, hy1⟩ : ∃ y, z = y := ⟨_, rfl⟩
    obtain ⟨y2, hy2⟩ : ∃ y, B = y := ⟨_, rfl⟩
    rw [hy0, hy1, hy2] at HY3
    clear hb hb3 f0 f1 f2 g0 g1 g2 hy0 hy1 hy2 HX2 HY2 HB2
    have HW := Lib.hid (show ChkW w (w4.alloc (.cells #[.int .i64 z0, .int .i64 z1, .int .i64 z2] 24)) X Y w4.heap.size r0 r1 r2 y0 y1 y2 z0 z1 z2 from
      ⟨HX3.out.keep (Upd.alloc [] w4 _) (by simp), HY3.out.keep (Upd.alloc [] w4 _) (by simp), BlockAt.new w4 24 [.int .i64 z0, .int .i64 z1, .int .i64 z2], HB3.out.alloc HB3.out.size _⟩)
    clear HX3 HY3 HB3
    go_wp2_with fail
    refine (around_any calls 2147483648 _ h5 h6 (by omega)).mono ?_
    rintro e w' ⟨rfl, rfl⟩
    rw [show around calls 2147483648 = C from HC.out]
    obtain ⟨w5, hw5⟩ : ∃ w5, w4.alloc (.cells #[.int .i64 z0, .int .i64 z1, .int .i64 z2] 24) = w5 := ⟨_, rfl⟩
    obtain ⟨Z, hZ⟩ : ∃ Z, w4.heap.size = Z := ⟨_, rfl⟩
    rw [hw5, hZ] at HW
    rw [hw5, hZ]
    clear hw5 hZ
    have hz : chkI z0 z1 z2 = 0 := by
      obtain ⟨a0, a1, a2, a3, a4, a5⟩ := hok
      unfold chkI
      rw [if_neg (by unfold chkB; omega)]
    have K1 := Lib.hid (fun (W : World) (h : Hid (ChkW w W X Y Z r0 r1 r2 y0 y1 y2 z0 z1 z2)) => chk_held (chk_any r0 r1 r2 W) h)
    have K2 := Lib.hid (fun (W : World) (h : Hid (ChkW w W X Y Z r0 r1 r2 y0 y1 y2 z0 z1 z2)) => chk_held (rchk_any r0 r1 r2 W) h)
    have K3 := Lib.hid (fun (W : World) (h : Hid (ChkW w W X Y Z r0 r1 r2 y0 y1 y2 z0 z1 z2)) => chk_held (chk_any y0 y1 y2 W) h)
    have K4 := Lib.hid (fun (W : World) (h : Hid (ChkW w W X Y Z r0 r1 r2 y0 y1 y2 z0 z1 z2)) => chk_held (rchk_any y0 y1 y2 W) h)
    have K5 := Lib.hid (fun (W : World) (h : Hid (ChkW w W X Y Z r0 r1 r2 y0 y1 y2 z0 z1 z2)) => chk_held (chk_any z0 z1 z2 W) h)
    have K6 := Lib.hid (fun (W : World) (h : Hid (ChkW w W X Y Z r0 r1 r2 y0 y1 y2 z0 z1 z2)) => chk_held (most_any z0 z1 z2 C hok W c0 (by omega)) h)
    have K7 := Lib.hid (fun (W : World) (h : Hid (ChkW w W X Y Z r0 r1 r2 y0 y1 y2 z0 z1 z2)) => chk_held (rmost_any z0 z1 z2 C hok W c0 (by omega)) h)
    have K8 := Lib.hid (fun (W : World) (h : Hid (ChkW w W X Y Z r0 r1 r2 y0 y1 y2 z0 z1 z2)) => chk_held (lives_any W) h)
    rw [hz] at K5
    unfold bud at K6 K7
    obtain ⟨E1, hE1⟩ : ∃ E, chkI r0 r1 r2 = E := ⟨_, rfl⟩
    obtain ⟨E2, hE2⟩ : ∃ E, chkI y0 y1 y2 = E := ⟨_, rfl⟩
    obtain ⟨MO, hMO⟩ : ∃ E, mostOf z0 z1 z2 C = E := ⟨_, rfl⟩
    rw [hE1] at K1 K2
    rw [hE2] at K3 K4
    rw [hMO] at K6 K7
    clear hE1 hE2 hMO hz
    obtain ⟨d0, d1, d2, d3, d4, d5, d6, d7, d8, d9⟩ := (HW.out.next (Upd.below (Upd.drew [] w5) (Nat.le_refl _) (by simp))).held
    clear hok HW
    go_wp2_with fail
    go_region_held3 (fun W => W.cell? ⟨X, 0, none⟩ = some (.int .i64 r0) ∧ W.cell? ⟨X, 1, none⟩ = some (.int .i64 r1) ∧ W.cell? ⟨X, 2, none⟩ = some (.int .i64 r2) ∧ W.cell? ⟨Y, 0, none⟩ = some (.int .i64 y0) ∧ W.cell? ⟨Y, 1, none⟩ = some (.int .i64 y1) ∧ W.cell? ⟨Y, 2, none⟩ = some (.int .i64 y2) ∧ W.cell? ⟨Z, 0, none⟩ = some (.int .i64 z0) ∧ W.cell? ⟨Z, 1, none⟩ = some (.int .i64 z1) ∧ W.cell? ⟨Z, 2, none⟩ = some (.int .i64 z2) ∧ Hid (ChkW w W X Y Z r0 r1 r2 y0 y1 y2 z0 z1 z2))
      (first | go_keep | exact ⟨d0, d1, d2, d3, d4, d5, d6, d7, d8, d9⟩ | exact ⟨by assumption, by assumption, by assumption, by assumption, by assumption, by assumption, by assumption, by assumption, by assumption, by assumption⟩)
      (first
        | (go_at_call 17; (first | (with_reducible refine (K1.out _ (by assumption)).mono ?_) | (with_reducible refine (K3.out _ (by assumption)).mono ?_) | (with_reducible refine (K5.out _ (by assumption)).mono ?_)); rintro e w' ⟨rfl, e0, e1, e2, e3, e4, e5, e6, e7, e8, e9⟩)
        | (go_at_call 18; (first | (with_reducible refine (K2.out _ (by assumption)).mono ?_) | (with_reducible refine (K4.out _ (by assumption)).mono ?_)); rintro e w' ⟨rfl, e0, e1, e2, e3, e4, e5, e6, e7, e8, e9⟩)
        | (go_at_call 15; refine (K6.out _ (by assumption)).mono ?_; rintro e w' ⟨rfl, e0, e1, e2, e3, e4, e5, e6, e7, e8, e9⟩)
        | (go_at_call 19; refine (K7.out _ (by assumption)).mono ?_; rintro e w' ⟨rfl, e0, e1, e2, e3, e4, e5, e6, e7, e8, e9⟩)
        | (go_at_call 16; refine (K8.out _ (by assumption)).mono ?_; rintro e w' ⟨rfl, e0, e1, e2, e3, e4, e5, e6, e7, e8, e9⟩))
    all_goals go_wp2
    all_goals go_ret
    all_goals exact ⟨rfl, e9.out.below⟩
  · go_wp2_with fail
    refine (budget_any n _ h1 h2).mono ?_
    rintro e w4 ⟨⟨z0, z1, z2, rfl, hok⟩, hb⟩
    unfold bud
    have HX3 := Lib.hid ((HX2.out.keep (Upd.setCell w3 ⟨Y, 2, none⟩ (.int .i64 z)) (by simp; exact HXY.out)).keep (Upd.ofBelow hb) (by simp))
    have HY3 := Lib.hid (BudAt.keep (p := p) (o := o) (b := z) (BlockAt.set HY2.out 2 (.int .i64 z)) (Upd.ofBelow hb) (by simp))
    have hb3 := (HB2.out.trans ((Upd.setCell w3 ⟨Y, 2, none⟩ (.int .i64 z)).below HB2.out.size (by simp; exact HwY.out)))
    have HB3 := Lib.hid (hb3.trans (hb.mono hb3.size))
    obtain ⟨y0, hy0⟩ : ∃ y, p = y := ⟨_, rfl⟩
    obtain ⟨y1, hy1⟩ : ∃ y, o = y := ⟨_, rfl⟩
    obtain ⟨y2, hy2⟩ : ∃ y, z = y := ⟨_, rfl⟩
    rw [hy0, hy1, hy2] at HY3
    clear hb hb3 f0 f1 f2 g0 g1 g2 hy0 hy1 hy2 HX2 HY2 HB2
    have HW := Lib.hid (show ChkW w (w4.alloc (.cells #[.int .i64 z0, .int .i64 z1, .int .i64 z2] 24)) X Y w4.heap.size r0 r1 r2 y0 y1 y2 z0 z1 z2 from
      ⟨HX3.out.keep (Upd.alloc [] w4 _) (by simp), HY3.out.keep (Upd.alloc [] w4 _) (by simp), BlockAt.new w4 24 [.int .i64 z0, .int .i64 z1, .int .i64 z2], HB3.out.alloc HB3.out.size _⟩)
    clear HX3 HY3 HB3
    go_wp2_with fail
    refine (around_any calls 2147483648 _ h5 h6 (by omega)).mono ?_
    rintro e w' ⟨rfl, rfl⟩
    rw [show around calls 2147483648 = C from HC.out]
    obtain ⟨w5, hw5⟩ : ∃ w5, w4.alloc (.cells #[.int .i64 z0, .int .i64 z1, .int .i64 z2] 24) = w5 := ⟨_, rfl⟩
    obtain ⟨Z, hZ⟩ : ∃ Z, w4.heap.size = Z := ⟨_, rfl⟩
    rw [hw5, hZ] at HW
    rw [hw5, hZ]
    clear hw5 hZ
    have hz : chkI z0 z1 z2 = 0 := by
      obtain ⟨a0, a1, a2, a3, a4, a5⟩ := hok
      unfold chkI
      rw [if_neg (by unfold chkB; omega)]
    have K1 := Lib.hid (fun (W : World) (h : Hid (ChkW w W X Y Z r0 r1 r2 y0 y1 y2 z0 z1 z2)) => chk_held (chk_any r0 r1 r2 W) h)
    have K2 := Lib.hid (fun (W : World) (h : Hid (ChkW w W X Y Z r0 r1 r2 y0 y1 y2 z0 z1 z2)) => chk_held (rchk_any r0 r1 r2 W) h)
    have K3 := Lib.hid (fun (W : World) (h : Hid (ChkW w W X Y Z r0 r1 r2 y0 y1 y2 z0 z1 z2)) => chk_held (chk_any y0 y1 y2 W) h)
    have K4 := Lib.hid (fun (W : World) (h : Hid (ChkW w W X Y Z r0 r1 r2 y0 y1 y2 z0 z1 z2)) => chk_held (rchk_any y0 y1 y2 W) h)
    have K5 := Lib.hid (fun (W : World) (h : Hid (ChkW w W X Y Z r0 r1 r2 y0 y1 y2 z0 z1 z2)) => chk_held (chk_any z0 z1 z2 W) h)
    have K6 := Lib.hid (fun (W : World) (h : Hid (ChkW w W X Y Z r0 r1 r2 y0 y1 y2 z0 z1 z2)) => chk_held (most_any z0 z1 z2 C hok W c0 (by omega)) h)
    have K7 := Lib.hid (fun (W : World) (h : Hid (ChkW w W X Y Z r0 r1 r2 y0 y1 y2 z0 z1 z2)) => chk_held (rmost_any z0 z1 z2 C hok W c0 (by omega)) h)
    have K8 := Lib.hid (fun (W : World) (h : Hid (ChkW w W X Y Z r0 r1 r2 y0 y1 y2 z0 z1 z2)) => chk_held (lives_any W) h)
    rw [hz] at K5
    unfold bud at K6 K7
    obtain ⟨E1, hE1⟩ : ∃ E, chkI r0 r1 r2 = E := ⟨_, rfl⟩
    obtain ⟨E2, hE2⟩ : ∃ E, chkI y0 y1 y2 = E := ⟨_, rfl⟩
    obtain ⟨MO, hMO⟩ : ∃ E, mostOf z0 z1 z2 C = E := ⟨_, rfl⟩
    rw [hE1] at K1 K2
    rw [hE2] at K3 K4
    rw [hMO] at K6 K7
    clear hE1 hE2 hMO hz
    obtain ⟨d0, d1, d2, d3, d4, d5, d6, d7, d8, d9⟩ := (HW.out.next (Upd.below (Upd.drew [] w5) (Nat.le_refl _) (by simp))).held
    clear hok HW
    go_wp2_with fail
    go_region_held3 (fun W => W.cell? ⟨X, 0, none⟩ = some (.int .i64 r0) ∧ W.cell? ⟨X, 1, none⟩ = some (.int .i64 r1) ∧ W.cell? ⟨X, 2, none⟩ = some (.int .i64 r2) ∧ W.cell? ⟨Y, 0, none⟩ = some (.int .i64 y0) ∧ W.cell? ⟨Y, 1, none⟩ = some (.int .i64 y1) ∧ W.cell? ⟨Y, 2, none⟩ = some (.int .i64 y2) ∧ W.cell? ⟨Z, 0, none⟩ = some (.int .i64 z0) ∧ W.cell? ⟨Z, 1, none⟩ = some (.int .i64 z1) ∧ W.cell? ⟨Z, 2, none⟩ = some (.int .i64 z2) ∧ Hid (ChkW w W X Y Z r0 r1 r2 y0 y1 y2 z0 z1 z2))
      (first | go_keep | exact ⟨d0, d1, d2, d3, d4, d5, d6, d7, d8, d9⟩ | exact ⟨by assumption, by assumption, by assumption, by assumption, by assumption, by assumption, by assumption, by assumption, by assumption, by assumption⟩)
      (first
        | (go_at_call 17; (first | (with_reducible refine (K1.out _ (by assumption)).mono ?_) | (with_reducible refine (K3.out _ (by assumption)).mono ?_) | (with_reducible refine (K5.out _ (by assumption)).mono ?_)); rintro e w' ⟨rfl, e0, e1, e2, e3, e4, e5, e6, e7, e8, e9⟩)
        | (go_at_call 18; (first | (with_reducible refine (K2.out _ (by assumption)).mono ?_) | (with_reducible refine (K4.out _ (by assumption)).mono ?_)); rintro e w' ⟨rfl, e0, e1, e2, e3, e4, e5, e6, e7, e8, e9⟩)
        | (go_at_call 15; refine (K6.out _ (by assumption)).mono ?_; rintro e w' ⟨rfl, e0, e1, e2, e3, e4, e5, e6, e7, e8, e9⟩)
        | (go_at_call 19; refine (K7.out _ (by assumption)).mono ?_; rintro e w' ⟨rfl, e0, e1, e2, e3, e4, e5, e6, e7, e8, e9⟩)
        | (go_at_call 16; refine (K8.out _ (by assumption)).mono ?_; rintro e w' ⟨rfl, e0, e1, e2, e3, e4, e5, e6, e7, e8, e9⟩))
    all_goals go_wp2
    all_goals go_ret
    all_goals exact ⟨rfl, e9.out.below⟩
end Go.Proofs.Ytjiclgebhndljaa
