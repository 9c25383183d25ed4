/- Layer 14: which watches may be: Check, and the reference's Check. -/
import Derived.Test.YtfmgcnmikopgeaaOutM
import Derived.Deep.CutBlock
import Derived.Deep.DeepCutAuto
namespace Go.Proofs.Ytfmgcnmikopgeaa
open Go.RowKit
/-- A watch's number, least, most. -/
def ckRow (t : Wt) : Nat → Int × Int × Int
  | 0 => (t.errors, 1, 100)
  | 1 => (t.window, 1, 10000)
  | 2 => (t.dev, 0, 100)
  | 3 => (t.slow, 0, 10000)
  | 4 => (t.share, 0, 100)
  | 5 => (t.base, 1, 10000)
  | _ => (t.top, t.base, 10000)
def OkAt (t : Wt) (i : Nat) : Prop := (ckRow t i).2.1 ≤ (ckRow t i).1 ∧ (ckRow t i).1 ≤ (ckRow t i).2.2
instance (t : Wt) (i : Nat) : Decidable (OkAt t i) := by unfold OkAt; infer_instance
def OkTo (t : Wt) (j : Nat) : Prop := ∀ i, i < j → OkAt t i
instance (t : Wt) (j : Nat) : Decidable (OkTo t j) := by unfold OkTo; infer_instance
def ckV (t : Wt) : Int := if OkTo t 7 then 0 else 8
theorem OkTo.zero (t : Wt) : OkTo t 0 := fun i h => by omega
theorem OkTo.next {t : Wt} {j : Nat} (h : OkTo t j) (h1 : (ckRow t j).2.1 ≤ (ckRow t j).1) (h2 : (ckRow t j).1 ≤ (ckRow t j).2.2) : OkTo t (j + 1) := fun i hi => by
  rcases (show i < j ∨ i = j by omega) with h3 | rfl
  · exact h i h3
  · exact ⟨h1, h2⟩
theorem ckV_ok {t : Wt} (h : OkTo t 7) : ckV t = 0 := by unfold ckV; rw [if_pos h]
theorem ckV_low {t : Wt} {j : Nat} (hj : j < 7) (h : (ckRow t j).1 < (ckRow t j).2.1) : ckV t = 8 := by
  unfold ckV
  rw [if_neg fun hh => by have := (hh j hj).1; omega]
theorem ckV_high {t : Wt} {j : Nat} (hj : j < 7) (h : (ckRow t j).2.2 < (ckRow t j).1) : ckV t = 8 := by
  unfold ckV
  rw [if_neg fun hh => by have := (hh j hj).2; omega]
theorem ckV_not {t : Wt} {j : Nat} (hj : j < 7) (h : ¬ OkAt t j) : ckV t = 8 := by
  unfold ckV
  rw [if_neg fun hh => h (hh j hj)]
theorem WtK.ck {t : Wt} (h : WtK t) : ckV t = 0 := by
  obtain ⟨a, b, c, d, e, f, g, i, j, k, l, m, n, o⟩ := h
  refine ckV_ok fun q hq => ?_
  rcases (show q = 0 ∨ q = 1 ∨ q = 2 ∨ q = 3 ∨ q = 4 ∨ q = 5 ∨ q = 6 by omega) with rfl | rfl | rfl | rfl | rfl | rfl | rfl
  · exact ⟨(show 1 ≤ t.errors by omega), (show t.errors ≤ 100 by omega)⟩
  · exact ⟨(show 1 ≤ t.window by omega), (show t.window ≤ 10000 by omega)⟩
  · exact ⟨(show 0 ≤ t.dev by omega), (show t.dev ≤ 100 by omega)⟩
  · exact ⟨(show 0 ≤ t.slow by omega), (show t.slow ≤ 10000 by omega)⟩
  · exact ⟨(show 0 ≤ t.share by omega), (show t.share ≤ 100 by omega)⟩
  · exact ⟨(show 1 ≤ t.base by omega), (show t.base ≤ 10000 by omega)⟩
  · exact ⟨(show t.base ≤ t.top by omega), (show t.top ≤ 10000 by omega)⟩
def CkPost (t : Wt) (w : World) (e : Ending) (w' : World) : Prop := e = .returned (.int .i64 (ckV t)) ∧ Below w.heap.size w w'
set_option maxRecDepth 100000 in
theorem within_any (n lo hi : Int) (w : World) : Calls Try.prog 31 #[.int .i64 n, .int .i64 lo, .int .i64 hi] w fun e w' => e = .returned (.bool (decide (lo ≤ n ∧ n ≤ hi))) ∧ w = w' := by
  go_enter Try.func31, Try.ntmps31
  by_cases h1 : lo ≤ n
  · by_cases h2 : n ≤ hi
    · go_wp2_with fail
      go_ret
      exact ⟨by simp [h1, h2], rfl⟩
    · go_wp2_with fail
      go_ret
      exact ⟨by simp [h1, h2], rfl⟩
  · go_wp2_with fail
    go_ret
    exact ⟨by simp [show ¬ lo ≤ n by omega], rfl⟩
set_option maxRecDepth 100000 in
set_option maxHeartbeats 4000000 in
theorem refCheck_any (t : Wt) (w : World) : Calls Try.prog 22 #[t.val] w (CkPost t w) := by
  have HR0 : ∀ j, j < 7 → ¬ OkAt t j → ckV t = 8 := fun j hj h => ckV_not hj h
  have HR1 : (∀ j, j < 7 → OkAt t j) → ckV t = 0 := fun h => ckV_ok h
  obtain ⟨c, hc⟩ : ∃ c, ckV t = c := ⟨_, rfl⟩
  unfold CkPost
  rw [hc] at HR0 HR1 ⊢
  clear hc
  obtain ⟨a0, a1, a2, a3, a4, a5, a6⟩ := t
  have HB : Hid (BlockAt (w.alloc (.cells #[.int .i64 a0, .int .i64 a1, .int .i64 a2, .int .i64 a3, .int .i64 a4, .int .i64 a5, .int .i64 a6] 24)) w.heap.size 24 [.int .i64 a0, .int .i64 a1, .int .i64 a2, .int .i64 a3, .int .i64 a4, .int .i64 a5, .int .i64 a6] ∧ Below w.heap.size w (w.alloc (.cells #[.int .i64 a0, .int .i64 a1, .int .i64 a2, .int .i64 a3, .int .i64 a4, .int .i64 a5, .int .i64 a6] 24))) := Lib.hid ⟨BlockAt.new w _ _, (Below.refl _ _).alloc (Nat.le_refl _) _⟩
  have C0 := Lib.hid (fun W => within_any a0 1 100 W)
  have C1 := Lib.hid (fun W => within_any a1 1 10000 W)
  have C2 := Lib.hid (fun W => within_any a2 0 100 W)
  have C3 := Lib.hid (fun W => within_any a3 0 10000 W)
  have C4 := Lib.hid (fun W => within_any a4 0 100 W)
  have C5 := Lib.hid (fun W => within_any a5 1 10000 W)
  have C6 := Lib.hid (fun W => within_any a6 a5 10000 W)
  obtain ⟨x0, hx0⟩ : ∃ x, decide (1 ≤ a0 ∧ a0 ≤ 100) = x := ⟨_, rfl⟩
  obtain ⟨x1, hx1⟩ : ∃ x, decide (1 ≤ a1 ∧ a1 ≤ 10000) = x := ⟨_, rfl⟩
  obtain ⟨x2, hx2⟩ : ∃ x, decide (0 ≤ a2 ∧ a2 ≤ 100) = x := ⟨_, rfl⟩
  obtain ⟨x3, hx3⟩ : ∃ x, decide (0 ≤ a3 ∧ a3 ≤ 10000) = x := ⟨_, rfl⟩
  obtain ⟨x4, hx4⟩ : ∃ x, decide (0 ≤ a4 ∧ a4 ≤ 100) = x := ⟨_, rfl⟩
  obtain ⟨x5, hx5⟩ : ∃ x, decide (1 ≤ a5 ∧ a5 ≤ 10000) = x := ⟨_, rfl⟩
  obtain ⟨x6, hx6⟩ : ∃ x, decide (a5 ≤ a6 ∧ a6 ≤ 10000) = x := ⟨_, rfl⟩
  rw [hx0] at C0
  rw [hx1] at C1
  rw [hx2] at C2
  rw [hx3] at C3
  rw [hx4] at C4
  rw [hx5] at C5
  rw [hx6] at C6
  have E0 : Hid (x0 = false → c = 8) := Lib.hid fun h => HR0 0 (by omega) fun hh => by rw [h] at hx0; exact absurd hh (of_decide_eq_false hx0)
  have E1 : Hid (x1 = false → c = 8) := Lib.hid fun h => HR0 1 (by omega) fun hh => by rw [h] at hx1; exact absurd hh (of_decide_eq_false hx1)
  have E2 : Hid (x2 = false → c = 8) := Lib.hid fun h => HR0 2 (by omega) fun hh => by rw [h] at hx2; exact absurd hh (of_decide_eq_false hx2)
  have E3 : Hid (x3 = false → c = 8) := Lib.hid fun h => HR0 3 (by omega) fun hh => by rw [h] at hx3; exact absurd hh (of_decide_eq_false hx3)
  have E4 : Hid (x4 = false → c = 8) := Lib.hid fun h => HR0 4 (by omega) fun hh => by rw [h] at hx4; exact absurd hh (of_decide_eq_false hx4)
  have E5 : Hid (x5 = false → c = 8) := Lib.hid fun h => HR0 5 (by omega) fun hh => by rw [h] at hx5; exact absurd hh (of_decide_eq_false hx5)
  have E6 : Hid (x6 = false → c = 8) := Lib.hid fun h => HR0 6 (by omega) fun hh => by rw [h] at hx6; exact absurd hh (of_decide_eq_false hx6)
  have E7 : Hid (x0 = true → x1 = true → x2 = true → x3 = true → x4 = true → x5 = true → x6 = true → c = 0) := Lib.hid fun h0 h1 h2 h3 h4 h5 h6 => HR1 fun j hj => by
    rcases (show j = 0 ∨ j = 1 ∨ j = 2 ∨ j = 3 ∨ j = 4 ∨ j = 5 ∨ j = 6 by omega) with rfl | rfl | rfl | rfl | rfl | rfl | rfl
    · exact of_decide_eq_true (hx0.trans h0)
    · exact of_decide_eq_true (hx1.trans h1)
    · exact of_decide_eq_true (hx2.trans h2)
    · exact of_decide_eq_true (hx3.trans h3)
    · exact of_decide_eq_true (hx4.trans h4)
    · exact of_decide_eq_true (hx5.trans h5)
    · exact of_decide_eq_true (hx6.trans h6)
  clear HR0 HR1 hx0 hx1 hx2 hx3 hx4 hx5 hx6
  show Calls Try.prog 22 #[.agg #[.int .i64 a0, .int .i64 a1, .int .i64 a2, .int .i64 a3, .int .i64 a4, .int .i64 a5, .int .i64 a6]] w _
  go_enter Try.func22, Try.ntmps22
  go_upto_block 1 with fail
  obtain ⟨W, X, hW, hX, hbx, hbw⟩ : ∃ W X, (w.alloc (.cells #[.int .i64 a0, .int .i64 a1, .int .i64 a2, .int .i64 a3, .int .i64 a4, .int .i64 a5, .int .i64 a6] 24)) = W ∧ w.heap.size = X ∧ BlockAt W X 24 [.int .i64 a0, .int .i64 a1, .int .i64 a2, .int .i64 a3, .int .i64 a4, .int .i64 a5, .int .i64 a6] ∧ Hid (Below w.heap.size w W) := ⟨_, _, rfl, rfl, HB.out.1, Lib.hid HB.out.2⟩
  clear HB
  rw [hW]
  try rw [hX]
  clear hW hX
  have c0 := hbx.cell 0 _ rfl
  have c1 := hbx.cell 1 _ rfl
  have c2 := hbx.cell 2 _ rfl
  have c3 := hbx.cell 3 _ rfl
  have c4 := hbx.cell 4 _ rfl
  have c5 := hbx.cell 5 _ rfl
  have c6 := hbx.cell 6 _ rfl
  clear hbx
  go_wp2_with fail
  refine (C0.out _).mono ?_
  rintro e w' ⟨rfl, rfl⟩
  cases x0
  · obtain rfl : c = 8 := E0.out (by trivial)
    go_wp2_with fail
    go_ret
    exact ⟨rfl, hbw.out⟩
  go_wp2_with fail
  refine (C1.out _).mono ?_
  rintro e w' ⟨rfl, rfl⟩
  cases x1
  · obtain rfl : c = 8 := E1.out (by trivial)
    go_wp2_with fail
    go_ret
    exact ⟨rfl, hbw.out⟩
  go_wp2_with fail
  refine (C2.out _).mono ?_
  rintro e w' ⟨rfl, rfl⟩
  cases x2
  · obtain rfl : c = 8 := E2.out (by trivial)
    go_wp2_with fail
    go_ret
    exact ⟨rfl, hbw.out⟩
  go_wp2_with fail
  refine (C3.out _).mono ?_
  rintro e w' ⟨rfl, rfl⟩
  cases x3
  · obtain rfl : c = 8 := E3.out (by trivial)
    go_wp2_with fail
    go_ret
    exact ⟨rfl, hbw.out⟩
  go_wp2_with fail
  refine (C4.out _).mono ?_
  rintro e w' ⟨rfl, rfl⟩
  cases x4
  · obtain rfl : c = 8 := E4.out (by trivial)
    go_wp2_with fail
    go_ret
    exact ⟨rfl, hbw.out⟩
  go_wp2_with fail
  refine (C5.out _).mono ?_
  rintro e w' ⟨rfl, rfl⟩
  cases x5
  · obtain rfl : c = 8 := E5.out (by trivial)
    go_wp2_with fail
    go_ret
    exact ⟨rfl, hbw.out⟩
  go_wp2_with fail
  refine (C6.out _).mono ?_
  rintro e w' ⟨rfl, rfl⟩
  cases x6
  · obtain rfl : c = 8 := E6.out (by trivial)
    go_wp2_with fail
    go_ret
    exact ⟨rfl, hbw.out⟩
  obtain rfl : c = 0 := E7.out (by trivial) (by trivial) (by trivial) (by trivial) (by trivial) (by trivial) (by trivial)
  go_wp2_with fail
  go_ret
  exact ⟨rfl, hbw.out⟩
end Go.Proofs.Ytfmgcnmikopgeaa
