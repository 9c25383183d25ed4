/- Layer 19: the walk of TokenShares. -/
import Derived.Test.YtjiclgebhndljaaTokenC
import Derived.Deep.RegionHeld3
namespace Go.Proofs.Ytjiclgebhndljaa
open Go.RowKit
theorem most_bounds {p o b c : Int} (h : BudOk p o b) (c0 : 0 ≤ c) (c1 : c ≤ 2147483648) : 0 ≤ mostOf p o b c ∧ mostOf p o b c ≤ 214748364900 := by
  obtain ⟨p0, p1, o0, o1, b0, b1⟩ := h
  have hm0 : 0 ≤ c * p := Int.mul_nonneg c0 p0
  have hm : c * p ≤ 2147483648 * 100 := Int.mul_le_mul (by omega) (by omega) (by omega) (by omega)
  have q0 : 0 ≤ c * p / o := Int.ediv_nonneg hm0 (by omega)
  have q1 : c * p / o ≤ c * p := Int.ediv_le_self _ hm0
  unfold mostOf
  omega
theorem shares_plain {p o b x y : Int} (h : BudOk p o b) :
    mostOf p o b x + mostOf p o b y ≤ mostOf p o b (x + y) + b ∧ mostOf p o b (x + y) ≤ mostOf p o b x + mostOf p o b y - b + 1 ∧ mostOf p o b 0 = b ∧ (x ≤ y → mostOf p o b x ≤ mostOf p o b y) := by
  obtain ⟨p0, p1, o0, o1, b0, b1⟩ := h
  unfold mostOf
  rw [Int.add_mul]
  have e0 : (0 : Int) * p / o = 0 := by rw [Int.zero_mul, Int.zero_ediv]
  have hmono : x ≤ y → x * p / o ≤ y * p / o := fun hxy => Int.ediv_le_ediv (by omega) (Int.mul_le_mul_of_nonneg_right hxy p0)
  generalize x * p = X at *
  generalize y * p = Y at *
  have a1 := Int.emod_add_mul_ediv X o
  have a2 := Int.emod_add_mul_ediv Y o
  have r1 := Int.emod_nonneg X (show o ≠ 0 by omega)
  have r2 := Int.emod_nonneg Y (show o ≠ 0 by omega)
  have s1 := Int.emod_lt_of_pos X (show 0 < o by omega)
  have s2 := Int.emod_lt_of_pos Y (show 0 < o by omega)
  have e : (X + Y) / o = X / o + Y / o + (X % o + Y % o) / o := by
    have e1 : X + Y = (X % o + Y % o) + o * (X / o + Y / o) := by rw [Int.mul_add]; omega
    rw [e1, Int.add_mul_ediv_left _ _ (show o ≠ 0 by omega)]
    have e2 : (X % o + Y % o + o * (X / o + Y / o)) = X + Y := e1.symm
    omega
  have d0 : 0 ≤ (X % o + Y % o) / o := Int.ediv_nonneg (by omega) (by omega)
  have d1 : (X % o + Y % o) / o < 2 := Int.ediv_lt_of_lt_mul (by omega) (by omega)
  rw [e, e0]
  refine ⟨by omega, by omega, by omega, fun hxy => by have := hmono hxy; omega⟩
set_option maxHeartbeats 2000000 in
theorem shares_walk (n a b : Int) (w : World) (h1 : -9223372036854775808 ≤ n) (h2 : n ≤ 9223372036854775807) (h3 : -9223372036854775808 ≤ a) (h4 : a ≤ 9223372036854775807) (h5 : -9223372036854775808 ≤ b) (h6 : b ≤ 9223372036854775807) :
    Calls Try.prog 5 #[.int .i64 n, .int .i64 a, .int .i64 b] w (TruePost w) := by
  have x0 := around_nonneg a 1048576 (by omega)
  have x1 := around_lt a 1048576 (by omega)
  have y0 := around_nonneg b 1048576 (by omega)
  have y1 := around_lt b 1048576 (by omega)
  obtain ⟨x, hx⟩ : ∃ k, around a 1048576 = k := ⟨_, rfl⟩
  obtain ⟨y, hy⟩ : ∃ k, around b 1048576 = k := ⟨_, rfl⟩
  rw [hx] at x0 x1
  rw [hy] at y0 y1
  have HX := Lib.hid hx
  have HY := Lib.hid hy
  clear hx hy
  go_enter Try.func5, Try.ntmps5
  go_wp2_with fail
  refine (budget_any n _ h1 h2).mono ?_
  rintro e w1 ⟨⟨p, o, B, rfl, hok⟩, hb1⟩
  have HA := Lib.hid (shares_plain (x := x) (y := y) hok)
  have m1 := most_bounds hok x0 (by omega)
  have m2 := most_bounds hok y0 (by omega)
  have m3 := most_bounds hok (c := x + y) (by omega) (by omega)
  have HM1 := Lib.hid (fun w => most_any p o B x hok w x0 (by omega))
  have HM2 := Lib.hid (fun w => most_any p o B y hok w y0 (by omega))
  have HM3 := Lib.hid (fun w => most_any p o B (x + y) hok w (by omega) (by omega))
  have HM0 := Lib.hid (fun w => most_any p o B 0 hok w (by omega) (by omega))
  obtain ⟨M1, e1⟩ : ∃ M, mostOf p o B x = M := ⟨_, rfl⟩
  obtain ⟨M2, e2⟩ : ∃ M, mostOf p o B y = M := ⟨_, rfl⟩
  obtain ⟨M3, e3⟩ : ∃ M, mostOf p o B (x + y) = M := ⟨_, rfl⟩
  rw [e1] at HA HM1 m1
  rw [e2] at HA HM2 m2
  rw [e3] at HA HM3 m3
  rw [HA.out.2.2.1] at HM0
  have hB0 := hok.b0
  have hB1 := hok.b1
  have HB1 := Lib.hid hb1
  unfold bud at HM1 HM2 HM3 HM0 ⊢
  clear hok e1 e2 e3 hb1
  have HBud := Lib.hid (show BudAt (w1.alloc (.cells #[.int .i64 p, .int .i64 o, .int .i64 B] 24)) w1.heap.size p o B from BlockAt.new w1 24 [.int .i64 p, .int .i64 o, .int .i64 B])
  have HB2 := Lib.hid (HB1.out.alloc HB1.out.size (.cells #[.int .i64 p, .int .i64 o, .int .i64 B] 24))
  go_wp2_with fail
  refine (around_any a 1048576 _ h3 h4 (by omega)).mono ?_
  rintro e w2 ⟨rfl, rfl⟩
  rw [show around a 1048576 = x from HX.out]
  go_wp2_with fail
  refine (around_any b 1048576 _ h5 h6 (by omega)).mono ?_
  rintro e w2 ⟨rfl, rfl⟩
  rw [show around b 1048576 = y from HY.out]
  go_wp2_with fail
  refine (HM1.out _).mono ?_
  rintro e w2 ⟨rfl, hb2⟩
  have hbud := HBud.out.keep (Upd.ofBelow hb2) (by simp)
  have HBud2 := Lib.hid hbud
  have HB3 := Lib.hid (HB2.out.trans (hb2.mono HB2.out.size))
  have c0 := BlockAt.cell (w := w2) hbud 0 _ rfl
  have c1 := BlockAt.cell (w := w2) hbud 1 _ rfl
  have c2 := BlockAt.cell (w := w2) hbud 2 _ rfl
  clear hbud hb2 HM1
  obtain ⟨X, hX⟩ : ∃ X, w1.heap.size = X := ⟨_, rfl⟩
  rw [hX] at HBud2 c0 c1 c2 ⊢
  clear hX
  go_wp2_with fail
  refine (HM2.out _).mono ?_
  rintro e w3 ⟨rfl, hb2⟩
  have hbud := HBud2.out.keep (Upd.ofBelow hb2) (by simp)
  have HBud3 := Lib.hid hbud
  have HB4 := Lib.hid (HB3.out.trans (hb2.mono HB3.out.size))
  clear c0 c1 c2
  have c0 := BlockAt.cell (w := w3) hbud 0 _ rfl
  have c1 := BlockAt.cell (w := w3) hbud 1 _ rfl
  have c2 := BlockAt.cell (w := w3) hbud 2 _ rfl
  clear hbud hb2 HM2
  go_wp2_with fail
  refine (HM3.out _).mono ?_
  rintro e w4 ⟨rfl, hb2⟩
  have hbud := HBud3.out.keep (Upd.ofBelow hb2) (by simp)
  have HBud4 := Lib.hid hbud
  have HB5 := Lib.hid (HB4.out.trans (hb2.mono HB4.out.size))
  clear c0 c1 c2
  have c0 := BlockAt.cell (w := w4) hbud 0 _ rfl
  have c1 := BlockAt.cell (w := w4) hbud 1 _ rfl
  have c2 := BlockAt.cell (w := w4) hbud 2 _ rfl
  clear hbud hb2 HM3
  have t1 : decide (M1 + M2 ≤ M3 + B) = true := by have := HA.out.1; simpa using this
  have t2 : decide (M3 ≤ M1 + M2 - B + 1) = true := by have := HA.out.2.1; simpa using this
  have HS := Lib.hid (fun (W : World) (hS : W.cell? ⟨X, 0, none⟩ = some (.int .i64 p) ∧ W.cell? ⟨X, 1, none⟩ = some (.int .i64 o) ∧ W.cell? ⟨X, 2, none⟩ = some (.int .i64 B) ∧ Below w.heap.size w W) =>
    (HM0.out W).mono (R' := fun e w' => e = .returned (.int .i64 B) ∧ w'.cell? ⟨X, 0, none⟩ = some (.int .i64 p) ∧ w'.cell? ⟨X, 1, none⟩ = some (.int .i64 o) ∧ w'.cell? ⟨X, 2, none⟩ = some (.int .i64 B) ∧ Below w.heap.size w w') (fun e w' ⟨he, hb⟩ =>
      ⟨he, by rw [hb.cell (World.block_lt_of_cell? W _ hS.1)]; exact hS.1, by rw [hb.cell (World.block_lt_of_cell? W _ hS.2.1)]; exact hS.2.1, by rw [hb.cell (World.block_lt_of_cell? W _ hS.2.2.1)]; exact hS.2.2.1, hS.2.2.2.trans (hb.mono hS.2.2.2.size)⟩))
  have HL := Lib.hid (fun (W : World) (hS : W.cell? ⟨X, 0, none⟩ = some (.int .i64 p) ∧ W.cell? ⟨X, 1, none⟩ = some (.int .i64 o) ∧ W.cell? ⟨X, 2, none⟩ = some (.int .i64 B) ∧ Below w.heap.size w W) =>
    (lives_any W).mono (R' := fun e w' => e = .returned (.bool true) ∧ w'.cell? ⟨X, 0, none⟩ = some (.int .i64 p) ∧ w'.cell? ⟨X, 1, none⟩ = some (.int .i64 o) ∧ w'.cell? ⟨X, 2, none⟩ = some (.int .i64 B) ∧ Below w.heap.size w w') (fun e w' ⟨he, hb⟩ =>
      ⟨he, by rw [hb.cell (World.block_lt_of_cell? W _ hS.1)]; exact hS.1, by rw [hb.cell (World.block_lt_of_cell? W _ hS.2.1)]; exact hS.2.1, by rw [hb.cell (World.block_lt_of_cell? W _ hS.2.2.1)]; exact hS.2.2.1, hS.2.2.2.trans (hb.mono hS.2.2.2.size)⟩))
  have HB5' := HB5.out
  have HB5d := HB5.out.drew
  have v1 : IntKind.i64.wrap (M1 + M2) = M1 + M2 := IntWalk.i64_in _ (by omega)
  have v2 : IntKind.i64.wrap (M3 + B) = M3 + B := IntWalk.i64_in _ (by omega)
  have v3 : IntKind.i64.wrap (M1 + M2 - B) = M1 + M2 - B := IntWalk.i64_in _ (by omega)
  have v4 : IntKind.i64.wrap (M1 + M2 - B + 1) = M1 + M2 - B + 1 := IntWalk.i64_in _ (by omega)
  by_cases hxy : y < x
  · have t3 : decide (y < x) = true := by simpa using hxy
    have t4 : decide (x > y) = true := by simpa using hxy
    clear hxy
    go_wp2_with fail
    refine wp_region_held_drew (S := fun w' => w'.cell? ⟨X, 0, none⟩ = some (.int .i64 p) ∧ w'.cell? ⟨X, 1, none⟩ = some (.int .i64 o) ∧ w'.cell? ⟨X, 2, none⟩ = some (.int .i64 B) ∧ Below w.heap.size w w') (by kernel_rfl) ⟨c0, c1, c2, HB5d⟩ (fun hHeld => ?_)
    refine wpAnyH_take (i := 0) (v := ?va0) rfl (by kernel_rfl) (by kernel_rfl) (by kernel_rfl) (fun _ _ _ h => h) (Or.inl ⟨by rfl, ?ya0⟩) (by assumption) ?ra0
    case ya0 =>
      intro w hSw
      try dsimp only at hSw
      go_simp
      all_goals with_reducible rfl
    try simp only [List.getElem_toArray, List.getElem_cons_zero, List.getElem_cons_succ, Act.put, List.setIfInBounds_toArray, List.set_cons_zero, List.set_cons_succ]
    refine wpAnyH_take (i := 1) (v := ?va1) rfl (by kernel_rfl) (by kernel_rfl) (by kernel_rfl) (fun _ _ _ h => h) (Or.inl ⟨by rfl, ?ya1⟩) (by assumption) ?ra1
    case ya1 =>
      intro w hSw
      try dsimp only at hSw
      go_simp
      all_goals with_reducible rfl
    try simp only [List.getElem_toArray, List.getElem_cons_zero, List.getElem_cons_succ, Act.put, List.setIfInBounds_toArray, List.set_cons_zero, List.set_cons_succ]
    refine wpAnyH_take (i := 2) (v := ?va2) rfl (by kernel_rfl) (by kernel_rfl) (by kernel_rfl) (fun _ _ _ h => h) (Or.inl ⟨by rfl, ?ya2⟩) (by assumption) ?ra2
    case ya2 =>
      intro w hSw
      try dsimp only at hSw
      go_simp
      all_goals with_reducible rfl
    try simp only [List.getElem_toArray, List.getElem_cons_zero, List.getElem_cons_succ, Act.put, List.setIfInBounds_toArray, List.set_cons_zero, List.set_cons_succ]
    refine wpAnyH_take (i := 3) (v := ?va3) rfl (by kernel_rfl) (by kernel_rfl) (by kernel_rfl) (fun _ _ _ h => h) (Or.inl ⟨by rfl, ?ya3⟩) (by assumption) ?ra3
    case ya3 =>
      intro w hSw
      try dsimp only at hSw
      go_simp
      all_goals with_reducible rfl
    try simp only [List.getElem_toArray, List.getElem_cons_zero, List.getElem_cons_succ, Act.put, List.setIfInBounds_toArray, List.set_cons_zero, List.set_cons_succ]
    refine wpAnyH_take (i := 4) (v := ?va4) rfl (by kernel_rfl) (by kernel_rfl) (by kernel_rfl) (fun _ _ _ h => h) (Or.inl ⟨by rfl, ?ya4⟩) (by assumption) ?ra4
    case ya4 =>
      intro w hSw
      try dsimp only at hSw
      go_simp
      all_goals with_reducible rfl
    try simp only [List.getElem_toArray, List.getElem_cons_zero, List.getElem_cons_succ, Act.put, List.setIfInBounds_toArray, List.set_cons_zero, List.set_cons_succ]
    refine wpAnyH_take (i := 5) (v := ?va5) rfl (by kernel_rfl) (by kernel_rfl) (by kernel_rfl) (fun _ _ _ h => h) (Or.inl ⟨by rfl, ?ya5⟩) (by assumption) ?ra5
    case ya5 =>
      intro w hSw
      try dsimp only at hSw
      go_simp
      all_goals with_reducible rfl
    try simp only [List.getElem_toArray, List.getElem_cons_zero, List.getElem_cons_succ, Act.put, List.setIfInBounds_toArray, List.set_cons_zero, List.set_cons_succ]
    refine wpAnyH_take (i := 6) (v := ?va6) rfl (by kernel_rfl) (by kernel_rfl) (by kernel_rfl) (fun _ _ _ h => h) (Or.inl ⟨by rfl, ?ya6⟩) (by assumption) ?ra6
    case ya6 =>
      intro w hSw
      try dsimp only at hSw
      go_simp
      all_goals with_reducible rfl
    try simp only [List.getElem_toArray, List.getElem_cons_zero, List.getElem_cons_succ, Act.put, List.setIfInBounds_toArray, List.set_cons_zero, List.set_cons_succ]
    refine wpAnyH_take (i := 7) (v := ?va7) rfl (by kernel_rfl) (by kernel_rfl) (by kernel_rfl) (fun _ _ _ h => h) (Or.inl ⟨by rfl, ?ya7⟩) (by assumption) ?ra7
    case ya7 =>
      intro w hSw
      try dsimp only at hSw
      go_simp
      all_goals with_reducible rfl
    try simp only [List.getElem_toArray, List.getElem_cons_zero, List.getElem_cons_succ, Act.put, List.setIfInBounds_toArray, List.set_cons_zero, List.set_cons_succ]
    refine wpAnyH_take (i := 8) (v := ?va8) rfl (by kernel_rfl) (by kernel_rfl) (by kernel_rfl) (fun _ _ _ h => h) (Or.inl ⟨by rfl, ?ya8⟩) (by assumption) ?ra8
    case ya8 =>
      intro w hSw
      try dsimp only at hSw
      go_simp
      all_goals with_reducible rfl
    try simp only [List.getElem_toArray, List.getElem_cons_zero, List.getElem_cons_succ, Act.put, List.setIfInBounds_toArray, List.set_cons_zero, List.set_cons_succ]
    refine wpAnyH_take (i := 9) (v := ?va9) rfl (by kernel_rfl) (by kernel_rfl) (by kernel_rfl) (fun _ _ _ h => h) (Or.inl ⟨by rfl, ?ya9⟩) (by assumption) ?ra9
    case ya9 =>
      intro w hSw
      try dsimp only at hSw
      go_simp
      all_goals with_reducible rfl
    try simp only [List.getElem_toArray, List.getElem_cons_zero, List.getElem_cons_succ, Act.put, List.setIfInBounds_toArray, List.set_cons_zero, List.set_cons_succ]
    refine wpAnyH_take (i := 10) (v := ?va10) rfl (by kernel_rfl) (by kernel_rfl) (by kernel_rfl) (fun _ _ _ h => h) (Or.inl ⟨by rfl, ?ya10⟩) (by assumption) ?ra10
    case ya10 =>
      intro w hSw
      try dsimp only at hSw
      go_simp
      all_goals with_reducible rfl
    try simp only [List.getElem_toArray, List.getElem_cons_zero, List.getElem_cons_succ, Act.put, List.setIfInBounds_toArray, List.set_cons_zero, List.set_cons_succ]
    refine wpAnyH_take (i := 11) (v := ?va11) rfl (by kernel_rfl) (by kernel_rfl) (by kernel_rfl) (fun _ _ _ h => h) (Or.inl ⟨by rfl, ?ya11⟩) (by assumption) ?ra11
    case ya11 =>
      intro w hSw
      try dsimp only at hSw
      go_simp
      all_goals with_reducible rfl
    try simp only [List.getElem_toArray, List.getElem_cons_zero, List.getElem_cons_succ, Act.put, List.setIfInBounds_toArray, List.set_cons_zero, List.set_cons_succ]
    refine wpAnyH_take (i := 12) (v := ?va12) rfl (by kernel_rfl) (by kernel_rfl) (by kernel_rfl) (fun _ _ _ h => h) (Or.inl ⟨by rfl, ?ya12⟩) (by assumption) ?ra12
    case ya12 =>
      intro w hSw
      try dsimp only at hSw
      go_simp
      all_goals with_reducible rfl
    try simp only [List.getElem_toArray, List.getElem_cons_zero, List.getElem_cons_succ, Act.put, List.setIfInBounds_toArray, List.set_cons_zero, List.set_cons_succ]
    refine wpAnyH_take (i := 13) (v := ?va13) rfl (by kernel_rfl) (by kernel_rfl) (by kernel_rfl) (fun _ _ _ h => h) (Or.inl ⟨by rfl, ?ya13⟩) (by assumption) ?ra13
    case ya13 =>
      intro w hSw
      try dsimp only at hSw
      go_simp
      all_goals with_reducible rfl
    try simp only [List.getElem_toArray, List.getElem_cons_zero, List.getElem_cons_succ, Act.put, List.setIfInBounds_toArray, List.set_cons_zero, List.set_cons_succ]
    refine wpAnyH_take (i := 14) (v := ?va14) rfl (by kernel_rfl) (by kernel_rfl) (by kernel_rfl) (fun _ _ _ h => h) (Or.inl ⟨by rfl, ?ya14⟩) (by assumption) ?ra14
    case ya14 =>
      intro w hSw
      try dsimp only at hSw
      go_simp
      all_goals with_reducible rfl
    try simp only [List.getElem_toArray, List.getElem_cons_zero, List.getElem_cons_succ, Act.put, List.setIfInBounds_toArray, List.set_cons_zero, List.set_cons_succ]
    refine wpAnyH_take (i := 15) (v := ?va15) rfl (by kernel_rfl) (by kernel_rfl) (by kernel_rfl) (fun _ _ _ h => h) (Or.inl ⟨by rfl, ?ya15⟩) (by assumption) ?ra15
    case ya15 =>
      intro w hSw
      try dsimp only at hSw
      go_simp
      all_goals with_reducible rfl
    try simp only [List.getElem_toArray, List.getElem_cons_zero, List.getElem_cons_succ, Act.put, List.setIfInBounds_toArray, List.set_cons_zero, List.set_cons_succ]
    refine wpAnyH_take (i := 16) (v := ?va16) rfl (by kernel_rfl) (by kernel_rfl) (by kernel_rfl) (fun _ _ _ h => h) (Or.inl ⟨by rfl, ?ya16⟩) (by assumption) ?ra16
    case ya16 =>
      intro w hSw
      try dsimp only at hSw
      go_simp
      all_goals with_reducible rfl
    try simp only [List.getElem_toArray, List.getElem_cons_zero, List.getElem_cons_succ, Act.put, List.setIfInBounds_toArray, List.set_cons_zero, List.set_cons_succ]
    refine wpAnyH_take (i := 17) (v := ?va17) rfl (by kernel_rfl) (by kernel_rfl) (by kernel_rfl) (fun _ _ _ h => h) (Or.inl ⟨by rfl, ?ya17⟩) (by assumption) ?ra17
    case ya17 =>
      intro w hSw
      try dsimp only at hSw
      go_simp
      all_goals with_reducible rfl
    try simp only [List.getElem_toArray, List.getElem_cons_zero, List.getElem_cons_succ, Act.put, List.setIfInBounds_toArray, List.set_cons_zero, List.set_cons_succ]
    refine wpAnyH_take (i := 18) (v := ?va18) rfl (by kernel_rfl) (by kernel_rfl) (by kernel_rfl) (fun _ _ _ h => h) (Or.inl ⟨by rfl, ?ya18⟩) (by assumption) ?ra18
    case ya18 =>
      intro w hSw
      try dsimp only at hSw
      go_simp
      all_goals with_reducible rfl
    try simp only [List.getElem_toArray, List.getElem_cons_zero, List.getElem_cons_succ, Act.put, List.setIfInBounds_toArray, List.set_cons_zero, List.set_cons_succ]
    refine wpAnyH_take (i := 19) (v := ?va19) rfl (by kernel_rfl) (by kernel_rfl) (by kernel_rfl) (fun _ _ _ h => h) (Or.inl ⟨by rfl, ?ya19⟩) (by assumption) ?ra19
    case ya19 =>
      intro w hSw
      try dsimp only at hSw
      go_simp
      all_goals with_reducible rfl
    try simp only [List.getElem_toArray, List.getElem_cons_zero, List.getElem_cons_succ, Act.put, List.setIfInBounds_toArray, List.set_cons_zero, List.set_cons_succ]
    refine wpAnyH_take (i := 20) (v := ?va20) rfl (by kernel_rfl) (by kernel_rfl) (by kernel_rfl) (fun _ _ _ h => h) (Or.inl ⟨by rfl, ?ya20⟩) (by assumption) ?ra20
    case ya20 =>
      intro w hSw
      try dsimp only at hSw
      go_simp
      all_goals with_reducible rfl
    try simp only [List.getElem_toArray, List.getElem_cons_zero, List.getElem_cons_succ, Act.put, List.setIfInBounds_toArray, List.set_cons_zero, List.set_cons_succ]
    refine wpAnyH_take (i := 22) (v := ?va22) rfl (by kernel_rfl) (by kernel_rfl) (by kernel_rfl) (fun _ _ _ h => h) (Or.inl ⟨by rfl, ?ya22⟩) (by assumption) ?ra22
    case ya22 =>
      intro w hSw
      try dsimp only at hSw
      go_simp
      all_goals with_reducible rfl
    try simp only [List.getElem_toArray, List.getElem_cons_zero, List.getElem_cons_succ, Act.put, List.setIfInBounds_toArray, List.set_cons_zero, List.set_cons_succ]
    refine wpAnyH_take (i := 23) (v := ?va23) rfl (by kernel_rfl) (by kernel_rfl) (by kernel_rfl) (fun _ _ _ h => h) (Or.inl ⟨by rfl, ?ya23⟩) (by assumption) ?ra23
    case ya23 =>
      intro w hSw
      try dsimp only at hSw
      go_simp
      all_goals with_reducible rfl
    try simp only [List.getElem_toArray, List.getElem_cons_zero, List.getElem_cons_succ, Act.put, List.setIfInBounds_toArray, List.set_cons_zero, List.set_cons_succ]
    refine wpAnyH_ready (rs := [21]) (by kernel_rfl) (by simp) ?_
    refine AllReadyH.cons rfl (fun K hK => ?_) AllReadyH.nil
    go_simp
    go_at_call 15
    refine (HS.out _ hHeld).mono ?_
    rintro e w' ⟨rfl, k⟩
    refine hK.out _ _ k (fun hHeld2 => ?_)
    clear hK K hHeld
    have hHeld := hHeld2
    clear hHeld2
    refine wpAnyH_take (i := 24) (v := ?va24) rfl (by kernel_rfl) (by kernel_rfl) (by kernel_rfl) (fun _ _ _ h => h) (Or.inl ⟨by rfl, ?ya24⟩) (by assumption) ?ra24
    case ya24 =>
      intro w hSw
      try dsimp only at hSw
      go_simp
      all_goals with_reducible rfl
    try simp only [List.getElem_toArray, List.getElem_cons_zero, List.getElem_cons_succ, Act.put, List.setIfInBounds_toArray, List.set_cons_zero, List.set_cons_succ]
    refine wpAnyH_take (i := 25) (v := ?va25) rfl (by kernel_rfl) (by kernel_rfl) (by kernel_rfl) (fun _ _ _ h => h) (Or.inl ⟨by rfl, ?ya25⟩) (by assumption) ?ra25
    case ya25 =>
      intro w hSw
      try dsimp only at hSw
      go_simp
      all_goals with_reducible rfl
    try simp only [List.getElem_toArray, List.getElem_cons_zero, List.getElem_cons_succ, Act.put, List.setIfInBounds_toArray, List.set_cons_zero, List.set_cons_succ]
    refine wpAnyH_take (i := 26) (v := ?va26) rfl (by kernel_rfl) (by kernel_rfl) (by kernel_rfl) (fun _ _ _ h => h) (Or.inl ⟨by rfl, ?ya26⟩) (by assumption) ?ra26
    case ya26 =>
      intro w hSw
      try dsimp only at hSw
      go_simp
      all_goals with_reducible rfl
    try simp only [List.getElem_toArray, List.getElem_cons_zero, List.getElem_cons_succ, Act.put, List.setIfInBounds_toArray, List.set_cons_zero, List.set_cons_succ]
    refine wpAnyH_take (i := 27) (v := ?va27) rfl (by kernel_rfl) (by kernel_rfl) (by kernel_rfl) (fun _ _ _ h => h) (Or.inl ⟨by rfl, ?ya27⟩) (by assumption) ?ra27
    case ya27 =>
      intro w hSw
      try dsimp only at hSw
      go_simp
      all_goals with_reducible rfl
    try simp only [List.getElem_toArray, List.getElem_cons_zero, List.getElem_cons_succ, Act.put, List.setIfInBounds_toArray, List.set_cons_zero, List.set_cons_succ]
    refine wpAnyH_take (i := 28) (v := ?va28) rfl (by kernel_rfl) (by kernel_rfl) (by kernel_rfl) (fun _ _ _ h => h) (Or.inl ⟨by rfl, ?ya28⟩) (by assumption) ?ra28
    case ya28 =>
      intro w hSw
      try dsimp only at hSw
      go_simp
      all_goals with_reducible rfl
    try simp only [List.getElem_toArray, List.getElem_cons_zero, List.getElem_cons_succ, Act.put, List.setIfInBounds_toArray, List.set_cons_zero, List.set_cons_succ]
    refine wpAnyH_take (i := 29) (v := ?va29) rfl (by kernel_rfl) (by kernel_rfl) (by kernel_rfl) (fun _ _ _ h => h) (Or.inl ⟨by rfl, ?ya29⟩) (by assumption) ?ra29
    case ya29 =>
      intro w hSw
      try dsimp only at hSw
      go_simp
      all_goals with_reducible rfl
    try simp only [List.getElem_toArray, List.getElem_cons_zero, List.getElem_cons_succ, Act.put, List.setIfInBounds_toArray, List.set_cons_zero, List.set_cons_succ]
    refine wpAnyH_take (i := 30) (v := ?va30) rfl (by kernel_rfl) (by kernel_rfl) (by kernel_rfl) (fun _ _ _ h => h) (Or.inl ⟨by rfl, ?ya30⟩) (by assumption) ?ra30
    case ya30 =>
      intro w hSw
      try dsimp only at hSw
      go_simp
      all_goals with_reducible rfl
    try simp only [List.getElem_toArray, List.getElem_cons_zero, List.getElem_cons_succ, Act.put, List.setIfInBounds_toArray, List.set_cons_zero, List.set_cons_succ]
    refine wpAnyH_take (i := 31) (v := undef) rfl (by kernel_rfl) (by kernel_rfl) (by kernel_rfl) (fun _ _ _ h => h) (Or.inr ⟨by rfl, rfl⟩) (by assumption) ?ra31
    try simp only [List.getElem_toArray, List.getElem_cons_zero, List.getElem_cons_succ, Act.put, List.setIfInBounds_toArray, List.set_cons_zero, List.set_cons_succ]
    refine wpAnyH_take (i := 32) (v := undef) rfl (by kernel_rfl) (by kernel_rfl) (by kernel_rfl) (fun _ _ _ h => h) (Or.inr ⟨by rfl, rfl⟩) (by assumption) ?ra32
    try simp only [List.getElem_toArray, List.getElem_cons_zero, List.getElem_cons_succ, Act.put, List.setIfInBounds_toArray, List.set_cons_zero, List.set_cons_succ]
    refine wpAnyH_take (i := 33) (v := undef) rfl (by kernel_rfl) (by kernel_rfl) (by kernel_rfl) (fun _ _ _ h => h) (Or.inr ⟨by rfl, rfl⟩) (by assumption) ?ra33
    try simp only [List.getElem_toArray, List.getElem_cons_zero, List.getElem_cons_succ, Act.put, List.setIfInBounds_toArray, List.set_cons_zero, List.set_cons_succ]
    refine wpAnyH_take (i := 34) (v := ?va34) rfl (by kernel_rfl) (by kernel_rfl) (by kernel_rfl) (fun _ _ _ h => h) (Or.inl ⟨by rfl, ?ya34⟩) (by assumption) ?ra34
    case ya34 =>
      intro w hSw
      try dsimp only at hSw
      go_simp
      all_goals with_reducible rfl
    try simp only [List.getElem_toArray, List.getElem_cons_zero, List.getElem_cons_succ, Act.put, List.setIfInBounds_toArray, List.set_cons_zero, List.set_cons_succ]
    refine wpAnyH_take (i := 35) (v := ?va35) rfl (by kernel_rfl) (by kernel_rfl) (by kernel_rfl) (fun _ _ _ h => h) (Or.inl ⟨by rfl, ?ya35⟩) (by assumption) ?ra35
    case ya35 =>
      intro w hSw
      try dsimp only at hSw
      go_simp
      all_goals with_reducible rfl
    try simp only [List.getElem_toArray, List.getElem_cons_zero, List.getElem_cons_succ, Act.put, List.setIfInBounds_toArray, List.set_cons_zero, List.set_cons_succ]
    refine wpAnyH_take (i := 36) (v := ?va36) rfl (by kernel_rfl) (by kernel_rfl) (by kernel_rfl) (fun _ _ _ h => h) (Or.inl ⟨by rfl, ?ya36⟩) (by assumption) ?ra36
    case ya36 =>
      intro w hSw
      try dsimp only at hSw
      go_simp
      all_goals with_reducible rfl
    try simp only [List.getElem_toArray, List.getElem_cons_zero, List.getElem_cons_succ, Act.put, List.setIfInBounds_toArray, List.set_cons_zero, List.set_cons_succ]
    refine wpAnyH_ready (rs := [37]) (by kernel_rfl) (by simp) ?_
    refine AllReadyH.cons rfl (fun K hK => ?_) AllReadyH.nil
    go_simp
    go_at_call 16
    refine (HL.out _ hHeld).mono ?_
    rintro e w' ⟨rfl, k⟩
    refine hK.out _ _ k (fun hHeld2 => ?_)
    clear hK K hHeld
    have hHeld := hHeld2
    clear hHeld2
    refine wpAnyH_take (i := 38) (v := ?va38) rfl (by kernel_rfl) (by kernel_rfl) (by kernel_rfl) (fun _ _ _ h => h) (Or.inl ⟨by rfl, ?ya38⟩) (by assumption) ?ra38
    case ya38 =>
      intro w hSw
      try dsimp only at hSw
      go_simp
      all_goals with_reducible rfl
    try simp only [List.getElem_toArray, List.getElem_cons_zero, List.getElem_cons_succ, Act.put, List.setIfInBounds_toArray, List.set_cons_zero, List.set_cons_succ]
    refine wpAnyH_take (i := 39) (v := ?va39) rfl (by kernel_rfl) (by kernel_rfl) (by kernel_rfl) (fun _ _ _ h => h) (Or.inl ⟨by rfl, ?ya39⟩) (by assumption) ?ra39
    case ya39 =>
      intro w hSw
      try dsimp only at hSw
      go_simp
      all_goals with_reducible rfl
    try simp only [List.getElem_toArray, List.getElem_cons_zero, List.getElem_cons_succ, Act.put, List.setIfInBounds_toArray, List.set_cons_zero, List.set_cons_succ]
    refine wpAnyH_done (by kernel_rfl) ?_ _
    have HF := Lib.hid hHeld.2.2.2
    clear hHeld
    go_wp2
    go_ret
    exact ⟨rfl, HF.out⟩
  · have t3 : decide (y < x) = false := by simpa using hxy
    have t4 : decide (x > y) = false := by simpa using hxy
    have t5 : decide (M1 ≤ M2) = true := by have := HA.out.2.2.2 (by omega); simpa using this
    clear hxy
    go_wp2_with fail
    go_region_held3 (fun w' => w'.cell? ⟨X, 0, none⟩ = some (.int .i64 p) ∧ w'.cell? ⟨X, 1, none⟩ = some (.int .i64 o) ∧ w'.cell? ⟨X, 2, none⟩ = some (.int .i64 B) ∧ Below w.heap.size w w')
      (first | go_keep | exact ⟨c0, c1, c2, HB5d⟩ | exact ⟨c0, c1, c2, HB5'⟩ | exact ⟨by assumption, by assumption, by assumption, by assumption⟩)
      (first
        | (go_at_call 15; refine (HS.out _ ?_).mono ?_; (first | assumption | exact ⟨c0, c1, c2, HB5d⟩ | exact ⟨c0, c1, c2, HB5'⟩ | exact ⟨by assumption, by assumption, by assumption, by assumption⟩); rintro e w' ⟨rfl, k0, k1, k2, k3⟩)
        | (go_at_call 16; refine (HL.out _ ?_).mono ?_; (first | assumption | exact ⟨c0, c1, c2, HB5d⟩ | exact ⟨c0, c1, c2, HB5'⟩ | exact ⟨by assumption, by assumption, by assumption, by assumption⟩); rintro e w' ⟨rfl, k0, k1, k2, k3⟩))
    all_goals go_wp2
    all_goals go_ret
    all_goals exact ⟨rfl, k3⟩
end Go.Proofs.Ytjiclgebhndljaa
