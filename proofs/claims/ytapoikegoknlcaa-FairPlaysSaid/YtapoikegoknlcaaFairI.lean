/- Layer 22: cmp.Compare and cmp.Or of ints. -/
import Derived.Test.YtapoikegoknlcaaFairH
import Derived.Test.YtapoikegoknlcaaMaps
namespace Go.Proofs.Ytapoikegoknlcaa
open Go.RowKit
def orI (x y : Int) : Int := if x = 0 then y else x
def cmpI (x y : Int) : Int := if x < y then -1 else if x > y then 1 else 0
theorem isNaN_any (x : Int) (w : World) : Calls Try.prog 46 #[.int .i64 x] w fun e w' => e = .returned (.bool false) ∧ w' = w := by
  go_enter Try.func46, Try.ntmps46
  go_wp2
  go_ret
  exact ⟨by simp, rfl⟩
theorem compare_any (x y : Int) (w : World) : Calls Try.prog 43 #[.int .i64 x, .int .i64 y] w fun e w' => e = .returned (.int .i64 (cmpI x y)) ∧ w' = w := by
  go_enter Try.func43, Try.ntmps43
  go_wp2_with fail
  refine (isNaN_any x w).mono ?_
  rintro e w1 ⟨rfl, rfl⟩
  go_wp2_with fail
  refine (isNaN_any y _).mono ?_
  rintro e w1 ⟨rfl, rfl⟩
  by_cases h1 : x < y
  · go_wp2
    go_ret
    exact ⟨by simp [cmpI, h1], rfl⟩
  · by_cases h2 : x > y
    · go_wp2
      go_ret
      exact ⟨by simp [cmpI, h1, h2], rfl⟩
    · obtain rfl : x = y := by omega
      clear h1 h2
      go_wp2
      go_ret
      exact ⟨by simp [cmpI], rfl⟩
theorem or_any (b cap : Nat) (x y : Int) (w : World) (c0 : w.cell? ⟨b, 0, none⟩ = some (.int .i64 x)) (c1 : w.cell? ⟨b, 1, none⟩ = some (.int .i64 y)) :
    Calls Try.prog 42 #[.slice (some ⟨b, 0, none⟩) 2 cap] w fun e w' => e = .returned (.int .i64 (orI x y)) ∧ w' = w := by
  go_enter Try.func42, Try.ntmps42
  go_wp2_with fail
  by_cases hx : x = 0
  · subst hx
    go_loop [8] (fun i => (i = .int .i64 0) ∨ (i = .int .i64 1) ∨ (i = .int .i64 2 ∧ y = 0)) (fun i => (2 - intOf i).toNat)
    case atStart => exact .inl rfl
    case round =>
      rcases hrel with rfl | rfl | ⟨rfl, hy⟩
      · go_wp2_with fail
        go_round
        case rel => exact .inr (.inl rfl)
        case measure => simp [intOf]
      · by_cases hy : y = 0
        · subst hy
          go_wp2_with fail
          go_round
          case rel => simp
          case measure => simp [intOf]
        · have hy' : (y != 0) = true := by simp [hy]
          go_wp2_with fail
          go_ret
          exact ⟨by simp [orI], rfl⟩
      · subst hy
        go_wp2_with fail
        go_ret
        exact ⟨by simp [orI], rfl⟩
  · have hx' : (x != 0) = true := by simp [hx]
    go_loop [8] (fun i => (i = .int .i64 0)) (fun i => (2 - intOf i).toNat)
    case atStart => exact rfl
    case round =>
      subst hrel
      go_wp2_with fail
      go_ret
      exact ⟨by simp [orI, hx], rfl⟩
theorem or_cmp (p q x y : Int) : decide (0 < orI (cmpI p q) (cmpI x y)) = decide (q < p ∨ (p = q ∧ y < x)) := by
  have h : 0 < orI (cmpI p q) (cmpI x y) ↔ (q < p ∨ (p = q ∧ y < x)) := by
    unfold orI cmpI
    by_cases h1 : p < q
    · simp [h1]; omega
    · by_cases h2 : p > q
      · simp [h1, h2]
      · have : p = q := by omega
        subst this
        by_cases h3 : x < y
        · simp [h3]; omega
        · by_cases h4 : x > y
          · simp [h3, h4]
          · simp [h3, h4]
  simp [h]
end Go.Proofs.Ytapoikegoknlcaa
