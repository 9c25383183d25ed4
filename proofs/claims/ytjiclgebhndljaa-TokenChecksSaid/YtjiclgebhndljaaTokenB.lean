/- Layer 19: the walks of Left, Most, and of the reference; the example. -/
import Derived.Test.YtjiclgebhndljaaTokenA
import Derived.Test.YtjiclgebhndljaaPart
namespace Go.Proofs.Ytjiclgebhndljaa
open Go.RowKit
theorem quietDrew {P : Program} {f : FuncId} {args : Array Value} {w : World} {n : Nat} {v : Value}
    (h : Calls P f args (w.drewN n) fun e w' => e = .returned v ∧ ∃ m, w' = (w.drewN n).drewN m) : Calls P f args (w.drewN n) fun e w'' => e = .returned v ∧ ∃ m, w'' = w.drewN m :=
  h.mono fun _ _ ⟨he, m, hm⟩ => ⟨he, n + m, by rw [hm, World.drewN_drewN]⟩
theorem tdivI (a b : Int) (h : 0 ≤ a) : a.tdiv b = a / b := Int.tdiv_eq_ediv_of_nonneg h
theorem tmodI (a b : Int) (h : 0 ≤ a) : a.tmod b = a % b := Int.tmod_eq_emod_of_nonneg h
theorem downP_any (a b : Int) (w : World) (ha : 0 ≤ a) (ha1 : a ≤ 1000000) (hb : 1 ≤ b) (hb1 : b ≤ 1000000) :
    Calls Try.prog 28 #[.int .i64 a, .int .i64 b] w fun e w' => e = .returned (.int .i64 (a / b)) ∧ w = w' := by
  have d1 := tdivI a b ha
  have d2 := tmodI a b ha
  have q0 : 0 ≤ a / b := Int.ediv_nonneg ha (by omega)
  have q1 : a / b ≤ a := Int.ediv_le_self _ ha
  have r0 : 0 ≤ a % b := Int.emod_nonneg _ (by omega)
  have r2 : ¬ a % b < 0 := by omega
  have hb2 : ¬ b = 0 := by omega
  have hb3 : ¬ b < 1 := by omega
  have r1 : a % b < b := Int.emod_lt_of_pos _ (by omega)
  go_enter Try.func28, Try.ntmps28
  go_wp2
  go_ret
  exact ⟨rfl, rfl⟩
theorem left_any (b : Nat) (p o m x : Int) (w : World) (h : TokAt w b p o m x) (o0 : 1 ≤ o) (o1 : o ≤ 100) (h0 : 0 ≤ x) (h1 : x ≤ 10000) :
    Calls Try.prog 20 #[.pointer (some ⟨b, 0, none⟩)] w fun e w' => e = .returned (.int .i64 (x / o)) ∧ ∃ n, w' = w.drewN n := by
  have c1 := h.cell 1 _ rfl
  have c3 := h.cell 3 _ rfl
  have o2 : ¬ o < 1 := by omega
  have CD := Lib.hid (fun n => downP_any x o (w.drewN n) h0 (by omega) o0 (by omega))
  obtain ⟨q, hq⟩ : ∃ q, x / o = q := ⟨_, rfl⟩
  rw [hq] at CD ⊢
  clear h hq
  go_enter Try.func20, Try.ntmps20
  go_wp2_with fail
  go_quiet ((go_at_call 28; exact quietSame (CD.out _)))
  go_wp2
  go_ret
  exact ⟨rfl, _, rfl⟩
def mostOf (p o b c : Int) : Int := b + c * p / o
theorem most_any (p o b c : Int) (h : BudOk p o b) (w : World) (c0 : 0 ≤ c) (c1 : c ≤ 2147483648) :
    Calls Try.prog 15 #[bud p o b, .int .i64 c] w fun e w' => e = .returned (.int .i64 (mostOf p o b c)) ∧ Below w.heap.size w w' := by
  obtain ⟨p0, p1, o0, o1, b0, b1⟩ := h
  obtain ⟨P, rfl⟩ := Int.eq_ofNat_of_zero_le p0
  obtain ⟨O, rfl⟩ := Int.eq_ofNat_of_zero_le (show 0 ≤ o by omega)
  obtain ⟨C, rfl⟩ := Int.eq_ofNat_of_zero_le c0
  have hm : C * P ≤ 2147483648 * 100 := Nat.mul_le_mul (by omega) (by omega)
  have W := w.alloc (.cells #[.int .i64 (P : Int), .int .i64 (O : Int), .int .i64 b] 24)
  have CP := Lib.hid (fun (W : World) n => part_small C P O (W.drewN n) (by omega) (by omega) (by omega) (by omega) (by omega))
  have hq : C * P / O ≤ C * P := Nat.div_le_self _ _
  have e : mostOf P O b C = b + ((C * P / O : Nat) : Int) := by unfold mostOf; simp
  obtain ⟨Q, hQ⟩ : ∃ Q, C * P / O = Q := ⟨_, rfl⟩
  rw [hQ] at CP hq e
  rw [e]
  have o2 : ¬ (O : Int) < 1 := by omega
  clear hQ e
  unfold bud
  go_enter Try.func15, Try.ntmps15
  go_wp2_with fail
  go_quiet ((go_at_call 27; exact quietDrew (CP.out _ _)))
  go_wp2
  go_ret
  exact ⟨rfl, (((Below.refl _ _).alloc (Nat.le_refl _) _).trans (Upd.below (Upd.drewN [] _ _) (by simp) (by simp)))⟩
theorem rmost_any (p o b c : Int) (h : BudOk p o b) (w : World) (c0 : 0 ≤ c) (c1 : c ≤ 2147483648) :
    Calls Try.prog 19 #[bud p o b, .int .i64 c] w fun e w' => e = .returned (.int .i64 (mostOf p o b c)) ∧ Below w.heap.size w w' := by
  obtain ⟨p0, p1, o0, o1, b0, b1⟩ := h
  have hm0 : 0 ≤ c * p := Int.mul_nonneg c0 p0
  have hm : c * p ≤ 2147483648 * 100 := Int.mul_le_mul (by omega) (by omega) (by omega) (by omega)
  unfold mostOf
  obtain ⟨X, hX⟩ : ∃ X, c * p = X := ⟨_, rfl⟩
  rw [hX] at hm0 hm ⊢
  have q0 : 0 ≤ X / o := Int.ediv_nonneg hm0 (by omega)
  have q1 : X / o ≤ X := Int.ediv_le_self _ hm0
  have d1 := tdivI X o hm0
  have o2 : ¬ o = 0 := by omega
  have w1 : IntKind.i64.wrap X = X := IntWalk.i64_in _ (by omega)
  have w2 : IntKind.i64.wrap (X / o) = X / o := IntWalk.i64_in _ (by omega)
  have w3 : IntKind.i64.wrap (b + X / o) = b + X / o := IntWalk.i64_in _ (by omega)
  unfold bud
  go_enter Try.func19, Try.ntmps19
  go_wp2_with fail
  go_quiet (fail)
  go_wp2
  go_ret
  exact ⟨rfl, (((Below.refl _ _).alloc (Nat.le_refl _) _).trans (Upd.below (Upd.drewN [] _ _) (by simp) (by simp)))⟩
theorem rfresh_any (p o b x : Int) (h : BudOk p o b) (w : World) (h0 : 0 ≤ x) (h1 : x ≤ 10000) :
    Calls Try.prog 21 #[bud p o b, .int .i64 x] w fun e w' => e = .returned (.int .i64 (min (x + p) (b * o))) ∧ Below w.heap.size w w' := by
  obtain ⟨p0, p1, o0, o1, b0, b1⟩ := h
  have hm0 : 0 ≤ b * o := Int.mul_nonneg b0 (by omega)
  have hm : b * o ≤ 100 * 100 := Int.mul_le_mul (by omega) (by omega) (by omega) (by omega)
  obtain ⟨M, hM⟩ : ∃ M, b * o = M := ⟨_, rfl⟩
  rw [hM] at hm0 hm ⊢
  unfold bud
  by_cases hlt : M < x + p
  · rw [Int.min_eq_right (by omega)]
    go_enter Try.func21, Try.ntmps21
    go_wp2
    go_ret
    exact ⟨rfl, ((Below.refl _ _).alloc (Nat.le_refl _) _)⟩
  · rw [Int.min_eq_left (by omega)]
    go_enter Try.func21, Try.ntmps21
    go_wp2
    go_ret
    exact ⟨rfl, ((Below.refl _ _).alloc (Nat.le_refl _) _)⟩
theorem rtake_any (p o b x : Int) (h : BudOk p o b) (w : World) (h0 : 0 ≤ x) (h1 : x ≤ 10000) :
    Calls Try.prog 22 #[bud p o b, .int .i64 x] w fun e w' => e = .returned (.tuple #[.int .i64 (if o ≤ x then x - o else x), .bool (decide (o ≤ x))]) ∧ Below w.heap.size w w' := by
  obtain ⟨p0, p1, o0, o1, b0, b1⟩ := h
  unfold bud
  by_cases hlt : o ≤ x
  · have hd : decide (o ≤ x) = true := by simpa using hlt
    rw [if_pos hlt, hd]
    go_enter Try.func22, Try.ntmps22
    go_wp2
    go_ret2
    exact ⟨rfl, ((Below.refl _ _).alloc (Nat.le_refl _) _)⟩
  · have hd : decide (o ≤ x) = false := by simpa using hlt
    rw [if_neg hlt, hd]
    go_enter Try.func22, Try.ntmps22
    go_wp2
    go_ret2
    exact ⟨rfl, ((Below.refl _ _).alloc (Nat.le_refl _) _)⟩
theorem budget_any (n : Int) (w : World) (h1 : -9223372036854775808 ≤ n) (h2 : n ≤ 9223372036854775807) :
    Calls Try.prog 10 #[.int .i64 n] w fun e w' => (∃ p o b, e = .returned (bud p o b) ∧ BudOk p o b) ∧ Below w.heap.size w w' := by
  have k0 := around_nonneg n 1000000 (by omega)
  have k1 := around_lt n 1000000 (by omega)
  obtain ⟨k, hk⟩ : ∃ k, around n 1000000 = k := ⟨_, rfl⟩
  have HK := Lib.hid hk
  rw [hk] at k0 k1
  clear hk
  go_enter Try.func10, Try.ntmps10
  go_wp2_with fail
  refine (around_any n 1000000 _ h1 h2 (by omega)).mono ?_
  rintro e w' ⟨rfl, rfl⟩
  rw [show around n 1000000 = k from HK.out]
  by_cases h7 : (k % 31 == 7) = true
  · go_wp2_with fail
    exact bodyPost_ret (v := bud (k / 31 % 101) (1 + k / 7 % 100) (k / 3 % 101)) (by simp [results, Try.results10, go_sem, bud]) rfl
      ⟨⟨_, _, _, rfl, ⟨by omega, by omega, by omega, by omega, by omega, by omega⟩⟩, ((Below.refl _ _).alloc (Nat.le_refl _) _).alloc (by simp) _⟩
  · have h8 : (k % 31 == 7) = false := by simpa using h7
    go_wp2_with fail
    exact bodyPost_ret (v := bud (k % 6) (1 + k / 6 % 7) (k / 42 % 5)) (by simp [results, Try.results10, go_sem, bud]) rfl
      ⟨⟨_, _, _, rfl, ⟨by omega, by omega, by omega, by omega, by omega, by omega⟩⟩, ((Below.refl _ _).alloc (Nat.le_refl _) _).alloc (by simp) _⟩
end Go.Proofs.Ytjiclgebhndljaa
