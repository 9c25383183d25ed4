/- Plain laws of layer 1: quotients, roots, comparisons, sums, parts bit by bit, Chebyshev. -/
import Derived.Test.YtfmgcnmikopgeaaKnuth
namespace Go.Proofs.Ytfmgcnmikopgeaa
/-! Quotients. -/
theorem down_split (a b : Int) (hb : 1 ≤ b) : (a.tmod b < 0 ∧ a.tdiv b - 1 = a / b) ∨ (0 ≤ a.tmod b ∧ a.tdiv b = a / b) := by
  rw [Int.tdiv_eq_ediv, Int.tmod_eq_emod]
  have r0 := Int.emod_nonneg a (show b ≠ 0 by omega)
  have r1 := Int.emod_lt_of_pos a (show 0 < b by omega)
  by_cases h : 0 ≤ a ∨ b ∣ a
  · rw [if_pos h, if_pos h]; right; omega
  · rw [if_neg h, if_neg h, Int.sign_eq_one_of_pos (by omega)]; left; omega
def upZ (a b : Int) : Int := a / b + (if a % b = 0 then 0 else 1)
theorem up_split (a b : Int) (hb : 1 ≤ b) : (0 < a.tmod b ∧ a.tdiv b + 1 = upZ a b) ∨ (a.tmod b ≤ 0 ∧ a.tdiv b = upZ a b) := by
  unfold upZ
  rw [Int.tdiv_eq_ediv, Int.tmod_eq_emod]
  have r0 := Int.emod_nonneg a (show b ≠ 0 by omega)
  have r1 := Int.emod_lt_of_pos a (show 0 < b by omega)
  by_cases h : 0 ≤ a ∨ b ∣ a
  · rw [if_pos h, if_pos h]
    by_cases h0 : a % b = 0
    · rw [if_pos h0]; right; omega
    · rw [if_neg h0]; left; omega
  · rw [if_neg h, if_neg h, Int.sign_eq_one_of_pos (by omega)]
    have : a % b ≠ 0 := fun h0 => h (.inr (Int.dvd_of_emod_eq_zero h0))
    rw [if_neg this]; right; omega
theorem up_zero (a b : Int) (hb : 1 ≤ b) : (a.tmod b = 0 ∧ a.tdiv b = upZ a b) ∨ (a.tmod b ≠ 0 ∧ a / b + 1 = upZ a b) := by
  unfold upZ
  rw [Int.tdiv_eq_ediv, Int.tmod_eq_emod]
  have r0 := Int.emod_nonneg a (show b ≠ 0 by omega)
  have r1 := Int.emod_lt_of_pos a (show 0 < b by omega)
  by_cases h : 0 ≤ a ∨ b ∣ a
  · rw [if_pos h, if_pos h]
    by_cases h0 : a % b = 0
    · rw [if_pos h0]; left; omega
    · rw [if_neg h0]; right; omega
  · rw [if_neg h, if_neg h]
    have : a % b ≠ 0 := fun h0 => h (.inr (Int.dvd_of_emod_eq_zero h0))
    rw [if_neg this]; right; omega
theorem quo_bounds (a b : Int) (hb : 1 ≤ b) (h1 : -9223372036854775808 ≤ a) (h2 : a ≤ 9223372036854775807) :
    -9223372036854775808 ≤ a / b ∧ a / b ≤ 9223372036854775807 ∧ -9223372036854775808 ≤ a.tdiv b ∧ a.tdiv b ≤ 9223372036854775807 ∧ -b < a.tmod b ∧ a.tmod b < b ∧ a.tmod b + b * a.tdiv b = a ∧ a % b + b * (a / b) = a ∧ 0 ≤ a % b ∧ a % b < b := by
  have r0 := Int.emod_nonneg a (show b ≠ 0 by omega)
  have r1 := Int.emod_lt_of_pos a (show 0 < b by omega)
  have e1 := Int.emod_add_mul_ediv a b
  have e2 := Int.tmod_add_mul_tdiv a b
  have q1 : -9223372036854775808 ≤ a / b := by
    have : -9223372036854775808 * b ≤ a := by
      have : -9223372036854775808 * b ≤ -9223372036854775808 * 1 := Int.mul_le_mul_of_nonpos_left (by omega) hb
      omega
    exact (Int.le_ediv_iff_mul_le (by omega)).2 this
  have q2 : a / b ≤ 9223372036854775807 := by
    have : a < (9223372036854775807 + 1) * b := by
      have : (9223372036854775807 + 1) * 1 ≤ (9223372036854775807 + 1) * b := Int.mul_le_mul_of_nonneg_left hb (by omega)
      omega
    have := Int.ediv_lt_of_lt_mul (by omega) this
    omega
  have q3 : a.tdiv b ≤ 9223372036854775807 := by
    by_cases h0 : 0 ≤ a
    · rw [Int.tdiv_eq_ediv_of_nonneg h0]; exact q2
    · have := Int.tdiv_nonneg (show 0 ≤ -a by omega) (show 0 ≤ b by omega)
      rw [Int.neg_tdiv] at this
      omega
  have s := down_split a b hb
  have t1 : -b < a.tmod b ∧ a.tmod b < b := by
    rw [Int.tmod_eq_emod]
    by_cases h : 0 ≤ a ∨ b ∣ a
    · rw [if_pos h]; omega
    · rw [if_neg h]
      have : a % b ≠ 0 := fun h0 => h (.inr (Int.dvd_of_emod_eq_zero h0))
      omega
  exact ⟨q1, q2, by omega, q3, t1.1, t1.2, e2, e1, r0, r1⟩
/-! Roots. -/
def IsRoot (n r : Nat) : Prop := r * r ≤ n ∧ n < (r + 1) * (r + 1)
theorem sq_le {a b : Nat} (h : a ≤ b) : a * a ≤ b * b := Nat.mul_le_mul h h
theorem sq_lt {a b : Nat} (h : a * a < b * b) : a < b := by
  rcases Nat.lt_or_ge a b with h1 | h1
  · exact h1
  · have := sq_le h1; omega
theorem IsRoot.uniq {n r s : Nat} (h : IsRoot n r) (k : IsRoot n s) : r = s := by
  have h1 : r < s + 1 := sq_lt (Nat.lt_of_le_of_lt h.1 k.2)
  have h2 : s < r + 1 := sq_lt (Nat.lt_of_le_of_lt k.1 h.2)
  omega
theorem IsRoot.mono {n m r s : Nat} (h : IsRoot n r) (k : IsRoot m s) (hn : n ≤ m) : r ≤ s := by
  have h1 : r < s + 1 := sq_lt (Nat.lt_of_le_of_lt h.1 (Nat.lt_of_le_of_lt hn k.2))
  omega
theorem isRoot_sq (s : Nat) : IsRoot (s * s) s := ⟨Nat.le_refl _, by rw [Nat.mul_add, Nat.add_mul]; omega⟩
/-- A root found bit by bit: behind the bits from p on. -/
structure Bitwise (n r p : Nat) : Prop where
  le : r * r ≤ n
  lt : n < (r + 2 ^ p) * (r + 2 ^ p)
  div : 2 ^ p ∣ r
  small : r + 2 ^ p ≤ 4294967296
theorem Bitwise.start (n : Nat) (hn : n < 18446744073709551616) : Bitwise n 0 32 := ⟨by omega, by simpa using hn, by simp, by simp⟩
theorem Bitwise.or_eq {n r p : Nat} (h : Bitwise n r (p + 1)) : r ||| 2 ^ p = r + 2 ^ p := by
  obtain ⟨k, hk⟩ := h.div
  have hlt : 2 ^ p < 2 ^ (p + 1) := Nat.pow_lt_pow_right (by omega) (by omega)
  rw [hk, ← Nat.two_pow_add_eq_or_of_lt hlt]
theorem Bitwise.next {n r p : Nat} (h : Bitwise n r (p + 1)) : (r + 2 ^ p < 4294967296 ∧ (r + 2 ^ p) * (r + 2 ^ p) < 18446744073709551616) ∧
    ((r + 2 ^ p) * (r + 2 ^ p) ≤ n → Bitwise n (r + 2 ^ p) p) ∧ (n < (r + 2 ^ p) * (r + 2 ^ p) → Bitwise n r p) := by
  have e : 2 ^ (p + 1) = 2 ^ p + 2 ^ p := by rw [Nat.pow_succ]; omega
  have pp := Nat.two_pow_pos p
  have hs := h.small
  have hd : 2 ^ p ∣ r := Nat.dvd_trans ⟨2, Nat.pow_succ ..⟩ h.div
  have hl := h.lt
  rw [e] at hs hl
  have h1 : r + 2 ^ p < 4294967296 := by omega
  refine ⟨⟨h1, ?_⟩, fun hle => ⟨hle, ?_, Nat.dvd_add hd (Nat.dvd_refl _), by omega⟩, fun hlt => ⟨h.le, hlt, hd, by omega⟩⟩
  · have : (r + 2 ^ p) * (r + 2 ^ p) ≤ 4294967295 * 4294967295 := sq_le (by omega)
    omega
  · rw [Nat.add_assoc]; exact hl
theorem Bitwise.end {n r : Nat} (h : Bitwise n r 0) : IsRoot n r := ⟨h.le, by simpa using h.lt⟩
/-! How two numbers compare. -/
def cmpZ (u v : Int) : Int := if u < v then -1 else if v < u then 1 else 0
theorem cmpZ_range (u v : Int) : cmpZ u v = -1 ∨ cmpZ u v = 0 ∨ cmpZ u v = 1 := by unfold cmpZ; split; · simp
                                                                                   · split <;> simp
theorem cmpZ_neg (u v : Int) : cmpZ u v = -cmpZ v u := by unfold cmpZ; split <;> split <;> (try split) <;> omega
theorem cmpZ_le (u v : Int) : cmpZ u v ≤ 0 ↔ u ≤ v := by unfold cmpZ; split <;> (try split) <;> omega
theorem cmpZ_zero (u v : Int) : cmpZ u v = 0 ↔ u = v := by unfold cmpZ; split <;> (try split) <;> omega
theorem cmpZ_lt (u v : Int) : cmpZ u v < 0 ↔ u < v := by unfold cmpZ; split <;> (try split) <;> omega
theorem cmpZ_gt (u v : Int) : 0 < cmpZ u v ↔ v < u := by unfold cmpZ; split <;> (try split) <;> omega
theorem cmpZ_congr {u v u' v' : Int} (h1 : u < v ↔ u' < v') (h2 : v < u ↔ v' < u') : cmpZ u v = cmpZ u' v' := by unfold cmpZ; simp only [h1, h2]
theorem cmpZ_of_lt {u v : Int} (h : u < v) : cmpZ u v = -1 := by unfold cmpZ; rw [if_pos h]
theorem cmpZ_of_gt {u v : Int} (h : v < u) : cmpZ u v = 1 := by unfold cmpZ; rw [if_neg (by omega), if_pos h]
theorem cmpZ_self (u : Int) : cmpZ u u = 0 := (cmpZ_zero u u).2 rfl
/-- Two quotients, by what is whole. -/
theorem cmp_whole_lt {a b c d : Int} (hb : 1 ≤ b) (hd : 1 ≤ d) (h : a / b < c / d) : cmpZ (a * d) (c * b) = -1 := by
  refine cmpZ_of_lt ?_
  have e1 := Int.emod_add_mul_ediv a b
  have e2 := Int.emod_add_mul_ediv c d
  have r1 := Int.emod_lt_of_pos a (show 0 < b by omega)
  have r2 := Int.emod_nonneg c (show d ≠ 0 by omega)
  have s1 : a < b * (c / d) := by
    have : b * (a / b + 1) ≤ b * (c / d) := Int.mul_le_mul_of_nonneg_left (by omega) (by omega)
    rw [Int.mul_add] at this
    omega
  have s2 : a * d < b * (c / d) * d := Int.mul_lt_mul_of_pos_right s1 (by omega)
  have s3 : b * (c / d) * d ≤ b * c := by
    rw [Int.mul_assoc]
    refine Int.mul_le_mul_of_nonneg_left ?_ (by omega)
    rw [Int.mul_comm]; omega
  rw [Int.mul_comm c b]; omega
theorem cmp_whole_gt {a b c d : Int} (hb : 1 ≤ b) (hd : 1 ≤ d) (h : c / d < a / b) : cmpZ (a * d) (c * b) = 1 := by
  have := cmp_whole_lt hd hb h
  rw [cmpZ_neg, this]; rfl
theorem cmp_whole_eq {a b c d : Int} (h : a / b = c / d) : cmpZ (a * d) (c * b) = cmpZ (a % b * d) (c % d * b) := by
  have e1 := Int.emod_add_mul_ediv a b
  have e2 := Int.emod_add_mul_ediv c d
  have f1 : a * d = a % b * d + b * (a / b) * d := by rw [← Int.add_mul, e1]
  have f2 : c * b = c % d * b + b * (a / b) * d := by
    rw [h]
    have : b * (c / d) * d = d * (c / d) * b := by rw [Int.mul_assoc, Int.mul_comm (c / d) d, Int.mul_comm b]
    rw [this, ← Int.add_mul, e2]
  refine cmpZ_congr (by omega) (by omega)
/-! Sums that are cut at the greatest. -/
def most : Int := 4611686018427387903
def sumZ : List Int → Int
  | [] => 0
  | x :: l => x + sumZ l
theorem sumZ_append (l m : List Int) : sumZ (l ++ m) = sumZ l + sumZ m := by induction l with
  | nil => simp [sumZ]
  | cons x l ih => simp [sumZ, ih, Int.add_assoc]
theorem sumZ_nonneg {l : List Int} (h : ∀ x ∈ l, 0 ≤ x) : 0 ≤ sumZ l := by induction l with
  | nil => simp [sumZ]
  | cons x l ih => have := h x (by simp); have := ih (fun y hy => h y (by simp [hy])); simp [sumZ]; omega
theorem sumZ_take_le {l : List Int} (h : ∀ x ∈ l, 0 ≤ x) (k : Nat) : sumZ (l.take k) ≤ sumZ l := by
  have h1 : sumZ (l.take k) + sumZ (l.drop k) = sumZ l := by rw [← sumZ_append, List.take_append_drop]
  have h2 := sumZ_nonneg (l := l.drop k) (fun x hx => h x (List.mem_of_mem_drop hx))
  omega
theorem sumZ_take_succ {l : List Int} {k : Nat} {x : Int} (h : l[k]? = some x) : sumZ (l.take (k + 1)) = sumZ (l.take k) + x := by
  obtain ⟨hk, rfl⟩ := List.getElem?_eq_some_iff.1 h
  rw [List.take_succ_eq_append_getElem hk, sumZ_append]; simp [sumZ]
end Go.Proofs.Ytfmgcnmikopgeaa
