/- Plain: parts, bit by bit (the reference's way). -/
import Derived.Test.YtphdpdmkoogkkaaFixPlain
namespace Go.Proofs.Ytphdpdmkoogkkaa
def partN (n k d : Nat) : Nat := min (n * k / d) 4611686018427387903
theorem div_add_split (x y d : Nat) (hd : 0 < d) : (x + y) / d = x / d + y / d + (if d ≤ x % d + y % d then 1 else 0) ∧ (x + y) % d = if d ≤ x % d + y % d then x % d + y % d - d else x % d + y % d := by
  have a1 := Nat.div_add_mod x d
  have a2 := Nat.div_add_mod y d
  have r1 := Nat.mod_lt x hd
  have r2 := Nat.mod_lt y hd
  have e : x + y = d * (x / d + y / d) + (x % d + y % d) := by rw [Nat.mul_add]; omega
  have h1 : (x + y) / d = x / d + y / d + (x % d + y % d) / d := by
    conv => lhs; rw [e]
    rw [Nat.mul_add_div hd]
  have h2 : (x + y) % d = (x % d + y % d) % d := by
    conv => lhs; rw [e]
    rw [Nat.mul_add_mod]
  rw [h1, h2]
  by_cases h : d ≤ x % d + y % d
  · rw [if_pos h, if_pos h]
    have q : (x % d + y % d) / d = 1 := by
      refine Nat.div_eq_of_lt_le ?_ ?_ <;> omega
    have m : (x % d + y % d) % d = x % d + y % d - d := by
      rw [Nat.mod_eq_sub_mod h, Nat.mod_eq_of_lt (by omega)]
    exact ⟨by rw [q], m⟩
  · rw [if_neg h, if_neg h]
    have hlt : x % d + y % d < d := by omega
    have q : (x % d + y % d) / d = 0 := Nat.div_eq_of_lt hlt
    exact ⟨by rw [q], Nat.mod_eq_of_lt hlt⟩
/-- What the reference holds of x: a quotient (right up to the greatest), and what is left. -/
structure PBit (x den q r : Nat) : Prop where
  r_eq : r = x % den
  q_eq : min q 4611686018427387903 = min (x / den) 4611686018427387903
  q_le : q ≤ 9223372036854775807
theorem PBit.zero (den : Nat) : PBit 0 den 0 0 := ⟨by simp, by simp, by omega⟩
theorem PBit.cut {x den q r : Nat} (h : PBit x den q r) : PBit x den (min q 4611686018427387903) r := ⟨h.r_eq, by have := h.q_eq; omega, by omega⟩
theorem PBit.twice {x den q r : Nat} (hd : 0 < den) (h : PBit x den q r) (hq : q ≤ 4611686018427387903) :
    (den ≤ r * 2 → PBit (2 * x) den (q * 2 + 1) (r * 2 - den)) ∧ (r * 2 < den → PBit (2 * x) den (q * 2) (r * 2)) := by
  obtain ⟨h1, h2, h3⟩ := h
  obtain ⟨s1, s2⟩ := div_add_split x x den hd
  have e : x + x = 2 * x := by omega
  rw [e] at s1 s2
  rw [← h1] at s1 s2
  generalize x / den = X at *
  refine ⟨fun hc => ?_, fun hc => ?_⟩
  · rw [if_pos (show den ≤ r + r by omega)] at s1 s2
    refine ⟨?_, ?_, by omega⟩
    · rw [s2]; omega
    · rw [s1]; clear s1 s2 h1; omega
  · rw [if_neg (show ¬ den ≤ r + r by omega)] at s1 s2
    refine ⟨?_, ?_, by omega⟩
    · rw [s2]; omega
    · rw [s1]; clear s1 s2 h1; omega
theorem PBit.more {x num den q r : Nat} (hd : 0 < den) (hn : num ≤ 4611686018427387903) (h : PBit x den q r) (hq : q ≤ 4611686018427387903) :
    (den ≤ r + num % den → PBit (x + num) den (q + num / den + 1) (r + num % den - den)) ∧ (r + num % den < den → PBit (x + num) den (q + num / den) (r + num % den)) := by
  obtain ⟨h1, h2, h3⟩ := h
  obtain ⟨s1, s2⟩ := div_add_split x num den hd
  have hw : num / den ≤ num := Nat.div_le_self _ _
  rw [← h1] at s1 s2
  generalize x / den = X at *
  generalize num / den = W at *
  generalize num % den = R at *
  refine ⟨fun hc => ?_, fun hc => ?_⟩
  · rw [if_pos hc] at s1 s2
    refine ⟨?_, ?_, by omega⟩
    · rw [s2]
    · rw [s1]; clear s1 s2 h1; omega
  · rw [if_neg (show ¬ den ≤ r + R by omega)] at s1 s2
    refine ⟨?_, ?_, by omega⟩
    · rw [s2]
    · rw [s1]; clear s1 s2 h1; omega
/-- The bits of n from i on. -/
theorem bits_next (n i : Nat) : n / 2 ^ i = 2 * (n / 2 ^ (i + 1)) + n / 2 ^ i % 2 := by
  have : n / 2 ^ (i + 1) = n / 2 ^ i / 2 := by rw [Nat.pow_succ, Nat.div_div_eq_div_mul]
  omega
theorem PBit.bit0 {n num den q r i : Nat} (h : PBit (2 * (n / 2 ^ (i + 1) * num)) den q r) (hb : n / 2 ^ i % 2 = 0) : PBit (n / 2 ^ i * num) den q r := by
  have := bits_next n i
  rw [hb, Nat.add_zero] at this
  rw [this, Nat.mul_assoc]; exact h
theorem PBit.bit1 {n num den q r i : Nat} (h : PBit (2 * (n / 2 ^ (i + 1) * num) + num) den q r) (hb : n / 2 ^ i % 2 = 1) : PBit (n / 2 ^ i * num) den q r := by
  have := bits_next n i
  rw [hb] at this
  rw [this, Nat.add_mul, Nat.one_mul, Nat.mul_assoc]; exact h
theorem PBit.end {n num den q r : Nat} (h : PBit (n / 2 ^ 0 * num) den q r) : min q 4611686018427387903 = partN n num den := by
  have := h.q_eq
  simpa [partN] using this
theorem PBit.r_lt {x den q r : Nat} (h : PBit x den q r) (hd : 0 < den) : r < den := by rw [h.r_eq]; exact Nat.mod_lt _ hd
theorem top_bits {n : Nat} (hn : n < 4611686018427387904) : n / 2 ^ 63 = 0 := Nat.div_eq_of_lt (by omega)
/-! What follows of parts. -/
theorem part_plain {a k d : Nat} (hd : 1 ≤ d) : a * k / d * d ≤ a * k ∧ a * k < (a * k / d + 1) * d := by
  have h1 := Nat.div_add_mod' (a * k) d
  have h2 := Nat.mod_lt (a * k) (show 0 < d by omega)
  rw [Nat.add_mul]
  omega
theorem part_sum {a b k d : Nat} (hd : 1 ≤ d) : a * k / d + b * k / d ≤ (a + b) * k / d ∧ (a + b) * k / d ≤ a * k / d + b * k / d + 1 := by
  rw [Nat.add_mul, (div_add_split (a * k) (b * k) d hd).1]
  split <;> omega
end Go.Proofs.Ytphdpdmkoogkkaa
