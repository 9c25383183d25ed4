/- Plain: the division of two words by one, digit by digit (what math/bits.Div64 reckons). -/
import Derived.Test.YtfmgcnmikopgeaaAround
import Derived.Test.YtfmgcnmikopgeaaShelf
import Derived.Lib.BitFns
import Derived.Lib.ItoaNum
import Derived.Laws.Bits64b
namespace Go.Proofs.Ytfmgcnmikopgeaa
open Go.RowKit
/-- q: a guess at a digit, no less than it is; r: what the guess leaves of the upper half. -/
structure Guess (a b u d q r : Nat) : Prop where
  sum : q * a + r = u
  up : (u * 4294967296 + d) / (a * 4294967296 + b) ≤ q
  top : q ≤ 4294967297
theorem Guess.ident {a b u d q r : Nat} (h : Guess a b u d q r) : q * (a * 4294967296 + b) + r * 4294967296 = u * 4294967296 + q * b := by
  have e : q * (a * 4294967296 + b) = q * a * 4294967296 + q * b := by rw [Nat.mul_add, Nat.mul_assoc]
  have := h.sum
  have e2 : u * 4294967296 = q * a * 4294967296 + r * 4294967296 := by rw [← this, Nat.add_mul]
  omega
theorem Guess.start {a b u d : Nat} (ha : 2147483648 ≤ a) (hb : b < 4294967296) (hu : u < a * 4294967296 + b) (hd : d < 4294967296) : Guess a b u d (u / a) (u % a) := by
  refine ⟨Nat.div_add_mod' u a, ?_, ?_⟩
  · have h1 : (u * 4294967296 + d) / (a * 4294967296 + b) ≤ (u * 4294967296 + d) / (4294967296 * a) := Nat.div_le_div_left (by omega) (by omega)
    rw [← Nat.div_div_eq_div_mul, show (u * 4294967296 + d) / 4294967296 = u by omega] at h1
    exact h1
  · have : u / a < 4294967298 := (Nat.div_lt_iff_lt_mul (by omega)).2 (by omega)
    omega
theorem digit_lt {a b u d : Nat} (hu : u < a * 4294967296 + b) (hd : d < 4294967296) : (u * 4294967296 + d) / (a * 4294967296 + b) < 4294967296 := by
  refine (Nat.div_lt_iff_lt_mul (by omega)).2 ?_
  have : (u + 1) * 4294967296 ≤ (a * 4294967296 + b) * 4294967296 := Nat.mul_le_mul_right _ hu
  omega
theorem Guess.less {a b u d q r : Nat} (h : Guess a b u d q r) (hu : u < a * 4294967296 + b) (hd : d < 4294967296) (hc : 4294967296 ≤ q ∨ 4294967296 * r + d < q * b) :
    1 ≤ q ∧ Guess a b u d (q - 1) (r + a) := by
  have hid := h.ident
  have hdig := digit_lt hu hd
  have hy : 0 < a * 4294967296 + b := by omega
  have hlt : (u * 4294967296 + d) / (a * 4294967296 + b) < q := by
    rcases hc with hc | hc
    · omega
    · have h5 : u * 4294967296 + d < q * (a * 4294967296 + b) := by omega
      exact (Nat.div_lt_iff_lt_mul hy).2 h5
  have h1 : 1 ≤ q := Nat.lt_of_le_of_lt (Nat.zero_le _) hlt
  refine ⟨h1, ?_, by omega, by have := h.top; omega⟩
  have := h.sum
  have e : (q - 1) * a + a = q * a := by
    have : q = (q - 1) + 1 := by omega
    rw [this, Nat.add_mul, Nat.one_mul]; rfl
  omega
theorem Guess.done {a b u d q r : Nat} (h : Guess a b u d q r) (hy : 0 < a * 4294967296 + b) (h2 : q * b ≤ 4294967296 * r + d) : (u * 4294967296 + d) / (a * 4294967296 + b) = q := by
  have hid := h.ident
  have : q ≤ (u * 4294967296 + d) / (a * 4294967296 + b) := (Nat.le_div_iff_mul_le hy).2 (by omega)
  have := h.up
  omega
theorem Guess.broke {a b u d q r : Nat} (h : Guess a b u d q r) (hy : 0 < a * 4294967296 + b) (hb : b < 4294967296) (h1 : q ≤ 4294967296) (h2 : 4294967296 ≤ r) : (u * 4294967296 + d) / (a * 4294967296 + b) = q := by
  refine h.done hy ?_
  have : q * b ≤ 4294967296 * 4294967295 := Nat.mul_le_mul h1 (by omega)
  omega
theorem Guess.bounds {a b u d q r : Nat} (h : Guess a b u d q r) (hb : b < 4294967296) : q * b ≤ 18446744073709551615 := by
  have : q * b ≤ 4294967297 * 4294967295 := Nat.mul_le_mul h.top (by omega)
  omega
theorem digits_join {y u e1 e0 q1 r1 : Nat} (hy : 0 < y) (h1 : (u * 4294967296 + e1) / y = q1) (h2 : (u * 4294967296 + e1) % y = r1) :
    (u * 18446744073709551616 + (e1 * 4294967296 + e0)) / y = q1 * 4294967296 + (r1 * 4294967296 + e0) / y := by
  have hd := Nat.div_add_mod (u * 4294967296 + e1) y
  rw [h1, h2] at hd
  have e : u * 18446744073709551616 + (e1 * 4294967296 + e0) = y * (q1 * 4294967296) + (r1 * 4294967296 + e0) := by
    have : (y * q1 + r1) * 4294967296 = (u * 4294967296 + e1) * 4294967296 := by rw [hd]
    rw [Nat.add_mul, Nat.mul_assoc] at this
    omega
  rw [e, Nat.mul_add_div hy]
/-- What stands in the words behind the shift. -/
structure Shifted (hi lo y s Y U T : Nat) : Prop where
  s64 : s ≤ 63
  Ydef : y * 2 ^ s = Y
  Ylo : 9223372036854775808 ≤ Y
  Yhi : Y < 18446744073709551616
  Ua : hi * 2 ^ s ||| lo / 2 ^ (64 - s) = U
  Uh : hi * 2 ^ s < 18446744073709551616
  Ult : U < Y
  Tdef : lo * 2 ^ s % 18446744073709551616 = T
  quo : (hi * 18446744073709551616 + lo) / y = (U * 18446744073709551616 + T) / Y
theorem shifted (hi lo y : Nat) (hy0 : 1 ≤ y) (hy1 : y < 18446744073709551616) (hhi : hi < y) (hlo : lo < 18446744073709551616) :
    ∃ Y U T, Shifted hi lo y (64 - Lib.bitLen y) Y U T := by
  have hb := Go.Lib.bitLenAux_bounds 64 y (by omega) (by omega)
  have hL : Lib.bitLen y = Lib.bitLenAux 64 y := rfl
  rw [← hL] at hb
  obtain ⟨l1, l2, l3⟩ := hb
  have l4 : Lib.bitLen y ≤ 64 := Lib.bitLen_le y 64 (by omega) (by omega)
  generalize Lib.bitLen y = L at *
  obtain ⟨s, hs⟩ : ∃ s, 64 - L = s := ⟨_, rfl⟩
  rw [hs]
  have hs63 : s ≤ 63 := by omega
  have e63 : 2 ^ (L - 1) * 2 ^ s = 9223372036854775808 := by rw [← Nat.pow_add, show L - 1 + s = 63 by omega]
  have e64 : 2 ^ L * 2 ^ s = 18446744073709551616 := by rw [← Nat.pow_add, show L + s = 64 by omega]
  have e64' : 2 ^ (64 - s) * 2 ^ s = 18446744073709551616 := by rw [← Nat.pow_add, show 64 - s + s = 64 by omega]
  have ps : 0 < 2 ^ s := Nat.two_pow_pos s
  have hYlo : 9223372036854775808 ≤ y * 2 ^ s := by rw [← e63]; exact Nat.mul_le_mul_right _ l2
  have hYhi : y * 2 ^ s < 18446744073709551616 := by rw [← e64]; exact Nat.mul_lt_mul_of_pos_right l3 ps
  have hUh : hi * 2 ^ s < 18446744073709551616 := by
    have : hi * 2 ^ s ≤ y * 2 ^ s := Nat.mul_le_mul_right _ (by omega)
    omega
  have hq : lo / 2 ^ (64 - s) < 2 ^ s := by
    refine (Nat.div_lt_iff_lt_mul (Nat.two_pow_pos _)).2 ?_
    rw [Nat.mul_comm, e64']; exact hlo
  have hor : hi * 2 ^ s ||| lo / 2 ^ (64 - s) = hi * 2 ^ s + lo / 2 ^ (64 - s) := by
    rw [Nat.mul_comm hi, ← Nat.two_pow_add_eq_or_of_lt hq]
  have hT : lo * 2 ^ s = lo / 2 ^ (64 - s) * 18446744073709551616 + lo * 2 ^ s % 18446744073709551616 := by
    have h1 : lo * 2 ^ s / 18446744073709551616 = lo / 2 ^ (64 - s) := by rw [← e64', Nat.mul_div_mul_right _ _ ps]
    omega
  have hN : (hi * 18446744073709551616 + lo) * 2 ^ s = (hi * 2 ^ s + lo / 2 ^ (64 - s)) * 18446744073709551616 + lo * 2 ^ s % 18446744073709551616 := by
    rw [Nat.add_mul, Nat.add_mul, Nat.mul_right_comm]
    omega
  refine ⟨_, _, _, hs63, rfl, hYlo, hYhi, rfl, hUh, ?_, rfl, ?_⟩
  · rw [hor]
    have h1 : (hi + 1) * 2 ^ s ≤ y * 2 ^ s := Nat.mul_le_mul_right _ hhi
    rw [Nat.add_mul, Nat.one_mul] at h1
    omega
  · rw [hor, ← hN, Nat.mul_div_mul_right _ _ ps]
end Go.Proofs.Ytfmgcnmikopgeaa
