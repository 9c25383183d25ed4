/- Layer 19: what is kept behind whatever is done. -/
import Derived.Test.YtjiclgebhndljaaTokenAll
import Derived.Test.YtjiclgebhndljaaBools
namespace Go.Proofs.Ytjiclgebhndljaa
open Go.RowKit
structure Cons (p o B t c x : Int) : Prop where
  le : t * o + x ≤ B * o + c * p
  low : 0 ≤ x
  high : x ≤ B * o
  t0 : 0 ≤ t
  c0 : 0 ≤ c
theorem Cons.start (p o B : Int) (h : 0 ≤ B * o) : Cons p o B 0 0 (B * o) := ⟨by simp, h, by omega, by omega, by omega⟩
theorem Cons.fresh {p o B t c x : Int} (h : Cons p o B t c x) (p0 : 0 ≤ p) : Cons p o B t (c + 1) (min (x + p) (B * o)) := by
  obtain ⟨h1, h2, h3, h4, h5⟩ := h
  refine ⟨by rw [Int.add_mul c]; omega, by omega, by omega, h4, by omega⟩
/-- A call that does not count, while nothing has counted yet. -/
theorem Cons.idle {p o B x : Int} (h : Cons p o B 0 0 x) (p0 : 0 ≤ p) : Cons p o B 0 0 (min (x + p) (B * o)) := by
  obtain ⟨h1, h2, h3, h4, h5⟩ := h
  exact ⟨by omega, by omega, by omega, h4, h5⟩
theorem Cons.take {p o B t c x : Int} (h : Cons p o B t c x) (o0 : 0 ≤ o) (hx : o ≤ x) : Cons p o B (t + 1) c (x - o) := by
  obtain ⟨h1, h2, h3, h4, h5⟩ := h
  refine ⟨by rw [Int.add_mul t]; omega, by omega, by omega, by omega, h5⟩
theorem Cons.idleTake {p o B t c x : Int} (h : Cons p o B t c x) (o0 : 0 ≤ o) (hx : o ≤ x) : Cons p o B t c (x - o) := by
  obtain ⟨h1, h2, h3, h4, h5⟩ := h
  exact ⟨by omega, by omega, by omega, h4, h5⟩
theorem Cons.most {p o B t c x : Int} (h : Cons p o B t c x) (o0 : 1 ≤ o) : t + x / o ≤ mostOf p o B c ∧ t ≤ mostOf p o B c := by
  obtain ⟨h1, h2, h3, h4, h5⟩ := h
  unfold mostOf
  generalize c * p = Y at *
  have m1 := Int.emod_add_mul_ediv Y o
  have m3 := Int.emod_lt_of_pos Y (show 0 < o by omega)
  have n1 := Int.emod_add_mul_ediv x o
  have n2 := Int.emod_nonneg x (show o ≠ 0 by omega)
  have q0 : 0 ≤ x / o := Int.ediv_nonneg h2 (by omega)
  have e : (B + Y / o) * o = B * o + o * (Y / o) := by rw [Int.add_mul, Int.mul_comm (Y / o)]
  have e2 : (t + x / o) * o = t * o + o * (x / o) := by rw [Int.add_mul, Int.mul_comm (x / o)]
  have key : t + x / o ≤ B + Y / o := by
    have : (t + x / o) * o < (B + Y / o + 1) * o := by rw [Int.add_mul _ 1]; omega
    have := Int.lt_of_mul_lt_mul_right this (by omega)
    omega
  exact ⟨key, by omega⟩
end Go.Proofs.Ytjiclgebhndljaa
