/- Layer 1: the walks of Down, Up, Clamp (the program's, the reference's), at any numbers. -/
import Derived.Test.YtfmgcnmikopgeaaFixPlain
namespace Go.Proofs.Ytfmgcnmikopgeaa
open Go.RowKit
theorem down_any (a b : Int) (w : World) (h1 : -9223372036854775808 ≤ a) (h2 : a ≤ 9223372036854775807) (hb : 1 ≤ b) (hb2 : b ≤ 9223372036854775807) :
    Calls Try.prog 18 #[.int .i64 a, .int .i64 b] w fun e w' => e = .returned (.int .i64 (a / b)) ∧ w = w' := by
  obtain ⟨q1, q2, q3, q4, q5, q6, -, -, -, -⟩ := quo_bounds a b hb h1 h2
  have b0 : ¬ b = 0 := by omega
  have b1 : ¬ b < 1 := by omega
  have v1 : IntKind.i64.wrap (a.tdiv b) = a.tdiv b := IntWalk.i64_in _ (by omega)
  have v2 : IntKind.i64.wrap (a.tmod b) = a.tmod b := IntWalk.i64_in _ (by omega)
  obtain ⟨Q, hQ⟩ : ∃ Q, a / b = Q := ⟨_, rfl⟩
  obtain ⟨T, hT⟩ : ∃ T, a.tdiv b = T := ⟨_, rfl⟩
  obtain ⟨R, hR⟩ : ∃ R, a.tmod b = R := ⟨_, rfl⟩
  have hs := down_split a b hb
  rw [hQ, hT, hR] at hs
  rw [hQ] at q1 q2 ⊢
  rw [hT] at q3 q4 v1
  rw [hR] at q5 q6 v2
  clear hQ
  rcases hs with ⟨c1, c2⟩ | ⟨c1, c2⟩
  · obtain rfl : Q = T - 1 := by omega
    clear c2
    go_enter Try.func18, Try.ntmps18
    go_wp2
    go_ret
    exact ⟨rfl, rfl⟩
  · subst c2
    have c3 : ¬ R < 0 := by omega
    go_enter Try.func18, Try.ntmps18
    go_wp2
    go_ret
    exact ⟨rfl, rfl⟩
end Go.Proofs.Ytfmgcnmikopgeaa
