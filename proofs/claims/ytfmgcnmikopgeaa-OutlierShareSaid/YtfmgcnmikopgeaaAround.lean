/- Around: modulo, from 0 on. -/
import Derived.Test.YtfmgcnmikopgeaaBase
namespace Go.Proofs.Ytfmgcnmikopgeaa
open Go.RowKit
def around (n m : Int) : Int := (if n < 0 then -(n + 1) else n) % m
theorem around_nonneg (n m : Int) (hm : 1 ≤ m) : 0 ≤ around n m := by unfold around; exact Int.emod_nonneg _ (by omega)
theorem around_lt (n m : Int) (hm : 1 ≤ m) : around n m < m := by unfold around; exact Int.emod_lt_of_pos _ (by omega)
theorem tmod_nonneg (a m : Int) (h : 0 ≤ a) : a.tmod m = a % m := by rw [Int.tmod_eq_emod_of_nonneg h]
theorem tdiv_nonneg (a m : Int) (h : 0 ≤ a) : a.tdiv m = a / m := by rw [Int.tdiv_eq_ediv_of_nonneg h]
theorem around_any (n most : Int) (w : World) (h1 : -9223372036854775808 ≤ n) (h2 : n ≤ 9223372036854775807) (hm : 1 ≤ most) :
    Calls Try.prog 12 #[.int .i64 n, .int .i64 most] w fun e w' => e = .returned (.int .i64 (around n most)) ∧ w = w' := by
  by_cases hn : n < 0
  · have hf : around n most = -((n + 1).tmod most) := by unfold around; rw [if_pos hn, ← Int.neg_tmod, tmod_nonneg _ _ (by omega)]
    have H := Lib.hid hf
    clear hf
    go_enter Try.func12, Try.ntmps12
    go_wp2
    go_ret
    exact ⟨by rw [H.out]; rfl, rfl⟩
  · have hf : around n most = n % most := by unfold around; rw [if_neg hn]
    have H := Lib.hid hf
    clear hf
    have hn' : 0 ≤ n := by omega
    go_enter Try.func12, Try.ntmps12
    go_wp2
    go_ret
    exact ⟨by rw [H.out]; rfl, rfl⟩
end Go.Proofs.Ytfmgcnmikopgeaa
