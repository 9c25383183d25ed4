/- Layer 22: a queue in memory; the walks of its smaller functions. -/
import Derived.Test.YtapoikegoknlcaaItems
import Derived.BigQuiet
namespace Go.Proofs.Ytapoikegoknlcaa
open Go.RowKit
theorem clamp3_any (n : Int) (w : World) (h0 : 0 ≤ n) (h1 : n ≤ 3) :
    Calls Try.prog 19 #[.int .i64 n, .int .i64 0, .int .i64 3] w fun e w' => e = .returned (.int .i64 n) ∧ w = w' := by
  have a : ¬ n < 0 := by omega
  have b : ¬ 3 < n := by omega
  go_enter Try.func19, Try.ntmps19
  go_wp2
  go_ret
  exact ⟨rfl, rfl⟩
/-- A row: what waits of one priority. -/
structure Row where
  items : List It
  taken : Bool
  last : Int
def rowCells (v : Value) (r : Row) : List Value := [v, .bool r.taken, .int .i64 r.last]
/-- The queue's block: how many may wait, how many do, four rows. -/
def qCells (most n : Int) (v0 v1 v2 v3 : Value) (r0 r1 r2 r3 : Row) : List Value :=
  [.int .i64 most, .int .i64 n] ++ rowCells v0 r0 ++ rowCells v1 r1 ++ rowCells v2 r2 ++ rowCells v3 r3
theorem newQ_any (most : Int) (w : World) : Calls Try.prog 10 #[.int .i64 most] w fun e w' =>
    e = .returned (.pointer (some ⟨w.heap.size, 0, none⟩)) ∧ BlockAt w' w.heap.size 60 (qCells most 0 (.slice none 0 0) (.slice none 0 0) (.slice none 0 0) (.slice none 0 0) ⟨[], false, 0⟩ ⟨[], false, 0⟩ ⟨[], false, 0⟩ ⟨[], false, 0⟩) ∧ Below w.heap.size w w' := by
  go_enter Try.func10, Try.ntmps10
  go_wp2_with fail
  go_ret
  exact ⟨rfl, BlockAt.new w _ _, (Below.refl _ _).alloc (Nat.le_refl _) _⟩
theorem item_any (n id : Int) (w : World) (h1 : -9223372036854775808 ≤ n) (h2 : n ≤ 9223372036854775807) :
    Calls Try.prog 11 #[.int .i64 n, .int .i64 id] w fun e w' =>
      e = .returned (It.val ⟨id, around n 100000 % 4, around n 100000 / 4 % 5⟩) ∧ Below w.heap.size w w' := by
  have k0 := around_nonneg n 100000 (by omega)
  have k1 := around_lt n 100000 (by omega)
  have CA := Lib.hid (fun w => around_any n 100000 w h1 h2 (by omega))
  obtain ⟨k, hk⟩ : ∃ k, around n 100000 = k := ⟨_, rfl⟩
  rw [hk] at k0 k1 CA ⊢
  clear hk
  unfold It.val
  go_enter Try.func11, Try.ntmps11
  go_wp2_with fail
  refine (CA.out _).mono ?_
  rintro e w' ⟨rfl, rfl⟩
  go_wp2_with fail
  exact bodyPost_ret (v := .agg #[.int .i64 id, .int .i64 (k % 4), .int .i64 (k / 4 % 5)]) (by simp [results, Try.results11, go_sem]) rfl ⟨rfl, (Below.refl _ _).alloc (Nat.le_refl _) _⟩
end Go.Proofs.Ytapoikegoknlcaa
