/- Layer 21: contracts of rise, fall, Now, Base, New. -/
import Derived.Test.YtklbnldkfohkpaaAround
import Derived.Test.YtklbnldkfohkpaaAdaptPlain
namespace Go.Proofs.Ytklbnldkfohkpaa
open Go.RowKit
def LimAt (w : World) (b : Nat) (l : Lim) : Prop := BlockAt w b 88 [.int .i64 l.low, .int .i64 l.high, .int .i64 l.lim, .int .i64 l.base, .bool l.cut, .int .i64 l.last]
theorem LimAt.keep {S : List Nat} {w w' : World} {b : Nat} {l : Lim} (h : LimAt w b l) (u : Upd S w w') (hs : b ∉ S) : LimAt w' b l := BlockAt.keep h u hs
theorem LimAt.lt {w : World} {b : Nat} {l : Lim} (h : LimAt w b l) : b < w.heap.size := BlockAt.lt h
theorem LimAt.cells {w : World} {b : Nat} {l : Lim} (h : LimAt w b l) : w.cell? ⟨b, 0, none⟩ = some (.int .i64 l.low) ∧ w.cell? ⟨b, 1, none⟩ = some (.int .i64 l.high) ∧ w.cell? ⟨b, 2, none⟩ = some (.int .i64 l.lim) ∧
    w.cell? ⟨b, 3, none⟩ = some (.int .i64 l.base) ∧ w.cell? ⟨b, 4, none⟩ = some (.bool l.cut) ∧ w.cell? ⟨b, 5, none⟩ = some (.int .i64 l.last) :=
  ⟨BlockAt.cell h 0 _ rfl, BlockAt.cell h 1 _ rfl, BlockAt.cell h 2 _ rfl, BlockAt.cell h 3 _ rfl, BlockAt.cell h 4 _ rfl, BlockAt.cell h 5 _ rfl⟩
theorem LimAt.free {w : World} {b : Nat} {l : Lim} (h : LimAt w b l) (i : Nat) : w.frozen? ⟨b, i, none⟩ = false := BlockAt.free h i

theorem now_any (b : Nat) (l : Lim) (w : World) (h : LimAt w b l) : Calls Try.prog 29 #[.pointer (some ⟨b, 0, none⟩)] w fun e w' => e = .returned (.int .i64 l.lim) ∧ w = w' := by
  obtain ⟨c0, c1, c2, c3, c4, c5⟩ := h.cells
  clear h
  go_enter Try.func29, Try.ntmps29
  go_wp2
  go_ret
  exact ⟨rfl, rfl⟩
theorem new_any (low high : Int) (w : World) : Calls Try.prog 26 #[.int .i64 low, .int .i64 high] w fun e w' => e = .returned (.pointer (some ⟨w.heap.size, 0, none⟩)) ∧ LimAt w' w.heap.size (newLim low high) ∧ Upd [] w w' := by
  go_enter Try.func26, Try.ntmps26
  go_wp2
  go_ret
  exact ⟨rfl, BlockAt.new _ _ _, Upd.alloc _ _ _⟩
theorem rise_any (b : Nat) (l : Lim) (now under : Int) (w : World) (h : LimAt w b l) (h1 : 0 ≤ l.lim) (h2 : l.lim ≤ 1000) :
    Calls Try.prog 41 #[.pointer (some ⟨b, 0, none⟩), .int .i64 now, .int .i64 under] w fun e w' => e = .returned (.int .i64 (l.rise under)) ∧ ∃ n, w' = w.drewN n := by
  obtain ⟨c0, c1, c2, c3, c4, c5⟩ := h.cells
  clear h
  obtain ⟨low, high, lim, base, cut, last⟩ := l
  dsimp only at *
  by_cases hu : lim ≤ under
  · have hd : decide (lim ≤ under) = true := by simpa using hu
    by_cases hl : lim < high
    · have H : Hid (Lim.rise ⟨low, high, lim, base, cut, last⟩ under = lim + 1) := by unfold Hid Lim.rise; simp [hu, hl]
      go_enter Try.func41, Try.ntmps41
      go_wp2
      go_quiet (fail)
      go_wp2
      go_ret
      exact ⟨by rw [H.out]; rfl, _, rfl⟩
    · have H : Hid (Lim.rise ⟨low, high, lim, base, cut, last⟩ under = lim) := by unfold Hid Lim.rise; simp [hl]
      go_enter Try.func41, Try.ntmps41
      go_wp2
      go_quiet (fail)
      go_wp2
      go_ret
      exact ⟨by rw [H.out]; rfl, _, rfl⟩
  · have hd : decide (lim ≤ under) = false := by simpa using hu
    have H : Hid (Lim.rise ⟨low, high, lim, base, cut, last⟩ under = lim) := by unfold Hid Lim.rise; simp [hu]
    go_enter Try.func41, Try.ntmps41
    go_wp2
    go_quiet (fail)
    go_wp2
    go_ret
    exact ⟨by rw [H.out]; rfl, _, rfl⟩
end Go.Proofs.Ytklbnldkfohkpaa
