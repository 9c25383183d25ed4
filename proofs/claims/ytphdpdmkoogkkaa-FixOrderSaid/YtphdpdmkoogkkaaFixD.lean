/- Layer 1: the examples; some, above; what FixShares asks. -/
import Derived.Test.YtphdpdmkoogkkaaFixB
import Derived.Test.YtphdpdmkoogkkaaFixC
namespace Go.Proofs.Ytphdpdmkoogkkaa
open Go.RowKit
def TruePost (w : World) (e : Ending) (w' : World) : Prop := e = .returned (.bool true) ∧ Below w.heap.size w w'
theorem PartPost.below {Q : Nat} {w w' : World} {e : Ending} (h : PartPost Q w e w') : e = .returned (.int .i64 (Q : Int)) ∧ Below w.heap.size w w' := by
  obtain ⟨he, n, rfl⟩ := h
  exact ⟨he, Upd.below (Upd.drewN [] w n) (Nat.le_refl _) (by simp)⟩
theorem some_any (n : Int) (w : World) (h1 : -9223372036854775808 ≤ n) (h2 : n ≤ 9223372036854775807) :
    Calls Try.prog 14 #[.int .i64 n] w fun e w' => e = .returned (.int .i64 (around n 4611686018427387904)) ∧ w = w' := by
  go_enter Try.func14, Try.ntmps14
  go_wp2_with fail
  refine (around_any n 4611686018427387904 _ h1 h2 (by omega)).mono ?_
  rintro e w' ⟨rfl, rfl⟩
  go_wp2
  go_ret
  exact ⟨rfl, rfl⟩
theorem above_any (n : Int) (w : World) (h1 : -9223372036854775808 ≤ n) (h2 : n ≤ 9223372036854775807) :
    Calls Try.prog 23 #[.int .i64 n] w fun e w' => e = .returned (.int .i64 (1 + around n 4611686018427387904)) ∧ w = w' := by
  have y0 := around_nonneg n 4611686018427387904 (by omega)
  have y1 := around_lt n 4611686018427387904 (by omega)
  have HA := Lib.hid (fun w => around_any n 4611686018427387904 w h1 h2 (by omega))
  obtain ⟨k, hk⟩ : ∃ k, around n 4611686018427387904 = k := ⟨_, rfl⟩
  rw [hk] at y0 y1 HA ⊢
  clear hk
  go_enter Try.func23, Try.ntmps23
  go_wp2_with fail
  refine (HA.out _).mono ?_
  rintro e w' ⟨rfl, rfl⟩
  go_wp2
  go_ret
  exact ⟨rfl, rfl⟩
theorem ex_pairs : ∀ p ∈ [((9 : Int), (10 : Int)), (9, 10), (9, 10), (1, 10)], PairOk p := by
  intro p hp
  simp at hp
  rcases hp with rfl | rfl <;> exact ⟨by decide, by decide, by decide, by decide⟩
theorem ex_part : partN 1099511627776 1099511627776 2199023255552 = 549755813888 := by decide +kernel
theorem ex_far : farB (shareZ 1 10) 15 (shares [(9, 10), (9, 10), (9, 10), (1, 10)]) = true := by decide +kernel
theorem lives_any (w : World) : Calls Try.prog 15 #[] w (TruePost w) := by
  have hL := BlockAt.new w 30 [.int .i64 9, .int .i64 10, .int .i64 9, .int .i64 10, .int .i64 9, .int .i64 10, .int .i64 1, .int .i64 10]
  have hin : PairsIn (w.alloc (.cells #[.int .i64 9, .int .i64 10, .int .i64 9, .int .i64 10, .int .i64 9, .int .i64 10, .int .i64 1, .int .i64 10] 30)) (.slice (some ⟨w.heap.size, 0, none⟩) 4 4) [(9, 10), (9, 10), (9, 10), (1, 10)] := by
    refine ⟨_, 4, rfl, by simp, ex_pairs, .inr ⟨_, 0, rfl, fun j p hp => ?_⟩⟩
    match j, hp with
    | 0, hp => cases hp; exact ⟨hL.cell 0 _ rfl, hL.cell 1 _ rfl⟩
    | 1, hp => cases hp; exact ⟨hL.cell 2 _ rfl, hL.cell 3 _ rfl⟩
    | 2, hp => cases hp; exact ⟨hL.cell 4 _ rfl, hL.cell 5 _ rfl⟩
    | 3, hp => cases hp; exact ⟨hL.cell 6 _ rfl, hL.cell 7 _ rfl⟩
    | j + 4, hp => simp at hp
  have HIN := Lib.hid hin
  have HB := Lib.hid (show Below w.heap.size w (w.alloc (.cells #[.int .i64 9, .int .i64 10, .int .i64 9, .int .i64 10, .int .i64 9, .int .i64 10, .int .i64 1, .int .i64 10] 30)) from (Below.refl _ _).alloc (Nat.le_refl _) _)
  have hp := fun w => (part_any 1099511627776 1099511627776 2199023255552 w (by omega) (by omega) (by omega) (by omega)).mono fun e w' h => h.below
  rw [ex_part] at hp
  have HP := Lib.hid hp
  clear hL hin hp
  go_enter Try.func15, Try.ntmps15
  go_wp2_with fail
  refine (down_any (-7) 2 _ (by omega) (by omega) (by omega) (by omega)).mono ?_
  rintro e w1 ⟨rfl, rfl⟩
  go_wp2_with fail
  refine (HP.out _).mono ?_
  rintro e w1 ⟨rfl, hb⟩
  have HIN2 := Lib.hid (HIN.out.keep (Upd.ofBelow hb) (by simp))
  have HB2 := Lib.hid (HB.out.trans (hb.mono HB.out.size))
  clear hb
  go_wp2_with fail
  refine (far_any 1 10 _ _ 15 _ ⟨by decide, by decide, by decide, by decide⟩ HIN2.out (by omega) (by omega)).mono ?_
  rintro e w2 ⟨rfl, hb⟩
  rw [ex_far]
  have HB3 := Lib.hid (HB2.out.trans (hb.mono HB2.out.size))
  clear hb
  go_wp2
  go_ret
  exact ⟨rfl, HB3.out⟩
theorem partN_small {n k d : Nat} (h : n * k ≤ 4611686018427387903) : partN n k d = n * k / d := by
  have := Nat.div_le_self (n * k) d
  unfold partN; omega
theorem partN_self {n d : Nat} (hd : 1 ≤ d) (h : n ≤ 4611686018427387903) : partN n d d = n := by
  unfold partN; rw [Nat.mul_div_cancel _ (by omega)]; omega
end Go.Proofs.Ytphdpdmkoogkkaa
