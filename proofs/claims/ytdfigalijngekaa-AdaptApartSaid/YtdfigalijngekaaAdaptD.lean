/- Layer 21: contracts of lives and played. -/
import Derived.Test.YtdfigalijngekaaAdaptC
namespace Go.Proofs.Ytdfigalijngekaa
open Go.RowKit
def livesAt (k : Nat) : Lim := ⟨2, 9, 2 + k, if k = 0 then 0 else 5, false, 0⟩
theorem livesAt_succ (k : Nat) (h : k < 6) : (livesAt k).done k (2 + k) 5 true = livesAt (k + 1) := by
  match k, h with
  | 0, _ => rfl
  | 1, _ => rfl
  | 2, _ => rfl
  | 3, _ => rfl
  | 4, _ => rfl
  | 5, _ => rfl
theorem livesAt_ok (k : Nat) (h : k ≤ 6) : (livesAt k).Ok := by
  unfold livesAt; constructor <;> dsimp only <;> (try split) <;> omega
theorem lives_d1 : (livesAt 6).done 6 8 30 true = ⟨2, 9, 6, 5, true, 6⟩ := rfl
theorem lives_d2 : Lim.done ⟨2, 9, 6, 5, true, 6⟩ 6 6 5 false = ⟨2, 9, 6, 5, true, 6⟩ := rfl
def TruePost (w : World) (e : Ending) (w' : World) : Prop := e = .returned (.bool true) ∧ Below w.heap.size w w'
set_option maxHeartbeats 400000 in
theorem lives_any (w : World) : Calls Try.prog 13 #[] w (TruePost w) := by
  go_enter Try.func13, Try.ntmps13
  go_wp2_with fail
  refine (new_any 2 9 _).mono ?_
  rintro e w1 ⟨rfl, hl, hu⟩
  go_wp2_with fail
  go_loopw [2] (fun i wr => ∃ k : Nat, k ≤ 6 ∧ i = .int .i64 k ∧ LimAt wr w.heap.size (livesAt k) ∧ Below w.heap.size w wr) (fun i _ => 6 - (intOf i).toNat)
  case atStart => exact ⟨0, by omega, rfl, hl, hu.below (Nat.le_refl _) (by simp)⟩
  case round =>
    obtain ⟨k, hk, rfl, hl, hb⟩ := hrel
    by_cases h6 : k < 6
    · have HL := Lib.hid hl
      clear hl
      go_wp2_with fail
      refine (now_any w.heap.size (livesAt k) wr HL.out).mono ?_
      rintro e w2 ⟨rfl, rfl⟩
      go_wp2_with fail
      refine (done_any w.heap.size (livesAt k) k (2 + k) 5 true wr HL.out (livesAt_ok k hk) (by omega) (by omega) (by omega) (by omega)).mono ?_
      rintro e w2 ⟨rfl, hl, hu2⟩
      rw [livesAt_succ k h6] at hl
      go_wp2
      go_roundw
      case rel => exact ⟨k + 1, by omega, by go_num, hl, hb.trans (hu2.below hb.size (by simp))⟩
      case measure => simp [intOf]; omega
    · have h6' : k = 6 := by omega
      subst h6'
      have HL := Lib.hid hl
      clear hl
      go_wp2_with fail
      refine (now_any w.heap.size (livesAt 6) wr HL.out).mono ?_
      rintro e w2 ⟨rfl, rfl⟩
      go_wp2_with fail
      refine (done_any w.heap.size (livesAt 6) 6 8 30 true wr HL.out (livesAt_ok 6 hk) (by omega) (by omega) (by omega) (by omega)).mono ?_
      rintro e w2 ⟨rfl, hl, hu2⟩
      rw [lives_d1] at hl
      have HL2 := Lib.hid hl
      clear hl
      go_wp2_with fail
      refine (now_any w.heap.size _ w2 HL2.out).mono ?_
      rintro e w3 ⟨rfl, rfl⟩
      go_wp2_with fail
      refine (done_any w.heap.size _ 6 6 5 false w2 HL2.out (by constructor <;> dsimp only <;> omega) (by omega) (by omega) (by omega) (by omega)).mono ?_
      rintro e w3 ⟨rfl, hl, hu3⟩
      rw [lives_d2] at hl
      have HL3 := Lib.hid hl
      clear hl
      go_wp2_with (first | (go_at_call 10; refine (now_any w.heap.size _ w3 HL3.out).mono ?_; rintro e w4 ⟨rfl, rfl⟩) | (go_at_call 11; refine (base_any w.heap.size _ w3 HL3.out).mono ?_; rintro e w4 ⟨rfl, rfl⟩))
      go_ret
      exact ⟨rfl, (hb.trans (hu2.below hb.size (by simp))).trans (hu3.below (Nat.le_trans hb.size hu2.size) (by simp))⟩
end Go.Proofs.Ytdfigalijngekaa
