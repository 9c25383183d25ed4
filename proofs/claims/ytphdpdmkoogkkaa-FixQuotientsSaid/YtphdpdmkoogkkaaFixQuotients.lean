/- Layer 1: the walk of FixQuotients. -/
import Derived.Test.YtphdpdmkoogkkaaFixD
namespace Go.Proofs.Ytphdpdmkoogkkaa
open Go.RowKit
theorem ds_cell (w : World) (b1 b2 : Int) (h1 : 1 ≤ b1) (h2 : b1 ≤ 4611686018427387904) (h3 : 1 ≤ b2) (h4 : b2 ≤ 20) (k : Nat) (hk : k < 3) :
    ∃ z : Int, 1 ≤ z ∧ z ≤ 4611686018427387904 ∧ (w.alloc (.cells #[.int .i64 b1, .int .i64 b2, .int .i64 4611686018427387903] 3)).cell? ⟨w.heap.size, k, none⟩ = some (.int .i64 z) := by
  have hb := BlockAt.new w 3 [.int .i64 b1, .int .i64 b2, .int .i64 4611686018427387903]
  rcases (show k = 0 ∨ k = 1 ∨ k = 2 by omega) with rfl | rfl | rfl
  · exact ⟨b1, by omega, by omega, hb.cell 0 _ rfl⟩
  · exact ⟨b2, by omega, by omega, hb.cell 1 _ rfl⟩
  · exact ⟨_, by omega, by omega, hb.cell 2 _ rfl⟩
set_option maxHeartbeats 1000000 in
theorem quotients_walk (a b low high : Int) (w : World) (h1 : -9223372036854775808 ≤ a) (h2 : a ≤ 9223372036854775807) (h3 : -9223372036854775808 ≤ b) (h4 : b ≤ 9223372036854775807) :
    Calls Try.prog 8 #[.int .i64 a, .int .i64 b, .int .i64 low, .int .i64 high] w (TruePost w) := by
  have u0 := around_nonneg b 4611686018427387904 (by omega)
  have u1 := around_lt b 4611686018427387904 (by omega)
  have u2 := around_nonneg b 20 (by omega)
  have u3 := around_lt b 20 (by omega)
  have CA := Lib.hid (fun w => above_any b w h3 h4)
  have CB := Lib.hid (fun w => around_any b 20 w h3 h4 (by omega))
  obtain ⟨b0, hb0⟩ : ∃ k, around b 4611686018427387904 = k := ⟨_, rfl⟩
  obtain ⟨c0, hc0⟩ : ∃ k, around b 20 = k := ⟨_, rfl⟩
  rw [hb0] at u0 u1 CA
  rw [hc0] at u2 u3 CB
  have HDS := Lib.hid (fun w k hk => ds_cell w (1 + b0) (1 + c0) (by omega) (by omega) (by omega) (by omega) k hk)
  obtain ⟨b1, hb1⟩ : ∃ k, 1 + b0 = k := ⟨_, rfl⟩
  rw [hb1] at CA HDS
  obtain ⟨c1, hc1⟩ : ∃ k, 1 + c0 = k := ⟨_, rfl⟩
  rw [hc1] at HDS
  have HC1 := Lib.hid hc1
  clear hb0 hc0 hb1 hc1
  obtain ⟨lo, hlo⟩ : ∃ k, min low high = k := ⟨_, rfl⟩
  obtain ⟨hi, hhi⟩ : ∃ k, max low high = k := ⟨_, rfl⟩
  have HLO := Lib.hid hlo
  have HHI := Lib.hid hhi
  clear hlo hhi
  have CC := Lib.hid (fun w => clamp_any a lo hi w)
  have CR := Lib.hid (fun w => rclamp_any a lo hi w)
  obtain ⟨cl, hcl⟩ : ∃ c, (if a < lo then lo else if hi < a then hi else a) = c := ⟨_, rfl⟩
  rw [hcl] at CC CR
  clear hcl
  go_enter Try.func8, Try.ntmps8
  go_wp2_with fail
  refine (CA.out _).mono ?_
  rintro e w1 ⟨rfl, rfl⟩
  go_wp2_with fail
  refine (CB.out _).mono ?_
  rintro e w1 ⟨rfl, rfl⟩
  have hc1 := HC1.out
  go_wp2_with fail
  clear hc1
  have HBW := Lib.hid (show Below w.heap.size w (w.alloc (.cells #[.int .i64 b1, .int .i64 c1, .int .i64 4611686018427387903] 3)) from (Below.refl _ _).alloc (Nat.le_refl _) _)
  have HDS1 := Lib.hid (fun k hk => HDS.out w k hk)
  obtain ⟨w1, hw1⟩ : ∃ w1, w.alloc (.cells #[.int .i64 b1, .int .i64 c1, .int .i64 4611686018427387903] 3) = w1 := ⟨_, rfl⟩
  obtain ⟨X, hX⟩ : ∃ X, w.heap.size = X := ⟨_, rfl⟩
  rw [hw1, hX] at HDS1
  rw [hw1] at HBW ⊢
  rw [hX]
  clear hw1 hX HDS
  go_loopw [10] (fun i wr => ∃ (j n : Nat), j ≤ 3 ∧ i = .int .i64 j ∧ wr = w1.drewN n) (fun i _ => 3 - (intOf i).toNat)
  case atStart => exact ⟨0, 0, by omega, rfl, rfl⟩
  case round =>
    obtain ⟨j, n, hj, rfl, rfl⟩ := hrel
    by_cases hlt : j < 3
    · obtain ⟨z, z1, z2, zc⟩ := HDS1.out j hlt
      have j0 : (0 : Int) ≤ j := by omega
      have j1 : (j : Int) < 3 := by omega
      have K1 := Lib.hid (fun w => down_any a z w h1 h2 z1 (by omega))
      have K2 := Lib.hid (fun w => rdown_any a z w h1 h2 z1 (by omega))
      have K3 := Lib.hid (fun w => upF_any a z w h1 h2 z1 (by omega))
      have K4 := Lib.hid (fun w => rup_any a z w h1 h2 z1 (by omega))
      obtain ⟨q, hq⟩ : ∃ q, a / z = q := ⟨_, rfl⟩
      obtain ⟨u, hu⟩ : ∃ q, upZ a z = q := ⟨_, rfl⟩
      rw [hq] at K1 K2
      rw [hu] at K3 K4
      have zc2 : (w1.drewN n).cell? ⟨X, j, none⟩ = some (.int .i64 z) := zc
      clear hq hu zc
      obtain ⟨w2, hw2⟩ : ∃ w2, w1.drewN n = w2 := ⟨_, rfl⟩
      have HW2 := Lib.hid hw2
      rw [hw2] at zc2 ⊢
      clear hw2
      go_wp2_with fail
      go_quiet ((first | (go_at_call 20; exact quietSame (K1.out _)) | (go_at_call 24; exact quietSame (K2.out _)) | (go_at_call 21; exact quietSame (K3.out _)) | (go_at_call 25; exact quietSame (K4.out _))))
      go_wp2_with fail
      go_roundw
      case rel => exact ⟨j + 1, _, by omega, by go_num, by rw [← HW2.out, World.drewN_drewN]⟩
      case measure => simp [intOf] <;> omega
    · go_wp2_with fail
      rw [show min low high = lo from HLO.out, show max low high = hi from HHI.out]
      refine (CC.out _).mono ?_
      rintro e w2 ⟨rfl, rfl⟩
      go_wp2_with fail
      refine (CR.out _).mono ?_
      rintro e w2 ⟨rfl, rfl⟩
      go_wp2_with fail
      refine (lives_any _).mono ?_
      rintro e w3 ⟨rfl, hb⟩
      have HB3 := Lib.hid ((HBW.out.trans (Upd.below (Upd.drewN [] w1 n) HBW.out.size (by simp))).trans (hb.mono (by exact HBW.out.size)))
      clear hb
      go_wp2
      go_ret
      exact ⟨rfl, HB3.out⟩
end Go.Proofs.Ytphdpdmkoogkkaa
