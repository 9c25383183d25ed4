/- Layer 13: the walks of SketchBuckets and SketchRises. -/
import Derived.Test.YtobmnjigenplnaaSketchG
namespace Go.Proofs.Ytobmnjigenplnaa
open Go.RowKit
theorem aroundN (n m : Int) (hm : 1 ≤ m) : ∃ k : Nat, around n m = (k : Int) ∧ (k : Int) < m := by
  have h0 := around_nonneg n m hm
  have h1 := around_lt n m hm
  exact ⟨(around n m).toNat, by omega, by omega⟩
theorem buckets_walk (n b : Int) (w : World) (h1 : -9223372036854775808 ≤ n) (h2 : n ≤ 9223372036854775807) (h3 : -9223372036854775808 ≤ b) (h4 : b ≤ 9223372036854775807) :
    Calls Try.prog 3 #[.int .i64 n, .int .i64 b] w (TruePost w) := by
  obtain ⟨k, hk, hk1⟩ := aroundN n 4611686018427387904 (by omega)
  obtain ⟨c, hc, hc1⟩ := aroundN b 480 (by omega)
  have HK := Lib.hid hk
  have HC := Lib.hid hc
  have hk2 := Lib.hid (show k < 4611686018427387904 by omega)
  have hc2 := Lib.hid (show c < 480 by omega)
  have hlt := Lib.hid (show lowB c < 4611686018427387904 by have := topB_le hc2.out; have := lowB_lt c; omega)
  have htt := Lib.hid (show topB c < 4611686018427387904 by have := topB_le hc2.out; omega)
  clear hk hc
  go_enter Try.func3, Try.ntmps3
  go_wp2_with fail
  refine (around_any n 4611686018427387904 _ h1 h2 (by omega)).mono ?_
  rintro e w1 ⟨rfl, rfl⟩
  rw [show around n 4611686018427387904 = k from HK.out]
  go_wp2_with fail
  refine (around_any b 480 _ h3 h4 (by omega)).mono ?_
  rintro e w1 ⟨rfl, rfl⟩
  rw [show around b 480 = c from HC.out]
  go_wp2_with fail
  refine (low_any c _ hc2.out).mono ?_
  rintro e w1 ⟨rfl, rfl⟩
  go_wp2_with fail
  refine (bucket_any k _ hk2.out).mono ?_
  rintro e w1 ⟨rfl, rfl⟩
  go_wp2_with fail
  refine (rbucket_any k _ hk2.out).mono ?_
  rintro e w1 ⟨rfl, rfl⟩
  go_wp2_with fail
  refine (top_any c _ hc2.out).mono ?_
  rintro e w1 ⟨rfl, rfl⟩
  go_wp2_with fail
  refine (rtop_any c _ hc2.out).mono ?_
  rintro e w1 ⟨rfl, rfl⟩
  go_wp2_with fail
  refine (bucket_any (lowB c) _ hlt.out).mono ?_
  rintro e w1 ⟨rfl, rfl⟩
  rw [bucketN_low hc2.out]
  go_wp2_with fail
  refine (top_any c _ hc2.out).mono ?_
  rintro e w1 ⟨rfl, rfl⟩
  go_wp2_with fail
  refine (bucket_any (topB c) _ htt.out).mono ?_
  rintro e w1 ⟨rfl, rfl⟩
  rw [bucketN_top hc2.out]
  go_wp2_with fail
  refine (lives_any _).mono ?_
  rintro e w1 ⟨rfl, hb⟩
  go_wp2
  go_ret
  exact ⟨rfl, hb⟩
theorem up_near {a : Nat} (ha : a < 4611686018427387904) : a ≤ topB (bucketN a) ∧ (topB (bucketN a) = a ∨ topB (bucketN a) - a < upN a 8) ∧ topB (bucketN a) < 4611686018427387904 := by
  obtain ⟨h1, h2⟩ := topB_near ha
  have h3 := topB_le (bucketN_lt ha)
  refine ⟨h1, ?_, by omega⟩
  rcases h2 with h2 | h2
  · exact .inl h2
  · right; unfold upN; omega
end Go.Proofs.Ytobmnjigenplnaa
