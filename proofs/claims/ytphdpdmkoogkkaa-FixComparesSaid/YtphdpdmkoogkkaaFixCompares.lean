/- Layer 1: the walk of FixCompares. -/
import Derived.Test.YtphdpdmkoogkkaaFixJ
namespace Go.Proofs.Ytphdpdmkoogkkaa
open Go.RowKit
set_option maxHeartbeats 2000000 in
theorem compares_walk (a b c d : Int) (w : World) (h1 : -9223372036854775808 ≤ a) (h2 : a ≤ 9223372036854775807) (h3 : -9223372036854775808 ≤ b) (h4 : b ≤ 9223372036854775807) (h5 : -9223372036854775808 ≤ c) (h6 : c ≤ 9223372036854775807) (h7 : -9223372036854775808 ≤ d) (h8 : d ≤ 9223372036854775807) :
    Calls Try.prog 10 #[.int .i64 a, .int .i64 b, .int .i64 c, .int .i64 d] w (TruePost w) := by
  have CX := Lib.hid (fun w => above_any b w h3 h4)
  have CY := Lib.hid (fun w => above_any d w h7 h8)
  have CP := Lib.hid (fun w => around_any a 9 w h1 h2 (by omega))
  have CQ := Lib.hid (fun w => around_any c 9 w h5 h6 (by omega))
  have CR := Lib.hid (fun w => around_any b 4 w h3 h4 (by omega))
  have CS := Lib.hid (fun w => around_any d 4 w h7 h8 (by omega))
  have u1 := around_nonneg b 4611686018427387904 (by omega)
  have u2 := around_lt b 4611686018427387904 (by omega)
  have u3 := around_nonneg d 4611686018427387904 (by omega)
  have u4 := around_lt d 4611686018427387904 (by omega)
  have p0 := around_nonneg a 9 (by omega)
  have p1 := around_lt a 9 (by omega)
  have q0 := around_nonneg c 9 (by omega)
  have q1 := around_lt c 9 (by omega)
  have r0 := around_nonneg b 4 (by omega)
  have r1 := around_lt b 4 (by omega)
  have s0 := around_nonneg d 4 (by omega)
  have s1 := around_lt d 4 (by omega)
  obtain ⟨x, ex⟩ : ∃ k, 1 + around b 4611686018427387904 = k := ⟨_, rfl⟩
  obtain ⟨y, ey⟩ : ∃ k, 1 + around d 4611686018427387904 = k := ⟨_, rfl⟩
  obtain ⟨p', ep⟩ : ∃ k, around a 9 = k := ⟨_, rfl⟩
  obtain ⟨q', eq⟩ : ∃ k, around c 9 = k := ⟨_, rfl⟩
  obtain ⟨r', er⟩ : ∃ k, around b 4 = k := ⟨_, rfl⟩
  obtain ⟨s', es⟩ : ∃ k, around d 4 = k := ⟨_, rfl⟩
  rw [ex] at CX
  rw [ey] at CY
  rw [ep] at CP p0 p1
  rw [eq] at CQ q0 q1
  rw [er] at CR r0 r1
  rw [es] at CS s0 s1
  have x0 : 1 ≤ x := by omega
  have x1 : x ≤ 4611686018427387904 := by omega
  have y0 : 1 ≤ y := by omega
  have y1 : y ≤ 4611686018427387904 := by omega
  clear ex ey ep eq er es u1 u2 u3 u4
  have K1 := Lib.hid (fun w => cmp_any a x c y w h1 h2 x0 (by omega) h5 h6 y0 (by omega))
  have K2 := Lib.hid (fun w => rcmp_any (x + y).toNat a x c y w h1 h2 x0 (by omega) h5 h6 y0 (by omega) (by omega))
  have K3 := Lib.hid (fun w => cmp_any (p' - 4) (1 + r') (q' - 4) (1 + s') w (by omega) (by omega) (by omega) (by omega) (by omega) (by omega) (by omega) (by omega))
  have K4 := Lib.hid (fun w => rcmp_any (1 + r' + (1 + s')).toNat (p' - 4) (1 + r') (q' - 4) (1 + s') w (by omega) (by omega) (by omega) (by omega) (by omega) (by omega) (by omega) (by omega) (by omega))
  have K5 := Lib.hid (fun w => cmp_any a x a x w h1 h2 x0 (by omega) h1 h2 x0 (by omega))
  rw [cmpZ_self] at K5
  obtain ⟨V1, hV1⟩ : ∃ z, cmpZ (a * y) (c * x) = z := ⟨_, rfl⟩
  obtain ⟨V2, hV2⟩ : ∃ z, cmpZ ((p' - 4) * (1 + s')) ((q' - 4) * (1 + r')) = z := ⟨_, rfl⟩
  rw [hV1] at K1 K2
  rw [hV2] at K3 K4
  clear hV1 hV2
  go_enter Try.func10, Try.ntmps10
  go_wp2_with fail
  refine (CX.out _).mono ?_
  rintro e w1 ⟨rfl, rfl⟩
  go_wp2_with fail
  refine (CY.out _).mono ?_
  rintro e w1 ⟨rfl, rfl⟩
  go_wp2_with fail
  refine (CP.out _).mono ?_
  rintro e w1 ⟨rfl, rfl⟩
  go_wp2_with fail
  refine (CQ.out _).mono ?_
  rintro e w1 ⟨rfl, rfl⟩
  go_wp2_with fail
  refine (CR.out _).mono ?_
  rintro e w1 ⟨rfl, rfl⟩
  go_wp2_with fail
  refine (CS.out _).mono ?_
  rintro e w1 ⟨rfl, rfl⟩
  go_wp2_with fail
  refine (K1.out _).mono ?_
  rintro e w1 ⟨rfl, hb⟩
  have HB1 := Lib.hid hb
  clear hb
  go_wp2_with fail
  refine (K2.out _).mono ?_
  rintro e w2 ⟨rfl, rfl⟩
  go_wp2_with fail
  refine (K3.out _).mono ?_
  rintro e w2 ⟨rfl, hb⟩
  have HB2 := Lib.hid (HB1.out.trans (hb.mono HB1.out.size))
  clear hb
  go_wp2_with fail
  refine (K4.out _).mono ?_
  rintro e w3 ⟨rfl, rfl⟩
  go_wp2_with fail
  refine (K5.out _).mono ?_
  rintro e w3 ⟨rfl, hb⟩
  have HB3 := Lib.hid (HB2.out.trans (hb.mono HB2.out.size))
  clear hb
  go_wp2_with fail
  refine (lives_any _).mono ?_
  rintro e w4 ⟨rfl, hb⟩
  have HB4 := Lib.hid (HB3.out.trans (hb.mono HB3.out.size))
  clear hb
  go_wp2
  go_ret
  exact ⟨rfl, HB4.out⟩
end Go.Proofs.Ytphdpdmkoogkkaa
