/- Layer 11: ZonesTells. -/
import Derived.Test.YthblblkifkndiaaZoneLaw
namespace Go.Proofs.Ythblblkifkndiaa
open Go.RowKit
set_option maxRecDepth 100000 in
set_option maxHeartbeats 4000000 in
theorem tells_walk (a b : Value) (zs ys : List Int) (zone p d : Int) (w : World) (h1 : IntsIn w a zs) (h2 : IntsIn w b ys) (p0 : -9223372036854775808 ≤ p) (p1 : p ≤ 9223372036854775807) (d0 : -9223372036854775808 ≤ d) (d1 : d ≤ 9223372036854775807) :
    Calls Try.prog 3 #[a, b, .int .i64 zone, .int .i64 p, .int .i64 d] w (TruePost w) := by
  have C1 := Lib.hid (ends_any a zs w h1)
  have H2 := Lib.hid h2
  have CP := Lib.hid (fun w => around_any p 101 w p0 p1 (by omega))
  have CD := Lib.hid (fun w => around_any d 101 w d0 d1 (by omega))
  have hp0 := around_nonneg p 101 (by omega)
  have hp1 := around_lt p 101 (by omega)
  obtain ⟨P, hP⟩ : ∃ P, around p 101 = P := ⟨_, rfl⟩
  obtain ⟨D, hD⟩ : ∃ D, around d 101 = D := ⟨_, rfl⟩
  rw [hP] at CP hp0 hp1
  rw [hD] at CD
  obtain ⟨a1, c1, rfl, -⟩ : ∃ a1 c1, a = .slice a1 zs.length c1 ∧ True := by obtain ⟨x, y, h, -⟩ := h1; exact ⟨x, y, h, trivial⟩
  obtain ⟨a2, c2, rfl, -⟩ : ∃ a1 c1, b = .slice a1 ys.length c1 ∧ True := by obtain ⟨x, y, h, -⟩ := h2; exact ⟨x, y, h, trivial⟩
  clear h1 h2 p0 p1 d0 d1 hP hD
  go_enter Try.func3, Try.ntmps3
  go_wp2_with fail
  refine C1.out.mono ?_
  rintro e w1 ⟨ev, es, rfl, ho1, hb1, hok1⟩
  have C2 := Lib.hid (well_any _ ys w1 (H2.out.keep (Upd.ofBelow hb1) (by simp)))
  have HE := Lib.hid (And.intro ho1 (And.intro hb1 hok1))
  obtain ⟨e1, e2, rfl⟩ := (show EIn w1 ev es from ⟨ho1.isIn (by have := hok1.len; omega), hok1.nodup, fun e he => by have := hok1.r e he; omega, by have := hok1.len; omega⟩).shape
  clear ho1 hb1 hok1 C1 H2
  go_wp2_with fail
  refine C2.out.mono ?_
  rintro e w2 ⟨wv, ws, rfl, ho2, hb2, hok2⟩
  have HZ := Lib.hid (zw_start HE.out.1 HE.out.2.1 HE.out.2.2 ho2 hb2 hok2)
  obtain ⟨e3, e4, rfl⟩ := own_len ho2
  clear ho2 hb2 hok2 C2 HE
  go_wp2_with fail
  refine (CP.out _).mono ?_
  rintro e w3 ⟨rfl, rfl⟩
  go_wp2_with fail
  refine (CD.out _).mono ?_
  rintro e w3 ⟨rfl, rfl⟩
  clear CP CD
  go_wp2_with fail
  go_loopw [15] (fun i wr => ∃ q : Nat, q ≤ 5 ∧ i = .int .i64 q ∧ Hid (ZW w wr (.slice e1 es.length e2) es (.slice e3 ws.length e4) ws)) (fun i _ => 5 - (intOf i).toNat)
  case atStart => exact ⟨0, by omega, rfl, HZ⟩
  case round =>
    obtain ⟨q, hq, rfl, HI⟩ := hrel
    clear HZ
    by_cases hq5 : q < 5
    · have q0 : (0 : Int) ≤ q := by omega
      have q1 : (q : Int) < 5 := by omega
      have C3 := Lib.hid (HI.out.home q)
      obtain ⟨H, hH⟩ : ∃ H, homeOf es ws q = H := ⟨_, rfl⟩
      rw [hH] at C3
      have HH := Lib.hid hH
      clear hH
      go_wp2_with fail
      refine C3.out.mono ?_
      rintro e w3 ⟨rfl, hz3, -⟩
      have C4 := Lib.hid (hz3.rhome q)
      rw [HH.out] at C4
      clear hz3 C3
      go_wp2_with fail
      refine C4.out.mono ?_
      rintro e w4 ⟨rfl, hz4, -⟩
      have C5 := Lib.hid (hz4.among q P D hp0 (by omega))
      clear hz4 C4
      go_wp2_with fail
      refine C5.out.mono ?_
      rintro e w5 ⟨v5, s5, rfl, hs5, ho5, hz5, -⟩
      have C6 := Lib.hid (hz5.ramong q P D hp0 (by omega))
      have HS := Lib.hid (And.intro hs5 (And.intro ho5 (hz5.e.idsI hs5)))
      obtain ⟨e5, e6, rfl⟩ := own_len ho5
      clear hs5 ho5 hz5 C5
      go_wp2_with fail
      refine C6.out.mono ?_
      rintro e w6 ⟨v6, s6, rfl, hs6, ho6, hz6, hb6⟩
      obtain rfl := ids_unique hs6 HS.out.1
      have C7 := Lib.hid (same_rows HS.out.2.1 hb6 ho6 HS.out.2.2.1 HS.out.2.2.2)
      have HZ6 := Lib.hid hz6
      obtain ⟨e7, e8, rfl⟩ := own_len ho6
      clear hs6 ho6 hz6 hb6 C6
      go_wp2_with fail
      refine C7.out.mono ?_
      rintro e w7 ⟨rfl, hu7⟩
      have HZ7 := Lib.hid (HZ6.out.upd hu7)
      clear hu7 C7 HZ6
      go_wp2_with fail
      go_roundw
      case rel => exact ⟨q + 1, by omega, by go_num, HZ7⟩
      case measure => simp [intOf] <;> omega
    · obtain rfl : q = 5 := by omega
      clear hq5
      have C3 := Lib.hid (HI.out.home zone)
      obtain ⟨H, hH⟩ : ∃ H, homeOf es ws zone = H := ⟨_, rfl⟩
      rw [hH] at C3
      have HH := Lib.hid hH
      clear hH
      go_wp2_with fail
      refine C3.out.mono ?_
      rintro e w3 ⟨rfl, hz3, -⟩
      have C4 := Lib.hid (hz3.rhome zone)
      rw [HH.out] at C4
      clear hz3 C3
      go_wp2_with fail
      refine C4.out.mono ?_
      rintro e w4 ⟨rfl, hz4, -⟩
      have C5 := Lib.hid (hz4.panic P hp0 (by omega))
      obtain ⟨B, hB⟩ : ∃ B, panicOf es ws P = B := ⟨_, rfl⟩
      rw [hB] at C5
      have HB := Lib.hid hB
      clear hz4 C4 hB
      go_wp2_with fail
      refine C5.out.mono ?_
      rintro e w5 ⟨rfl, hz5, -⟩
      have C6 := Lib.hid (hz5.rpanic P hp0 (by omega))
      rw [HB.out] at C6
      clear hz5 C5
      go_wp2_with fail
      refine C6.out.mono ?_
      rintro e w6 ⟨rfl, hz6, -⟩
      have HB6 := Lib.hid hz6.bel
      clear hz6 C6
      go_wp2_with fail
      refine (lives_any w6).mono ?_
      rintro e w7 ⟨rfl, hb7⟩
      have HF : Hid (TruePost w (.returned (.bool true)) w7) := Lib.hid ⟨rfl, HB6.out.trans (hb7.mono HB6.out.size)⟩
      clear hb7 HB6
      go_wp2_with fail
      go_ret
      exact HF.out
end Go.Proofs.Ythblblkifkndiaa
