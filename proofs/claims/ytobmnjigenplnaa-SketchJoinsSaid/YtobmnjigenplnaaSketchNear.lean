/- Layer 13: the walk of SketchNear. -/
import Derived.Test.YtobmnjigenplnaaSketchTells
namespace Go.Proofs.Ytobmnjigenplnaa
open Go.RowKit
theorem atVal_nil (p : Nat) : atVal [] p = 0 := by simp [atVal]
theorem near_walk (v : Value) (zs : List Int) (p q : Int) (w : World) (h : IntsIn w v zs) (h1 : -9223372036854775808 ≤ p) (h2 : p ≤ 9223372036854775807) (h3 : -9223372036854775808 ≤ q) (h4 : q ≤ 9223372036854775807) :
    Calls Try.prog 6 #[v, .int .i64 p, .int .i64 q] w (TruePost w) := by
  obtain ⟨k, hk, hk1⟩ := aroundN p 1001 (by omega)
  obtain ⟨g, hg, hg1⟩ := aroundN q 1001 (by omega)
  obtain ⟨l, hl⟩ : ∃ l, numbers zs = l := ⟨_, rfl⟩
  have hlen := numbers_length zs
  have hlt := numbers_lt zs
  rw [hl] at hlen hlt
  have HK := Lib.hid hk
  have HG := Lib.hid hg
  have HL := Lib.hid hl
  have HLEN := Lib.hid hlen
  have HLT := Lib.hid hlt
  have HKL := Lib.hid (show (k : Int) ≤ 1000 by omega)
  have HGL := Lib.hid (show (g : Int) ≤ 1000 by omega)
  have HI := Lib.hid h
  clear hk hg hl hlen hlt h hk1 hg1
  go_enter Try.func6, Try.ntmps6
  go_wp2_with fail
  refine (numbers_any v zs _ HI.out).mono ?_
  rintro e w1 ⟨u, rfl, hown, hb1⟩
  rw [show numbers zs = l from HL.out] at hown
  have hi := hown.isIn (nats_range HLT.out)
  have hrd : ∃ a cap, u = .slice a l.length cap := by
    rcases hi with ⟨a, cap, rfl, -, -, -⟩
    exact ⟨a, cap, by rw [nats_length]⟩
  obtain ⟨ua, ucap, rfl⟩ := hrd
  have HI1 := Lib.hid hi
  clear hown hi
  go_wp2_with fail
  refine (of_any _ l _ HI1.out (by have := HLEN.out; omega) HLT.out).mono ?_
  rintro e w2 ⟨rfl, hs, hb2⟩
  have HH := Lib.hid (show Has w w2 (w1.heap.size + 1) w1.heap.size _ l from ⟨hs, HI1.out.keep (Upd.ofBelow hb2) (by simp), hb1.trans (hb2.mono hb1.size)⟩)
  obtain ⟨B, hB⟩ : ∃ B, w1.heap.size = B := ⟨_, rfl⟩
  rw [hB] at HH ⊢
  clear hs hb1 hb2 hB HI1
  by_cases hnil : l = []
  · subst hnil
    go_wp2_with fail
    refine (atv_any (B + 1) B [] 500 w2 HH.out.sk (by simp) (by simp) (by omega)).mono ?_
    rintro e w3 ⟨rfl, hb3⟩
    rw [atVal_nil]
    have HH3 := Lib.hid (HH.out.next hb3)
    clear hb3
    go_wp2_with fail
    refine (lives_any _).mono ?_
    rintro e w5 ⟨rfl, hb5⟩
    have HH5 := Lib.hid (HH3.out.next hb5)
    clear hb5
    go_wp2
    go_ret
    exact ⟨rfl, HH5.out.below⟩
  · have hpos : 0 < l.length := List.length_pos_iff.2 hnil
    have hne : ((l.length : Int) == 0) = false := by simp; exact hnil
    clear hnil
    have HPOS := Lib.hid hpos
    clear hpos
    go_wp2_with fail
    refine (around_any p 1001 _ h1 h2 (by omega)).mono ?_
    rintro e w3 ⟨rfl, rfl⟩
    rw [show around p 1001 = k from HK.out]
    go_wp2_with fail
    refine (around_any q 1001 _ h3 h4 (by omega)).mono ?_
    rintro e w3 ⟨rfl, rfl⟩
    rw [show around q 1001 = g from HG.out]
    go_wp2_with fail
    refine (sought_any _ l k w2 HH.out.ints (by have := HLEN.out; omega) HPOS.out HKL.out).mono ?_
    rintro e w3 ⟨x, rfl, hx, hb3⟩
    have HH3 := Lib.hid (HH.out.next hb3)
    have hxl : x < 4611686018427387904 := HLT.out x hx.1
    have hnr := up_near hxl
    have hat := atVal_sought HLT.out hx
    obtain ⟨y, hy⟩ : ∃ y, topB (bucketN x) = y := ⟨_, rfl⟩
    rw [hy] at hnr hat
    have HAT := Lib.hid hat
    have HNR := Lib.hid hnr
    have HXL := Lib.hid hxl
    clear hb3 hxl hnr hat hx hy
    go_wp2_with fail
    refine (atv_any (B + 1) B l k w3 HH3.out.sk (by have := HLEN.out; omega) HLT.out HKL.out).mono ?_
    rintro e w4 ⟨rfl, hb4⟩
    rw [show atVal l k = y from HAT.out]
    have HH4 := Lib.hid (HH3.out.next hb4)
    clear hb4
    have hge : decide (x ≤ y) = true := by have := HNR.out.1; simp; omega
    have key : Calls Try.prog 21 #[.pointer (some ⟨B + 1, 0, none⟩), .int .i64 g] w4 (fun e w' => ∃ z : Nat, e = .returned (.int .i64 z) ∧ Hid ((k : Int) > g ∨ decide (y ≤ z) = true) ∧ Hid (Has w w' (B + 1) B (.slice ua l.length ucap) l)) := by
      refine (atv_any (B + 1) B l g w4 HH4.out.sk (by have := HLEN.out; omega) HLT.out HGL.out).mono ?_
      rintro e w5 ⟨rfl, hb5⟩
      refine ⟨_, rfl, ?_, HH4.out.next hb5⟩
      by_cases hkg : (k : Int) > g
      · exact .inl hkg
      · right
        have := atVal_mono HLT.out (p := k) (q := g) (by have := HGL.out; omega) (by omega)
        rw [HAT.out] at this
        simp; omega
    have HKEY := Lib.hid key
    clear key
    by_cases hyx0 : y = x
    · subst hyx0
      by_cases hkg : (k : Int) > g
      · have hd : decide (g < k) = true := by simp; omega
        clear hkg
        go_wp2_with fail
        refine (lives_any _).mono ?_
        rintro e w5 ⟨rfl, hb5⟩
        have HH5 := Lib.hid (HH4.out.next hb5)
        clear hb5
        go_wp2
        go_ret
        exact ⟨rfl, HH5.out.below⟩
      · have hd : decide (g < k) = false := by simp; omega
        have HKG := Lib.hid hkg
        clear hkg
        go_wp2_with fail
        refine HKEY.out.mono ?_
        rintro e w5 ⟨z, rfl, hz, HH5⟩
        have hz' := hz.out.resolve_left (by have := HKG.out; omega)
        clear hz
        go_wp2_with fail
        refine (lives_any _).mono ?_
        rintro e w6 ⟨rfl, hb6⟩
        have HH6 := Lib.hid (HH5.out.next hb6)
        clear hb6
        go_wp2
        go_ret
        exact ⟨rfl, HH6.out.below⟩
    · have hyx := HNR.out.2.1.resolve_left hyx0
      have hs1 : ((y : Int) - x) = ((y - x : Nat) : Int) := by have := HNR.out.1; omega
      have hs2 : decide (y - x < upN x 8) = true := by simp; omega
      have hs3 : (y == x) = false := by simp; exact hyx0
      have hs5 : ((y : Int) == (x : Int)) = false := by simp; omega
      have hs6 : ¬ (y : Int) = x := by omega
      have hs7 : (y : Int) - x < 4611686018427387904 := by have := HNR.out.2.2; omega
      have hs8 : (0 : Int) ≤ (y : Int) - x := by have := HNR.out.1; omega
      have hs9 : (Go.RowKit.wrap64 ((y : Int) - x)) = (y : Int) - x := by unfold Go.RowKit.wrap64; omega
      obtain ⟨U, hU⟩ : ∃ U, upN x 8 = U := ⟨_, rfl⟩
      have HU := Lib.hid hU
      have HS2 := Lib.hid (show (y - x : Int) < U by rw [hU] at hyx; have := HNR.out.1; omega)
      have hup := up_any x 8 w4 HXL.out (by omega) (by omega)
      rw [hU] at hup
      have HUP := Lib.hid hup
      have hs4 : decide ((y : Int) - x < U) = true := by have := HS2.out; simp; omega
      clear hs1 hs2 hyx hU hup
      go_wp2_with fail
      refine HUP.out.mono ?_
      rintro e w5 ⟨rfl, rfl⟩
      by_cases hkg : (k : Int) > g
      · have hd : decide (g < k) = true := by simp; omega
        clear hkg
        go_wp2_with fail
        refine (lives_any _).mono ?_
        rintro e w5 ⟨rfl, hb5⟩
        have HH5 := Lib.hid (HH4.out.next hb5)
        clear hb5
        go_wp2
        go_ret
        exact ⟨rfl, HH5.out.below⟩
      · have hd : decide (g < k) = false := by simp; omega
        have HKG := Lib.hid hkg
        clear hkg
        go_wp2_with fail
        refine HKEY.out.mono ?_
        rintro e w5 ⟨z, rfl, hz, HH5⟩
        have hz' := hz.out.resolve_left (by have := HKG.out; omega)
        clear hz
        go_wp2_with fail
        refine (lives_any _).mono ?_
        rintro e w6 ⟨rfl, hb6⟩
        have HH6 := Lib.hid (HH5.out.next hb6)
        clear hb6
        go_wp2
        go_ret
        exact ⟨rfl, HH6.out.below⟩
end Go.Proofs.Ytobmnjigenplnaa
