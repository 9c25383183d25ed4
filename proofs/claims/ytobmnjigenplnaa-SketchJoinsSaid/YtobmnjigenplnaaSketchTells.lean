/- Layer 13: the walk of SketchTells. -/
import Derived.Test.YtobmnjigenplnaaSketchBuckets
namespace Go.Proofs.Ytobmnjigenplnaa
open Go.RowKit
structure Has (w wr : World) (b m : Nat) (v : Value) (l : List Nat) : Prop where
  sk : SkAt wr b m l
  ints : IntsIn wr v (nats l)
  below : Below w.heap.size w wr
theorem Has.next {w wr w' : World} {b m : Nat} {v : Value} {l : List Nat} (h : Has w wr b m v l) (hb : Below wr.heap.size wr w') : Has w w' b m v l :=
  ⟨h.sk.keep (Upd.ofBelow hb) (by simp) (by simp), h.ints.keep (Upd.ofBelow hb) (by simp), h.below.trans (hb.mono h.below.size)⟩
def HasPost (zs : List Int) (w : World) (b m : Nat) (v : Value) (w1 : World) : Prop := Has w w1 b m v (numbers zs)
theorem tells_walk (v : Value) (zs : List Int) (p : Int) (w : World) (h : IntsIn w v zs) (h1 : -9223372036854775808 ≤ p) (h2 : p ≤ 9223372036854775807) :
    Calls Try.prog 5 #[v, .int .i64 p] w (TruePost w) := by
  obtain ⟨k, hk, hk1⟩ := aroundN p 1001 (by omega)
  obtain ⟨l, hl⟩ : ∃ l, numbers zs = l := ⟨_, rfl⟩
  have hlen := numbers_length zs
  have hlt := numbers_lt zs
  rw [hl] at hlen hlt
  have HK := Lib.hid hk
  have HL := Lib.hid hl
  have HLEN := Lib.hid hlen
  have HLT := Lib.hid hlt
  have HKL := Lib.hid (show (k : Int) ≤ 1000 by omega)
  have HI := Lib.hid h
  clear hk hl hlen hlt h
  go_enter Try.func5, Try.ntmps5
  go_wp2_with fail
  refine (numbers_any v zs _ HI.out).mono ?_
  rintro e w1 ⟨u, rfl, hown, hb1⟩
  rw [show numbers zs = l from HL.out] at hown
  have hi := hown.isIn (nats_range HLT.out)
  have hrd : ∃ a cap, u = .slice a l.length cap := by
    rcases hi with ⟨a, cap, rfl, -, -, -⟩
    exact ⟨a, cap, by rw [nats_length]⟩
  obtain ⟨ua, ucap, rfl⟩ := hrd
  have HI1 := Lib.hid hi
  clear hown hi
  go_wp2_with fail
  refine (of_any _ l _ HI1.out (by have := HLEN.out; omega) HLT.out).mono ?_
  rintro e w2 ⟨rfl, hs, hb2⟩
  have HH := Lib.hid (show Has w w2 (w1.heap.size + 1) w1.heap.size _ l from ⟨hs, HI1.out.keep (Upd.ofBelow hb2) (by simp), hb1.trans (hb2.mono hb1.size)⟩)
  obtain ⟨B, hB⟩ : ∃ B, w1.heap.size = B := ⟨_, rfl⟩
  rw [hB] at HH ⊢
  clear hs hb1 hb2 hB HI1
  go_wp2_with fail
  refine (skLen_any (B + 1) B l w2 HH.out.sk).mono ?_
  rintro e w3 ⟨rfl, rfl⟩
  go_wp2_with fail
  refine (around_any p 1001 _ h1 h2 (by omega)).mono ?_
  rintro e w3 ⟨rfl, rfl⟩
  rw [show around p 1001 = k from HK.out]
  go_wp2_with fail
  refine (atv_any (B + 1) B l k w2 HH.out.sk (by have := HLEN.out; omega) HLT.out HKL.out).mono ?_
  rintro e w3 ⟨rfl, hb3⟩
  have HH3 := Lib.hid (HH.out.next hb3)
  clear hb3
  go_wp2_with fail
  refine (around_any p 1001 _ h1 h2 (by omega)).mono ?_
  rintro e w4 ⟨rfl, rfl⟩
  rw [show around p 1001 = k from HK.out]
  go_wp2_with fail
  refine (ratv_any _ l k w3 HH3.out.ints (by have := HLEN.out; omega) HLT.out HKL.out).mono ?_
  rintro e w4 ⟨rfl, hb4⟩
  have HH4 := Lib.hid (HH3.out.next hb4)
  clear hb4
  go_wp2_with fail
  go_loopw [7] (fun i wr => ∃ k : Nat, k ≤ 1100 ∧ i = .int .i64 k ∧ Has w wr (B + 1) B (.slice ua l.length ucap) l) (fun i _ => 1101 - (intOf i).toNat)
  case atStart => exact ⟨0, by omega, rfl, HH4.out⟩
  case round =>
    obtain ⟨q, hq, rfl, hh⟩ := hrel
    have HR := Lib.hid hh
    clear hh
    by_cases hq1 : (q : Int) ≤ 1000
    · go_wp2_with fail
      refine (atv_any (B + 1) B l q wr HR.out.sk (by have := HLEN.out; omega) HLT.out hq1).mono ?_
      rintro e w5 ⟨rfl, hb5⟩
      have HH5 := Lib.hid (HR.out.next hb5)
      clear hb5
      go_wp2_with fail
      refine (ratv_any _ l q w5 HH5.out.ints (by have := HLEN.out; omega) HLT.out hq1).mono ?_
      rintro e w6 ⟨rfl, hb6⟩
      have HH6 := Lib.hid (HH5.out.next hb6)
      clear hb6
      go_wp2_with fail
      go_roundw
      case rel => exact ⟨q + 100, by omega, by go_num, HH6.out⟩
      case measure => simp [intOf]; omega
    · go_wp2_with fail
      refine (lives_any _).mono ?_
      rintro e w5 ⟨rfl, hb5⟩
      have HH5 := Lib.hid (HR.out.next hb5)
      clear hb5
      go_wp2
      go_ret
      exact ⟨rfl, HH5.out.below⟩
end Go.Proofs.Ytobmnjigenplnaa
