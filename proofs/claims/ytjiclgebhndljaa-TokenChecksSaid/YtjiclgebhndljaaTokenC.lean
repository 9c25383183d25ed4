/- Layer 19: the example; a budget in memory. -/
import Derived.Test.YtjiclgebhndljaaTokenB
namespace Go.Proofs.Ytjiclgebhndljaa
open Go.RowKit
def TruePost (w : World) (e : Ending) (w' : World) : Prop := e = .returned (.bool true) ∧ Below w.heap.size w w'
def BudAt (w : World) (x : Nat) (p o b : Int) : Prop := BlockAt w x 24 [.int .i64 p, .int .i64 o, .int .i64 b]
theorem BudAt.keep {S : List Nat} {w w' : World} {x : Nat} {p o b : Int} (h : BudAt w x p o b) (u : Upd S w w') (hs : x ∉ S) : BudAt w' x p o b := BlockAt.keep (w := w) h u hs
theorem TokAt.keep {S : List Nat} {w w' : World} {x : Nat} {p o b y : Int} (h : TokAt w x p o b y) (u : Upd S w w') (hs : x ∉ S) : TokAt w' x p o b y := BlockAt.keep (w := w) h u hs
theorem take_hit (b : Nat) (p o m x : Int) (w : World) (h : TokAt w b p o m x) (o0 : 0 ≤ o) (o1 : o ≤ 100) (h0 : 0 ≤ x) (h1 : x ≤ 10000) (hx : o ≤ x) (y : Int) (hy : x - o = y) :
    Calls Try.prog 14 #[.pointer (some ⟨b, 0, none⟩)] w fun e w' => e = .returned (.bool true) ∧ TokAt w' b p o m y ∧ Upd [b] w w' := by
  subst hy
  have := take_any b p o m x w h o0 o1 h0 h1
  rwa [show decide (o ≤ x) = true by simpa using hx, if_pos hx] at this
theorem take_miss (b : Nat) (p o m x : Int) (w : World) (h : TokAt w b p o m x) (o0 : 0 ≤ o) (o1 : o ≤ 100) (h0 : 0 ≤ x) (h1 : x ≤ 10000) (hx : ¬ o ≤ x) :
    Calls Try.prog 14 #[.pointer (some ⟨b, 0, none⟩)] w fun e w' => e = .returned (.bool false) ∧ TokAt w' b p o m x ∧ Upd [b] w w' := by
  have := take_any b p o m x w h o0 o1 h0 h1
  rwa [show decide (o ≤ x) = false by simpa using hx, if_neg hx] at this
theorem fresh_to (b : Nat) (p o m x y : Int) (w : World) (h : TokAt w b p o m x) (p0 : 0 ≤ p) (p1 : p ≤ 100) (h0 : 0 ≤ x) (h1 : x ≤ 10000) (hy : min (x + p) m = y) :
    Calls Try.prog 13 #[.pointer (some ⟨b, 0, none⟩)] w fun e w' => e = .returned (.tuple #[]) ∧ TokAt w' b p o m y ∧ Upd [b] w w' := by
  subst hy
  exact fresh_any b p o m x w h p0 p1 h0 h1
theorem ex_ok : BudOk 1 4 1 := ⟨by decide, by decide, by decide, by decide, by decide, by decide⟩
theorem lives_any (w : World) : Calls Try.prog 16 #[] w (TruePost w) := by
  have hx : BudAt (w.alloc (.cells #[.int .i64 1, .int .i64 4, .int .i64 1] 24)) w.heap.size 1 4 1 := BlockAt.new w 24 [.int .i64 1, .int .i64 4, .int .i64 1]
  have HX := Lib.hid hx
  have HN := Lib.hid (fun w => newTok_any 1 4 1 ex_ok w)
  unfold bud at HN
  have HM := Lib.hid (fun w => most_any 1 4 1 8 ex_ok w (by omega) (by omega))
  unfold bud at HM
  clear hx
  go_enter Try.func16, Try.ntmps16
  go_wp2_with fail
  refine (HN.out _).mono ?_
  rintro e w1 ⟨rfl, ht, hb⟩
  have HX1 := Lib.hid (HX.out.keep (Upd.ofBelow hb) (by simp))
  have HT1 := Lib.hid (show TokAt w1 ((w.alloc (.cells #[.int .i64 1, .int .i64 4, .int .i64 1] 24)).heap.size + 1) 1 4 4 4 from ht)
  have HB1 := Lib.hid (((Below.refl w.heap.size w).alloc (Nat.le_refl _) (.cells #[.int .i64 1, .int .i64 4, .int .i64 1] 24)).trans (hb.mono (by simp)))
  obtain ⟨B, hB⟩ : ∃ B, (w.alloc (.cells #[.int .i64 1, .int .i64 4, .int .i64 1] 24)).heap.size + 1 = B := ⟨_, rfl⟩
  have hlt : w.heap.size < B := by rw [← hB]; simp; omega
  rw [hB] at HT1 ⊢
  clear ht hb hB
  go_wp2_with fail
  refine (take_hit B 1 4 4 4 w1 HT1.out (by omega) (by omega) (by omega) (by omega) (by omega) 0 (by omega)).mono ?_
  rintro e w2 ⟨rfl, ht, hu⟩
  have HT2 := Lib.hid ht
  have HX2 := Lib.hid (HX1.out.keep hu (by simp; omega))
  have HB2 := Lib.hid (HB1.out.trans (hu.below HB1.out.size (by simp; omega)))
  clear ht hu
  go_wp2_with fail
  refine (take_miss B 1 4 4 0 w2 HT2.out (by omega) (by omega) (by omega) (by omega) (by omega)).mono ?_
  rintro e w3 ⟨rfl, ht, hu⟩
  have HT3 := Lib.hid ht
  have HX3 := Lib.hid (HX2.out.keep hu (by simp; omega))
  have HB3 := Lib.hid (HB2.out.trans (hu.below HB2.out.size (by simp; omega)))
  clear ht hu
  go_wp2_with fail
  refine (fresh_to B 1 4 4 0 1 w3 HT3.out (by omega) (by omega) (by omega) (by omega) (by omega)).mono ?_
  rintro e w4 ⟨rfl, ht, hu⟩
  have HT4 := Lib.hid ht
  have HX4 := Lib.hid (HX3.out.keep hu (by simp; omega))
  have HB4 := Lib.hid (HB3.out.trans (hu.below HB3.out.size (by simp; omega)))
  clear ht hu
  go_wp2_with fail
  refine (fresh_to B 1 4 4 1 2 w4 HT4.out (by omega) (by omega) (by omega) (by omega) (by omega)).mono ?_
  rintro e w5 ⟨rfl, ht, hu⟩
  have HT5 := Lib.hid ht
  have HX5 := Lib.hid (HX4.out.keep hu (by simp; omega))
  have HB5 := Lib.hid (HB4.out.trans (hu.below HB4.out.size (by simp; omega)))
  clear ht hu
  go_wp2_with fail
  refine (fresh_to B 1 4 4 2 3 w5 HT5.out (by omega) (by omega) (by omega) (by omega) (by omega)).mono ?_
  rintro e w6 ⟨rfl, ht, hu⟩
  have HT6 := Lib.hid ht
  have HX6 := Lib.hid (HX5.out.keep hu (by simp; omega))
  have HB6 := Lib.hid (HB5.out.trans (hu.below HB5.out.size (by simp; omega)))
  clear ht hu
  go_wp2_with fail
  refine (take_miss B 1 4 4 3 w6 HT6.out (by omega) (by omega) (by omega) (by omega) (by omega)).mono ?_
  rintro e w7 ⟨rfl, ht, hu⟩
  have HT7 := Lib.hid ht
  have HX7 := Lib.hid (HX6.out.keep hu (by simp; omega))
  have HB7 := Lib.hid (HB6.out.trans (hu.below HB6.out.size (by simp; omega)))
  clear ht hu
  go_wp2_with fail
  refine (fresh_to B 1 4 4 3 4 w7 HT7.out (by omega) (by omega) (by omega) (by omega) (by omega)).mono ?_
  rintro e w8 ⟨rfl, ht, hu⟩
  have HT8 := Lib.hid ht
  have HX8 := Lib.hid (HX7.out.keep hu (by simp; omega))
  have HB8 := Lib.hid (HB7.out.trans (hu.below HB7.out.size (by simp; omega)))
  clear ht hu HT1 HT2 HT3 HT4 HT5 HT6 HT7 HX1 HX2 HX3 HX4 HX5 HX6 HX7
  go_wp2_with fail
  refine (take_hit B 1 4 4 4 w8 HT8.out (by omega) (by omega) (by omega) (by omega) (by omega) 0 (by omega)).mono ?_
  rintro e w9 ⟨rfl, ht, hu⟩
  have hx9 := HX8.out.keep hu (by simp; omega)
  have HB9 := Lib.hid (HB8.out.trans (hu.below HB8.out.size (by simp; omega)))
  have c0 := BlockAt.cell (w := w9) hx9 0 _ rfl
  have c1 := BlockAt.cell (w := w9) hx9 1 _ rfl
  have c2 := BlockAt.cell (w := w9) hx9 2 _ rfl
  clear ht hu hx9
  go_wp2_with fail
  refine (HM.out _).mono ?_
  rintro e w10 ⟨rfl, hb⟩
  rw [show mostOf 1 4 1 8 = 3 by decide]
  have HF := Lib.hid (HB9.out.trans (hb.mono HB9.out.size))
  clear hb c0 c1 c2
  go_wp2
  go_ret
  exact ⟨rfl, HF.out⟩
end Go.Proofs.Ytjiclgebhndljaa
