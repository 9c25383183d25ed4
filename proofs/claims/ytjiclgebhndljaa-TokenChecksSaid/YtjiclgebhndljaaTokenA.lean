/- Layer 19: the walks of the bucket's functions. -/
import Derived.Test.YtjiclgebhndljaaAround
import Derived.BigQuiet
namespace Go.Proofs.Ytjiclgebhndljaa
open Go.RowKit
def bud (p o b : Int) : Value := .agg #[.int .i64 p, .int .i64 o, .int .i64 b]
structure BudOk (p o b : Int) : Prop where
  p0 : 0 ≤ p
  p1 : p ≤ 100
  o0 : 1 ≤ o
  o1 : o ≤ 100
  b0 : 0 ≤ b
  b1 : b ≤ 100
def TokAt (w : World) (b : Nat) (per of most parts : Int) : Prop := BlockAt w b 43 [.int .i64 per, .int .i64 of, .int .i64 most, .int .i64 parts]
theorem newTok_any (p o b : Int) (h : BudOk p o b) (w : World) : Calls Try.prog 11 #[bud p o b] w fun e w' => e = .returned (.pointer (some ⟨w.heap.size + 1, 0, none⟩)) ∧ TokAt w' (w.heap.size + 1) p o (b * o) (b * o) ∧ Below w.heap.size w w' := by
  obtain ⟨p0, p1, o0, o1, b0, b1⟩ := h
  have hm : b * o ≤ 100 * 100 := Int.mul_le_mul b1 o1 (by omega) (by omega)
  have hm0 : 0 ≤ b * o := Int.mul_nonneg b0 (by omega)
  unfold bud
  go_enter Try.func11, Try.ntmps11
  go_wp2
  go_ret
  refine ⟨by simp, ?_, ((Below.refl _ _).alloc (Nat.le_refl _) _).alloc (by simp) _⟩
  · have := BlockAt.new (w.alloc (.cells #[.int .i64 p, .int .i64 o, .int .i64 b] 24)) 43 [.int .i64 p, .int .i64 o, .int .i64 (b * o), .int .i64 (b * o)]
    unfold TokAt
    simpa using this
theorem fresh1_any (s b : Nat) (p o m x y : Int) (w : World) (h : TokAt w b p o m x) (hs : BlockAt w s 26 [.pointer (some ⟨b, 0, none⟩)]) :
    Calls Try.prog 25 #[.int .i64 y, .pointer (some ⟨s, 0, none⟩)] w fun e w' => e = .returned (.tuple #[.int .i64 (min y m), .bool true]) ∧ w' = w := by
  have c2 := h.cell 2 _ rfl
  have s0 := hs.cell 0 _ rfl
  clear h hs
  by_cases hm : y ≤ m
  · have e : min y m = y := Int.min_eq_left hm
    have hd : ¬ m < y := by omega
    go_enter Try.func25, Try.ntmps25
    go_wp2
    go_ret2
    exact ⟨rfl, rfl⟩
  · have e : min y m = m := Int.min_eq_right (by omega)
    have hd : m < y := by omega
    go_enter Try.func25, Try.ntmps25
    go_wp2
    go_ret2
    exact ⟨rfl, rfl⟩
theorem take1_any (y : Int) (w : World) :
    Calls Try.prog 26 #[.int .i64 y] w fun e w' => e = .returned (.tuple #[.int .i64 y, .bool (decide (0 ≤ y))]) ∧ w' = w := by
  go_enter Try.func26, Try.ntmps26
  go_wp2
  go_ret2
  exact ⟨rfl, rfl⟩
theorem changeF_any (s b : Nat) (p o m x y : Int) (w : World) (h : TokAt w b p o m x) (hs : BlockAt w s 26 [.pointer (some ⟨b, 0, none⟩)]) (h0 : 0 ≤ x) (h1 : x ≤ 10000) (y0 : 0 ≤ y) (y1 : y ≤ 100) :
    Calls Try.prog 24 #[.pointer (some ⟨b, 0, none⟩), .int .i64 y, .func (Fn.func 25) #[] #[.pointer (some ⟨s, 0, none⟩)]] w fun e w' => e = .returned (.bool true) ∧ TokAt w' b p o m (min (x + y) m) ∧ Upd [b] w w' := by
  have c3 := h.cell 3 _ rfl
  have f3 := h.free 3
  have H := Lib.hid h
  have HS := Lib.hid hs
  clear h hs
  go_enter Try.func24, Try.ntmps24
  go_wp2_with fail
  refine (fresh1_any s b p o m x (x + y) w H.out HS.out).mono ?_
  rintro e w1 ⟨rfl, rfl⟩
  obtain ⟨z, hz⟩ : ∃ z, min (x + y) m = z := ⟨_, rfl⟩
  rw [hz]
  go_wp2
  go_ret
  exact ⟨rfl, by rw [hz]; exact BlockAt.set H.out 3 _, Upd.setCell' _ _ _ (by simp)⟩
theorem changeT_any (b : Nat) (p o m x y : Int) (w : World) (h : TokAt w b p o m x) (h0 : 0 ≤ x) (h1 : x ≤ 10000) (y0 : -100 ≤ y) (y1 : y ≤ 0) :
    Calls Try.prog 24 #[.pointer (some ⟨b, 0, none⟩), .int .i64 y, .func (Fn.func 26) #[] #[]] w fun e w' => e = .returned (.bool (decide (0 ≤ x + y))) ∧ TokAt w' b p o m (if 0 ≤ x + y then x + y else x) ∧ Upd [b] w w' := by
  have c3 := h.cell 3 _ rfl
  have f3 := h.free 3
  have H := Lib.hid h
  clear h
  by_cases hd : 0 ≤ x + y
  · have hd' : decide (0 ≤ x + y) = true := by simpa using hd
    rw [if_pos hd, hd']
    go_enter Try.func24, Try.ntmps24
    go_wp2_with fail
    refine (take1_any (x + y) w).mono ?_
    rintro e w1 ⟨rfl, rfl⟩
    rw [hd']
    go_wp2
    go_ret
    exact ⟨rfl, BlockAt.set H.out 3 _, Upd.setCell' _ _ _ (by simp)⟩
  · have hd' : decide (0 ≤ x + y) = false := by simpa using hd
    rw [if_neg hd, hd']
    go_enter Try.func24, Try.ntmps24
    go_wp2_with fail
    refine (take1_any (x + y) w).mono ?_
    rintro e w1 ⟨rfl, rfl⟩
    rw [hd']
    go_wp2
    go_ret
    exact ⟨rfl, H.out, Upd.refl _ _⟩
theorem fresh_any (b : Nat) (p o m x : Int) (w : World) (h : TokAt w b p o m x) (p0 : 0 ≤ p) (p1 : p ≤ 100) (h0 : 0 ≤ x) (h1 : x ≤ 10000) : Calls Try.prog 13 #[.pointer (some ⟨b, 0, none⟩)] w fun e w' => e = .returned (.tuple #[]) ∧ TokAt w' b p o m (min (x + p) m) ∧ Upd [b] w w' := by
  have hk := BlockAt.keep (w := w) h (Upd.alloc [] w (.cells #[.pointer (some ⟨b, 0, none⟩)] 26)) (by simp)
  have c0 := hk.cell 0 _ rfl
  have hs := BlockAt.new w 26 [.pointer (some ⟨b, 0, none⟩)]
  have HK := Lib.hid hk
  have HS := Lib.hid hs
  clear hk hs h
  go_enter Try.func13, Try.ntmps13
  go_wp2_with fail
  refine (changeF_any w.heap.size b p o m x p _ HK.out HS.out h0 h1 p0 p1).mono ?_
  rintro e w1 ⟨rfl, ht, hu⟩
  have HT := Lib.hid ht
  have HU := Lib.hid ((Upd.alloc [b] w _).trans hu)
  clear ht hu c0
  go_wp2
  go_end0
  exact ⟨rfl, HT.out, HU.out⟩
theorem take_any (b : Nat) (p o m x : Int) (w : World) (h : TokAt w b p o m x) (o0 : 0 ≤ o) (o1 : o ≤ 100) (h0 : 0 ≤ x) (h1 : x ≤ 10000) : Calls Try.prog 14 #[.pointer (some ⟨b, 0, none⟩)] w fun e w' => e = .returned (.bool (decide (o ≤ x))) ∧ TokAt w' b p o m (if o ≤ x then x - o else x) ∧ Upd [b] w w' := by
  have c1 := h.cell 1 _ rfl
  have HC := Lib.hid (changeT_any b p o m x (-o) w h h0 h1 (by omega) (by omega))
  clear h
  by_cases hd : o ≤ x
  · have hd' : decide (o ≤ x) = true := by simpa using hd
    have e1 : decide (0 ≤ x + -o) = true := by simp; omega
    have e2 : (if 0 ≤ x + -o then x + -o else x) = x - o := by rw [if_pos (by omega)]; omega
    rw [if_pos hd, hd']
    have HC2 := HC.out
    rw [e1, e2] at HC2
    have HC3 := Lib.hid HC2
    clear HC2 HC e1 e2 hd hd'
    go_enter Try.func14, Try.ntmps14
    go_wp2_with fail
    refine HC3.out.mono ?_
    rintro e w1 ⟨rfl, ht, hu⟩
    have HT := Lib.hid ht
    have HU := Lib.hid hu
    clear ht hu c1
    go_wp2
    go_ret
    exact ⟨rfl, HT.out, HU.out⟩
  · have hd' : decide (o ≤ x) = false := by simpa using hd
    have e1 : decide (0 ≤ x + -o) = false := by simp; omega
    have e2 : (if 0 ≤ x + -o then x + -o else x) = x := by rw [if_neg (by omega)]
    rw [if_neg hd, hd']
    have HC2 := HC.out
    rw [e1, e2] at HC2
    have HC3 := Lib.hid HC2
    clear HC2 HC e1 e2 hd hd'
    go_enter Try.func14, Try.ntmps14
    go_wp2_with fail
    refine HC3.out.mono ?_
    rintro e w1 ⟨rfl, ht, hu⟩
    have HT := Lib.hid ht
    have HU := Lib.hid hu
    clear ht hu c1
    go_wp2
    go_ret
    exact ⟨rfl, HT.out, HU.out⟩
end Go.Proofs.Ytjiclgebhndljaa
