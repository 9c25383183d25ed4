/- Layer 19: the walk of TokenAll. -/
import Derived.Test.YtjiclgebhndljaaTokenC
namespace Go.Proofs.Ytjiclgebhndljaa
open Go.RowKit
/-- A budget and its bucket in memory of the call's own. -/
structure Tk (w wr : World) (X b : Nat) (p o B x : Int) : Prop where
  bud : BudAt wr X p o B
  tok : TokAt wr b p o (B * o) x
  below : Below w.heap.size w wr
  hX : w.heap.size ≤ X
  hb : w.heap.size ≤ b
  ne : X ≠ b
theorem Tk.step {w wr w' : World} {X b : Nat} {p o B x y : Int} (h : Tk w wr X b p o B x) (u : Upd [b] wr w') (ht : TokAt w' b p o (B * o) y) : Tk w w' X b p o B y :=
  ⟨h.bud.keep u (by simp; exact h.ne), ht, h.below.trans (u.below h.below.size (by simp; exact h.hb)), h.hX, h.hb, h.ne⟩
theorem Tk.next {w wr w' : World} {X b : Nat} {p o B x : Int} (h : Tk w wr X b p o B x) (hb : Below wr.heap.size wr w') : Tk w w' X b p o B x :=
  ⟨h.bud.keep (Upd.ofBelow hb) (by simp), h.tok.keep (Upd.ofBelow hb) (by simp), h.below.trans (hb.mono h.below.size), h.hX, h.hb, h.ne⟩
/-- The takes behind one call. -/
structure Inn (o B t0 x0 t x : Int) (k : Nat) : Prop where
  sum : t * o + x = t0 * o + x0
  low : 0 ≤ x
  high : x < o ∨ x + k * o ≤ B * o
  u0 : t0 ≤ t
  u1 : t ≤ t0 + k
theorem Inn.hit {o B t0 x0 t x : Int} {k : Nat} (h : Inn o B t0 x0 t x k) (hx : o ≤ x) : Inn o B t0 x0 (t + 1) (x - o) (k + 1) := by
  obtain ⟨h1, h2, h3, h4, h5⟩ := h
  refine ⟨by rw [Int.add_mul]; omega, by omega, .inr ?_, by omega, by omega⟩
  have : ((k + 1 : Nat) : Int) * o = k * o + o := by rw [show ((k + 1 : Nat) : Int) = (k : Int) + 1 by omega, Int.add_mul]; omega
  omega
theorem Inn.miss {o B t0 x0 t x : Int} {k : Nat} (h : Inn o B t0 x0 t x k) (hx : ¬ o ≤ x) : Inn o B t0 x0 t x (k + 1) := by
  obtain ⟨h1, h2, h3, h4, h5⟩ := h
  exact ⟨h1, h2, .inl (by omega), h4, by omega⟩
theorem Inn.done {o B t0 x0 t x : Int} {k : Nat} (h : Inn o B t0 x0 t x k) (hk : 101 < k) (o0 : 1 ≤ o) (b1 : B ≤ 100) : x < o := by
  rcases h.high with h3 | h3
  · exact h3
  · have a : B * o ≤ 100 * o := Int.mul_le_mul_of_nonneg_right b1 (by omega)
    have c : (102 : Int) * o ≤ k * o := Int.mul_le_mul_of_nonneg_right (by omega) (by omega)
    have := h.low
    omega
/-- Ahead of the takes of the call with number i; full: nothing was lost. -/
structure Outer (p o B t x : Int) (i C : Nat) : Prop where
  le : t * o + x ≤ B * o + (min i C : Nat) * p
  eq : (1 < B ∨ p = 0) → t * o + x = B * o + (min i C : Nat) * p
  low : 0 ≤ x
  high : x ≤ B * o
  last : C < i → x < o
  t0 : 0 ≤ t
  t1 : t ≤ i * 102
theorem Outer.start (p o B : Int) (C : Nat) (h : 0 ≤ B * o) : Outer p o B 0 (B * o) 0 C :=
  ⟨by simp, fun _ => by simp, h, by omega, fun h => by omega, by omega, by omega⟩
theorem Outer.fresh {p o B t x t' x' : Int} {i C : Nat} (h : Outer p o B t x i C) (hi : i < C) (hn : t' * o + x' = t * o + x) (l : 0 ≤ x') (hx : x' < o) (hpo : p ≤ o) (p0 : 0 ≤ p) (b1 : 1 ≤ B) (u : t ≤ t') (u1 : t' ≤ t + 102) : Outer p o B t' (min (x' + p) (B * o)) (i + 1) C := by
  have e1 : min i C = i := by omega
  have e2 : min (i + 1) C = i + 1 := by omega
  have e3 : ((i + 1 : Nat) : Int) * p = i * p + p := by rw [show ((i + 1 : Nat) : Int) = (i : Int) + 1 by omega, Int.add_mul]; omega
  have hB : 1 * o ≤ B * o := Int.mul_le_mul_of_nonneg_right b1 (by omega)
  obtain ⟨h1, h2, h3, h4, h5, h6, h7⟩ := h
  rw [e1] at h1 h2
  refine ⟨by rw [e2, e3]; omega, fun hok => ?_, by omega, by omega, fun hc => by omega, by omega, by omega⟩
  rw [e2, e3]
  have := h2 hok
  rcases hok with hok | hok
  · have : 2 * o ≤ B * o := Int.mul_le_mul_of_nonneg_right (by omega) (by omega)
    omega
  · subst hok; omega
theorem Outer.stay {p o B t x t' x' : Int} {i C : Nat} (h : Outer p o B t x i C) (hi : i = C) (hn : t' * o + x' = t * o + x) (l : 0 ≤ x') (hx : x' < o) (b1 : 1 ≤ B) (u : t ≤ t') (u1 : t' ≤ t + 102) : Outer p o B t' x' (i + 1) C := by
  have e1 : min i C = C := by omega
  have e2 : min (i + 1) C = C := by omega
  have hB : 1 * o ≤ B * o := Int.mul_le_mul_of_nonneg_right b1 (by omega)
  obtain ⟨h1, h2, h3, h4, h5, h6, h7⟩ := h
  rw [e1] at h1 h2
  refine ⟨by rw [e2]; omega, fun hok => by rw [e2]; have := h2 hok; omega, by omega, by omega, fun hc => by omega, by omega, by omega⟩
theorem Outer.fin {p o B t x : Int} {i C : Nat} (h : Outer p o B t x i C) (hi : C < i) (o0 : 1 ≤ o) : t ≤ mostOf p o B C ∧ ((1 < B ∨ p = 0) → t = mostOf p o B C) := by
  have e1 : min i C = C := by omega
  obtain ⟨h1, h2, h3, h4, h5, h6, h7⟩ := h
  rw [e1] at h1 h2
  have hx := h5 hi
  unfold mostOf
  generalize (C : Int) * p = Y at *
  have m1 := Int.emod_add_mul_ediv Y o
  have m2 := Int.emod_nonneg Y (show o ≠ 0 by omega)
  have m3 := Int.emod_lt_of_pos Y (show 0 < o by omega)
  have key : ∀ a b : Int, a * o < b * o + o → a ≤ b := fun a b hab => by
    have : a * o < (b + 1) * o := by rw [Int.add_mul]; omega
    have := Int.lt_of_mul_lt_mul_right this (by omega)
    omega
  have e : (B + Y / o) * o = B * o + o * (Y / o) := by rw [Int.add_mul, Int.mul_comm (Y / o)]
  refine ⟨key _ _ (by omega), fun hok => ?_⟩
  have := h2 hok
  have g1 := key t (B + Y / o) (by omega)
  have g2 := key (B + Y / o) t (by omega)
  omega
theorem Inn.xle {o B t0 x0 t x : Int} {k : Nat} (h : Inn o B t0 x0 t x k) (o0 : 1 ≤ o) : x ≤ x0 := by
  have : t0 * o ≤ t * o := Int.mul_le_mul_of_nonneg_right h.u0 (by omega)
  have := h.sum
  omega
theorem Inn.start {o B t x : Int} (h0 : 0 ≤ x) (h1 : x ≤ B * o) : Inn o B t x t x 0 := ⟨rfl, h0, .inr (by simp; exact h1), by omega, by omega⟩
theorem all_walk (n m : Int) (w : World) (h1 : -9223372036854775808 ≤ n) (h2 : n ≤ 9223372036854775807) (h3 : -9223372036854775808 ≤ m) (h4 : m ≤ 9223372036854775807) :
    Calls Try.prog 4 #[.int .i64 n, .int .i64 m] w (TruePost w) := by
  have y0 := around_nonneg m 61 (by omega)
  have y1 := around_lt m 61 (by omega)
  obtain ⟨C, hC⟩ : ∃ C : Nat, around m 61 = (C : Int) := ⟨(around m 61).toNat, by omega⟩
  have hC1 : C ≤ 60 := by omega
  have HC := Lib.hid hC
  have HC1 := Lib.hid hC1
  clear hC hC1 y0 y1
  go_enter Try.func4, Try.ntmps4
  go_wp2_with fail
  refine (budget_any n _ h1 h2).mono ?_
  rintro e w1 ⟨⟨p0, o, B0, rfl, hok0⟩, hb1⟩
  obtain ⟨a0, a1, o0, o1, a4, a5⟩ := hok0
  unfold bud
  obtain ⟨B, hB⟩ : ∃ B, max B0 1 = B := ⟨_, rfl⟩
  obtain ⟨P, hP⟩ : ∃ P, min p0 o = P := ⟨_, rfl⟩
  have HBE := Lib.hid hB
  have HPE := Lib.hid hP
  have b0 : 1 ≤ B := by omega
  have b1 : B ≤ 100 := by omega
  have q0 : 0 ≤ P := by omega
  have q1 : P ≤ 100 := by omega
  have HPO := Lib.hid (show P ≤ o by omega)
  have hok : BudOk P o B := ⟨q0, q1, o0, o1, by omega, b1⟩
  have HOK := Lib.hid hok
  have HN := Lib.hid (fun w => newTok_any P o B hok w)
  have HM := Lib.hid (fun w => most_any P o B C hok w (by omega) (by have := HC1.out; omega))
  have hbud : BudAt (w1.alloc (.cells #[.int .i64 P, .int .i64 o, .int .i64 B] 24)) w1.heap.size P o B := BlockAt.new w1 24 [.int .i64 P, .int .i64 o, .int .i64 B]
  have hbw : Below w.heap.size w (w1.alloc (.cells #[.int .i64 P, .int .i64 o, .int .i64 B] 24)) := hb1.alloc hb1.size _
  have hXw := hb1.size
  have HBUD := Lib.hid hbud
  have HBW := Lib.hid hbw
  have hm1 : B * o ≤ 100 * 100 := Int.mul_le_mul b1 o1 (by omega) (by omega)
  have hm0 : 0 ≤ B * o := Int.mul_nonneg (by omega) (by omega)
  have HMB := Lib.hid (And.intro hm0 hm1)
  unfold bud at HN HM
  clear hb1 hbud hbw hB hP hok hm0 hm1
  go_wp2_with fail
  rw [show max B0 1 = B from HBE.out, show min p0 o = P from HPE.out]
  refine (HN.out _).mono ?_
  rintro e w2 ⟨rfl, ht, hb⟩
  have HT := Lib.hid (show Tk w w2 w1.heap.size ((w1.alloc (.cells #[.int .i64 P, .int .i64 o, .int .i64 B] 24)).heap.size + 1) P o B (B * o) from
    ⟨HBUD.out.keep (Upd.ofBelow hb) (by simp), ht, HBW.out.trans (hb.mono HBW.out.size), hXw, by have := HBW.out.size; omega, by simp; omega⟩)
  obtain ⟨X, hX⟩ : ∃ X, w1.heap.size = X := ⟨_, rfl⟩
  obtain ⟨b, hbe⟩ : ∃ b, (w1.alloc (.cells #[.int .i64 P, .int .i64 o, .int .i64 B] 24)).heap.size + 1 = b := ⟨_, rfl⟩
  rw [hX, hbe] at HT
  rw [hbe]
  have HX := Lib.hid hX
  clear ht hb hbe HBUD HBW hXw HN
  go_wp2_with fail
  refine (around_any m 61 _ h3 h4 (by omega)).mono ?_
  rintro e w3 ⟨rfl, rfl⟩
  rw [show around m 61 = C from HC.out]
  go_wp2_with fail
  have HST := Lib.hid (Outer.start P o B C HMB.out.1)
  have hC60 := HC1.out
  go_loopw [8, 9] (fun t i wr => ∃ (T x : Int) (j : Nat), j ≤ C + 1 ∧ t = .int .i64 T ∧ i = .int .i64 j ∧ Hid (Outer P o B T x j C) ∧ Hid (Tk w wr X b P o B x)) (fun _ i _ => C + 1 - (intOf i).toNat)
  case atStart => exact ⟨0, B * o, 0, by omega, rfl, rfl, HST, HT⟩
  case round =>
    obtain ⟨T, x, j, hj, rfl, rfl, HO, HTK⟩ := hrel
    clear HST HT
    by_cases hjc : j ≤ C
    · have hT0 := HO.out.t0
      have hT1 : T ≤ 6120 := by have := HO.out.t1; omega
      have HIN := Lib.hid (Inn.start (o := o) (B := B) (t := T) HO.out.low HO.out.high)
      go_wp2_with fail
      go_loopw [8, 10] (fun t i wr => ∃ (T' x' : Int) (k : Nat), k ≤ 102 ∧ t = .int .i64 T' ∧ i = .int .i64 k ∧ Hid (Inn o B T x T' x' k) ∧ Hid (Tk w wr X b P o B x')) (fun _ i _ => 102 - (intOf i).toNat)
      case atStart => exact ⟨T, x, 0, by omega, rfl, rfl, HIN, HTK⟩
      case round =>
        obtain ⟨T', x', k, hk, rfl, rfl, HI, HTK2⟩ := hrel
        have x0 := HI.out.low
        have x1 : x' ≤ 10000 := by have := HI.out.xle o0; have := HO.out.high; have := HMB.out; omega
        have t0 : 0 ≤ T' := by have := HI.out.u0; omega
        have t1 : T' ≤ 6222 := by have := HI.out.u1; omega
        by_cases hk2 : k < 102
        · by_cases hx : o ≤ x'
          · go_wp2_with fail
            refine (take_hit b P o (B * o) x' _ HTK2.out.tok (by omega) o1 x0 x1 hx (x' - o) rfl).mono ?_
            rintro e w4 ⟨rfl, ht, hu⟩
            have HTK3 := Lib.hid (HTK2.out.step hu ht)
            clear ht hu
            go_wp2_with fail
            go_roundw
            case rel => exact ⟨T' + 1, x' - o, k + 1, by omega, by go_num, by go_num, HI.out.hit hx, HTK3⟩
            case measure => simp [intOf] <;> omega
          · go_wp2_with fail
            refine (take_miss b P o (B * o) x' _ HTK2.out.tok (by omega) o1 x0 x1 (by omega)).mono ?_
            rintro e w4 ⟨rfl, ht, hu⟩
            have HTK3 := Lib.hid (HTK2.out.step hu ht)
            clear ht hu
            go_wp2_with fail
            go_roundw
            case rel => exact ⟨T', x', k + 1, by omega, rfl, by go_num, HI.out.miss (by omega), HTK3⟩
            case measure => simp [intOf] <;> omega
        · have hxo := HI.out.done (by omega) o0 b1
          by_cases hjl : j < C
          · have HO2 := Lib.hid (HO.out.fresh hjl HI.out.sum x0 hxo HPO.out q0 b0 HI.out.u0 (by have := HI.out.u1; omega))
            go_wp2_with fail
            refine (fresh_to b P o (B * o) x' (min (x' + P) (B * o)) _ HTK2.out.tok q0 q1 x0 x1 rfl).mono ?_
            rintro e w4 ⟨rfl, ht, hu⟩
            have HTK3 := Lib.hid (HTK2.out.step hu ht)
            clear ht hu
            go_wp2_with fail
            go_roundw
            case rel => exact ⟨T', _, j + 1, by omega, rfl, by go_num, HO2, HTK3⟩
            case measure => simp [intOf] <;> omega
          · have HO2 := Lib.hid (HO.out.stay (by omega) HI.out.sum x0 hxo b0 HI.out.u0 (by have := HI.out.u1; omega))
            go_wp2_with fail
            go_roundw
            case rel => exact ⟨T', _, j + 1, by omega, rfl, by go_num, HO2, HTK2⟩
            case measure => simp [intOf] <;> omega
    · have hfin := HO.out.fin (by omega) o0
      have hbud := HTK.out.bud
      have c0 := BlockAt.cell (w := wr) hbud 0 _ rfl
      have c1 := BlockAt.cell (w := wr) hbud 1 _ rfl
      have c2 := BlockAt.cell (w := wr) hbud 2 _ rfl
      obtain ⟨MO, hMO⟩ : ∃ M, mostOf P o B C = M := ⟨_, rfl⟩
      rw [hMO] at hfin HM
      have HFIN := Lib.hid hfin
      clear hbud hfin hMO
      by_cases hb1 : 1 < B
      · have hT : T = MO := HFIN.out.2 (.inl hb1)
        subst hT
        go_wp2_with fail
        refine (HM.out _).mono ?_
        rintro e w4 ⟨rfl, hb⟩
        have HT4 := Lib.hid (HTK.out.next hb)
        clear hb c0 c1 c2
        go_wp2_with fail
        refine (lives_any _).mono ?_
        rintro e w5 ⟨rfl, hb⟩
        have HT5 := Lib.hid (HT4.out.next hb)
        clear hb
        go_wp2
        go_ret
        exact ⟨rfl, HT5.out.below⟩
      · by_cases hp0 : P = 0
        · have hT : T = MO := HFIN.out.2 (.inr hp0)
          subst hT hp0
          go_wp2_with fail
          refine (HM.out _).mono ?_
          rintro e w4 ⟨rfl, hb⟩
          have HT4 := Lib.hid (HTK.out.next hb)
          clear hb c0 c1 c2
          go_wp2_with fail
          refine (lives_any _).mono ?_
          rintro e w5 ⟨rfl, hb⟩
          have HT5 := Lib.hid (HT4.out.next hb)
          clear hb
          go_wp2
          go_ret
          exact ⟨rfl, HT5.out.below⟩
        · have hpo : ¬ P + o ≤ o := by omega
          have hle : T ≤ MO := HFIN.out.1
          go_wp2_with fail
          refine (HM.out _).mono ?_
          rintro e w4 ⟨rfl, hb⟩
          have HT4 := Lib.hid (HTK.out.next hb)
          clear hb c0 c1 c2
          go_wp2_with fail
          refine (lives_any _).mono ?_
          rintro e w5 ⟨rfl, hb⟩
          have HT5 := Lib.hid (HT4.out.next hb)
          clear hb
          go_wp2
          go_ret
          exact ⟨rfl, HT5.out.below⟩
end Go.Proofs.Ytjiclgebhndljaa
