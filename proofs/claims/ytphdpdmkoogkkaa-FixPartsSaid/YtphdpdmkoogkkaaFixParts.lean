/- Layer 1: the walks of Sum, of FixParts. -/
import Derived.Test.YtphdpdmkoogkkaaFixI
import Derived.Test.YtphdpdmkoogkkaaFixE
namespace Go.Proofs.Ytphdpdmkoogkkaa
open Go.RowKit
def sumC (l : List Int) : Int := min (sumZ l) 4611686018427387903
structure SumOk (l : List Int) : Prop where
  len : l.length ≤ 8
  rng : ∀ x ∈ l, 0 ≤ x ∧ x ≤ 4611686018427387903
/-- A slice of such numbers. -/
def SumIn (w : World) (v : Value) (l : List Int) : Prop := IntsIn w v l ∧ SumOk l
theorem SumIn.cell {w : World} {a : Option Addr} {n cap : Nat} {l : List Int} (h : SumIn w (.slice a n cap) l) {j : Nat} {x : Int} (hx : l[j]? = some x) :
    ∃ b off, a = some ⟨b, off, none⟩ ∧ w.cell? ⟨b, off + j, none⟩ = some (.int .i64 x) ∧ 0 ≤ x ∧ x ≤ 4611686018427387903 := by
  obtain ⟨⟨a', cap', he, hl, hr, hc⟩, ho⟩ := h
  cases he
  have hk := (List.getElem?_eq_some_iff.1 hx).1
  rcases hc with hc | ⟨b, off, rfl, hc⟩
  · subst hc; simp at hx
  · exact ⟨b, off, rfl, by rw [hc j hk, List.getD, hx]; rfl, ho.rng x (List.mem_of_getElem? hx)⟩
theorem sum_any (v : Value) (l : List Int) (w : World) (h : SumIn w v l) :
    Calls Try.prog 30 #[v] w fun e w' => e = .returned (.int .i64 (sumC l)) ∧ w = w' := by
  have h' := h
  obtain ⟨⟨a, cap, rfl, -, -, -⟩, ho⟩ := h'
  have HS := Lib.hid h
  have HO := Lib.hid ho
  have hl8 : (l.length : Int) ≤ 8 := by have := ho.len; omega
  obtain ⟨n, hn⟩ : ∃ n, l.length = n := ⟨_, rfl⟩
  have HN := Lib.hid hn
  rw [hn] at hl8
  rw [hn]
  have HS2 := Lib.hid (show SumIn w (.slice a n cap) l by rw [← hn]; exact h)
  obtain ⟨V, hV⟩ : ∃ v, sumC l = v := ⟨_, rfl⟩
  have HV := Lib.hid hV
  rw [hV]
  have HST := Lib.hid (show (0 : Int) = sumZ (l.take 0) by simp [sumZ])
  clear h ho hn hV HS
  go_enter Try.func30, Try.ntmps30
  go_wp2_with fail
  go_loop [3, 8] (fun s i => ∃ (S : Int) (j : Nat), j ≤ n ∧ s = .int .i64 S ∧ i = .int .i64 j ∧ 0 ≤ S ∧ S ≤ 4611686018427387903 ∧ Hid (S = sumZ (l.take j))) (fun _ i => n - (intOf i).toNat)
  case atStart => exact ⟨0, 0, by omega, rfl, rfl, by omega, by omega, HST⟩
  case round =>
    obtain ⟨S, j, hj, rfl, rfl, S0, S1, HSJ⟩ := hrel
    clear HST
    by_cases hlt : j < n
    · obtain ⟨x, hx⟩ : ∃ x, l[j]? = some x := ⟨l[j]'(by rw [HN.out]; exact hlt), by simp⟩
      obtain ⟨b, off, rfl, c0, x0, x1⟩ := HS2.out.cell hx
      have hnx := sumZ_take_succ hx
      have hle := sumZ_take_le (l := l) (fun y hy => (HO.out.rng y hy).1) (j + 1)
      rw [hnx, ← HSJ.out] at hle
      rw [← HSJ.out] at hnx
      have HNX := Lib.hid hnx.symm
      have HLE := Lib.hid hle
      have j0 : (0 : Int) ≤ j := by omega
      have j1 : (j : Int) < n := by omega
      clear hx hnx hle
      by_cases hc : 4611686018427387903 - S < x
      · obtain rfl : V = 4611686018427387903 := by
          rw [← HV.out]; unfold sumC; have := HLE.out; omega
        go_wp2_with fail
        go_ret
        exact ⟨rfl, rfl⟩
      · go_wp2_with fail
        go_round
        case rel => exact ⟨S + x, j + 1, by omega, rfl, by go_num, by omega, by omega, HNX⟩
        case measure => simp [intOf] <;> omega
    · obtain rfl : j = n := by omega
      have hS := HSJ.out
      rw [List.take_of_length_le (by rw [HN.out]; exact Nat.le_refl _)] at hS
      obtain rfl : V = S := by rw [← HV.out]; unfold sumC; omega
      clear hS
      go_wp2_with fail
      go_ret
      exact ⟨rfl, rfl⟩
theorem rsum_any (v : Value) (l : List Int) (w : World) (h : SumIn w v l) :
    Calls Try.prog 31 #[v] w fun e w' => e = .returned (.int .i64 (sumC l)) ∧ w = w' := by
  have h' := h
  obtain ⟨⟨a, cap, rfl, -, -, -⟩, ho⟩ := h'
  have HO := Lib.hid ho
  have hl8 : (l.length : Int) ≤ 8 := by have := ho.len; omega
  obtain ⟨n, hn⟩ : ∃ n, l.length = n := ⟨_, rfl⟩
  have HN := Lib.hid hn
  rw [hn] at hl8
  rw [hn]
  have HS2 := Lib.hid (show SumIn w (.slice a n cap) l by rw [← hn]; exact h)
  obtain ⟨V, hV⟩ : ∃ v, sumC l = v := ⟨_, rfl⟩
  have HV := Lib.hid hV
  rw [hV]
  have HST := Lib.hid (show (0 : Int) = min (sumZ (l.take 0)) 4611686018427387903 by simp [sumZ]; decide)
  clear h ho hn hV
  go_enter Try.func31, Try.ntmps31
  go_wp2_with fail
  go_loop [3, 4] (fun s i => ∃ (S : Int) (j : Nat), j ≤ n ∧ s = .int .i64 S ∧ i = .int .i64 j ∧ 0 ≤ S ∧ S ≤ 4611686018427387903 ∧ Hid (S = min (sumZ (l.take j)) 4611686018427387903)) (fun _ i => n - (intOf i).toNat)
  case atStart => exact ⟨0, 0, by omega, rfl, rfl, by omega, by omega, HST⟩
  case round =>
    obtain ⟨S, j, hj, rfl, rfl, S0, S1, HSJ⟩ := hrel
    clear HST
    by_cases hlt : j < n
    · obtain ⟨x, hx⟩ : ∃ x, l[j]? = some x := ⟨l[j]'(by rw [HN.out]; exact hlt), by simp⟩
      obtain ⟨b, off, rfl, c0, x0, x1⟩ := HS2.out.cell hx
      have hnx := sumZ_take_succ hx
      have hsj := HSJ.out
      have j0 : (0 : Int) ≤ j := by omega
      have j1 : (j : Int) < n := by omega
      by_cases hc : 4611686018427387903 < S + x
      · have HNX := Lib.hid (show (4611686018427387903 : Int) = min (sumZ (l.take (j + 1))) 4611686018427387903 by omega)
        clear hx hnx hsj
        go_wp2_with fail
        go_round
        case rel => exact ⟨4611686018427387903, j + 1, by omega, rfl, by go_num, by omega, by omega, HNX⟩
        case measure => simp [intOf] <;> omega
      · have HNX := Lib.hid (show S + x = min (sumZ (l.take (j + 1))) 4611686018427387903 by omega)
        clear hx hnx hsj
        go_wp2_with fail
        go_round
        case rel => exact ⟨S + x, j + 1, by omega, rfl, by go_num, by omega, by omega, HNX⟩
        case measure => simp [intOf] <;> omega
    · obtain rfl : j = n := by omega
      have hS := HSJ.out
      rw [List.take_of_length_le (by rw [HN.out]; exact Nat.le_refl _)] at hS
      obtain rfl : V = S := by rw [← HV.out]; unfold sumC; omega
      clear hS
      go_wp2_with fail
      go_ret
      exact ⟨rfl, rfl⟩
theorem sumIn_nil (w : World) : SumIn w (.slice none 0 0) [] := ⟨intsIn_nil w none 0, by simp, by simp⟩
theorem isRoot_ex : ∀ n : Nat, ∃ r, IsRoot n r
  | 0 => ⟨0, by simp [IsRoot]⟩
  | n + 1 => by
    obtain ⟨r, h1, h2⟩ := isRoot_ex n
    by_cases h : (r + 1) * (r + 1) ≤ n + 1
    · refine ⟨r + 1, h, ?_⟩
      have e : (r + 1 + 1) * (r + 1 + 1) = (r + 1) * (r + 1) + (r + 1) + (r + 1 + 1) := by rw [Nat.mul_add (r + 1 + 1), Nat.add_mul, Nat.one_mul, Nat.mul_one]
      omega
    · exact ⟨r, by omega, by omega⟩
structure PartsW (w W : World) (X Y Z : Nat) (a0 a1 b0 b1 c0 c1 : Int) : Prop where
  x : BlockAt W X 3 [.int .i64 a0, .int .i64 a1]
  y : BlockAt W Y 3 [.int .i64 b0, .int .i64 b1]
  z : BlockAt W Z 3 [.int .i64 c0, .int .i64 c1]
  below : Below w.heap.size w W
theorem PartsW.next {w W W' : World} {X Y Z : Nat} {a0 a1 b0 b1 c0 c1 : Int} (h : PartsW w W X Y Z a0 a1 b0 b1 c0 c1) (hb : Below W.heap.size W W') : PartsW w W' X Y Z a0 a1 b0 b1 c0 c1 :=
  ⟨h.x.keep (Upd.ofBelow hb) (by simp), h.y.keep (Upd.ofBelow hb) (by simp), h.z.keep (Upd.ofBelow hb) (by simp), h.below.trans (hb.mono h.below.size)⟩
theorem two_at {a0 a1 : Int} (P : Int → Prop) (h0 : P a0) (h1 : P a1) (k : Nat) (hk : k < 2) : ∃ x, [Value.int .i64 a0, .int .i64 a1][k]? = some (.int .i64 x) ∧ P x := by
  rcases (show k = 0 ∨ k = 1 by omega) with rfl | rfl
  · exact ⟨a0, rfl, h0⟩
  · exact ⟨a1, rfl, h1⟩
def someZ (z : Int) : Int := around z 4611686018427387904
theorem someZ_rng (z : Int) : 0 ≤ someZ z ∧ someZ z ≤ 4611686018427387903 := ⟨around_nonneg _ _ (by omega), by have := around_lt z 4611686018427387904 (by omega); unfold someZ; omega⟩
theorem take_snoc_p {α : Type} {l : List α} {k : Nat} {z : α} (h : l[k]? = some z) : l.take (k + 1) = l.take k ++ [z] := by
  rw [List.take_add_one, h]; rfl
set_option maxRecDepth 100000 in
set_option maxHeartbeats 2000000 in
theorem parts_walk (n num den : Int) (l : Value) (zs : List Int) (w : World) (h1 : -9223372036854775808 ≤ n) (h2 : n ≤ 9223372036854775807) (h3 : -9223372036854775808 ≤ num) (h4 : num ≤ 9223372036854775807) (h5 : -9223372036854775808 ≤ den) (h6 : den ≤ 9223372036854775807) (hl : IntsIn w l zs) :
    Calls Try.prog 9 #[.int .i64 n, .int .i64 num, .int .i64 den, l] w (TruePost w) := by
  have CN0 := Lib.hid (fun w => some_any n w h1 h2)
  have CN1 := Lib.hid (fun w => around_any n 1000 w h1 h2 (by omega))
  have CK0 := Lib.hid (fun w => some_any num w h3 h4)
  have CK1 := Lib.hid (fun w => around_any num 1000 w h3 h4 (by omega))
  have CD0 := Lib.hid (fun w => above_any den w h5 h6)
  have CD1 := Lib.hid (fun w => around_any den 1000 w h5 h6 (by omega))
  have u1 := around_nonneg n 4611686018427387904 (by omega)
  have u2 := around_lt n 4611686018427387904 (by omega)
  have u3 := around_nonneg n 1000 (by omega)
  have u4 := around_lt n 1000 (by omega)
  have v1 := around_nonneg num 4611686018427387904 (by omega)
  have v2 := around_lt num 4611686018427387904 (by omega)
  have v3 := around_nonneg num 1000 (by omega)
  have v4 := around_lt num 1000 (by omega)
  have x1 := around_nonneg den 4611686018427387904 (by omega)
  have x2 := around_lt den 4611686018427387904 (by omega)
  have x3 := around_nonneg den 1000 (by omega)
  have x4 := around_lt den 1000 (by omega)
  obtain ⟨a0, ea0⟩ : ∃ k, around n 4611686018427387904 = k := ⟨_, rfl⟩
  obtain ⟨a1, ea1⟩ : ∃ k, around n 1000 = k := ⟨_, rfl⟩
  obtain ⟨b0, eb0⟩ : ∃ k, around num 4611686018427387904 = k := ⟨_, rfl⟩
  obtain ⟨b1, eb1⟩ : ∃ k, around num 1000 = k := ⟨_, rfl⟩
  obtain ⟨c0, ec0⟩ : ∃ k, 1 + around den 4611686018427387904 = k := ⟨_, rfl⟩
  obtain ⟨c1, ec1⟩ : ∃ k, around den 1000 = k := ⟨_, rfl⟩
  rw [ea0] at CN0 u1 u2
  rw [ea1] at CN1 u3 u4
  rw [eb0] at CK0 v1 v2
  rw [eb1] at CK1 v3 v4
  rw [ec0] at CD0
  rw [ec1] at CD1 x3 x4
  have x5 : 1 ≤ c0 := by omega
  have x6 : c0 ≤ 4611686018427387904 := by omega
  clear ea0 ea1 eb0 eb1 ec0 ec1 x1 x2
  have hq : c0 / 4611686018427387904 = 0 ∧ c0 ≤ 4611686018427387903 ∨ c0 / 4611686018427387904 = 1 ∧ c0 = 4611686018427387904 := by omega
  obtain ⟨d0, hd0⟩ : ∃ d, c0 - c0 / 4611686018427387904 = d := ⟨_, rfl⟩
  obtain ⟨d1, hd1⟩ : ∃ d, 1 + c1 = d := ⟨_, rfl⟩
  have y1 : 1 ≤ d0 := by omega
  have y2 : d0 ≤ 4611686018427387903 := by omega
  have y3 : 1 ≤ d1 := by omega
  have y4 : d1 ≤ 4611686018427387903 := by omega
  have HD0 := Lib.hid hd0
  have HD1 := Lib.hid hd1
  have HL := Lib.hid hl
  have hl0 := hl
  obtain ⟨la, lcap, rfl, hll, -, -⟩ := hl0
  have hll' : (zs.length : Int) ≤ 9223372036854775807 := by omega
  clear hq hd0 hd1 hl hll
  go_enter Try.func9, Try.ntmps9
  go_wp2_with fail
  refine (CN0.out _).mono ?_
  rintro e w1 ⟨rfl, rfl⟩
  go_wp2_with fail
  refine (CN1.out _).mono ?_
  rintro e w1 ⟨rfl, rfl⟩
  go_wp2_with fail
  refine (CK0.out _).mono ?_
  rintro e w1 ⟨rfl, rfl⟩
  go_wp2_with fail
  refine (CK1.out _).mono ?_
  rintro e w1 ⟨rfl, rfl⟩
  go_wp2_with fail
  refine (CD0.out _).mono ?_
  rintro e w1 ⟨rfl, rfl⟩
  go_wp2_with fail
  refine (CD0.out _).mono ?_
  rintro e w1 ⟨rfl, rfl⟩
  go_wp2_with fail
  refine (CD1.out _).mono ?_
  rintro e w1 ⟨rfl, rfl⟩
  have hd0 := HD0.out
  have hd1 := HD1.out
  go_wp2_with fail
  clear hd0 hd1
  have HST := Lib.hid (show PartsW w (((w.alloc (.cells #[.int .i64 a0, .int .i64 a1] 3)).alloc (.cells #[.int .i64 b0, .int .i64 b1] 3)).alloc (.cells #[.int .i64 d0, .int .i64 d1] 3)) w.heap.size (w.heap.size + 1) (w.heap.size + 1 + 1) a0 a1 b0 b1 d0 d1 from
    ⟨((BlockAt.new w 3 [.int .i64 a0, .int .i64 a1]).alloc _).alloc _, by simpa using (BlockAt.new (w.alloc (.cells #[.int .i64 a0, .int .i64 a1] 3)) 3 [.int .i64 b0, .int .i64 b1]).alloc (.cells #[.int .i64 d0, .int .i64 d1] 3),
     by simpa using BlockAt.new ((w.alloc (.cells #[.int .i64 a0, .int .i64 a1] 3)).alloc (.cells #[.int .i64 b0, .int .i64 b1] 3)) 3 [.int .i64 d0, .int .i64 d1], (((Below.refl _ _).alloc (Nat.le_refl _) _).alloc (by simp) _).alloc (by simp; omega) _⟩)
  obtain ⟨W0, hW0⟩ : ∃ W, ((w.alloc (.cells #[.int .i64 a0, .int .i64 a1] 3)).alloc (.cells #[.int .i64 b0, .int .i64 b1] 3)).alloc (.cells #[.int .i64 d0, .int .i64 d1] 3) = W := ⟨_, rfl⟩
  obtain ⟨Z, hZ⟩ : ∃ Y, w.heap.size + 1 + 1 = Y := ⟨_, rfl⟩
  obtain ⟨Y, hY⟩ : ∃ Y, w.heap.size + 1 = Y := ⟨_, rfl⟩
  obtain ⟨X, hX⟩ : ∃ X, w.heap.size = X := ⟨_, rfl⟩
  rw [hW0, hZ, hY, hX] at HST
  rw [hW0, hZ, hY, hX]
  clear hW0 hZ hY hX
  go_loopw [12] (fun i wr => ∃ (j : Nat), j ≤ 8 ∧ i = .int .i64 j ∧ Hid (PartsW w wr X Y Z a0 a1 b0 b1 d0 d1)) (fun i _ => 8 - (intOf i).toNat)
  case atStart => exact ⟨0, by omega, rfl, HST⟩
  case round =>
    obtain ⟨j, hj, rfl, HW⟩ := hrel
    clear HST
    by_cases hlt : j < 8
    · obtain ⟨a, ha, ha0, ha1⟩ := two_at (a0 := a0) (a1 := a1) (fun x => 0 ≤ x ∧ x ≤ 4611686018427387903) (by omega) (by omega) (j % 2) (by omega)
      obtain ⟨b, hb, hb0, hb1⟩ := two_at (a0 := b0) (a1 := b1) (fun x => 0 ≤ x ∧ x ≤ 4611686018427387903) (by omega) (by omega) (j / 2 % 2) (by omega)
      obtain ⟨c, hc, hc0, hc1⟩ := two_at (a0 := d0) (a1 := d1) (fun x => 1 ≤ x ∧ x ≤ 4611686018427387903) (by omega) (by omega) (j / 4) (by omega)
      have e1 := HW.out.x.cell _ _ ha
      have e2 := HW.out.y.cell _ _ hb
      have e3 := HW.out.z.cell _ _ hc
      obtain ⟨A, rfl⟩ := Int.eq_ofNat_of_zero_le ha0
      obtain ⟨B, rfl⟩ := Int.eq_ofNat_of_zero_le hb0
      obtain ⟨C, rfl⟩ := Int.eq_ofNat_of_zero_le (show 0 ≤ c by omega)
      have K1 := Lib.hid (fun w => (part_any A B C w (by omega) (by omega) (by omega) (by omega)).mono (R' := fun e w' => e = .returned (.int .i64 ((partN A B C : Nat) : Int)) ∧ ∃ n, w' = w.drewN n) (fun _ _ h => h))
      have K2 := Lib.hid (fun w => rpart_any A B C w (by omega) (by omega) (by omega) (by omega))
      obtain ⟨r, hr⟩ := isRoot_ex A
      have K3 := Lib.hid (fun w => (root_any A w (by omega)).mono (R' := fun e w' => e = .returned (.int .i64 (r : Int)) ∧ w = w') (fun e w' ⟨⟨s, he, hs⟩, hw⟩ => ⟨by rw [he, hs.uniq hr], hw⟩))
      have K4 := Lib.hid (fun w => (rroot_any A w (by omega)).mono (R' := fun e w' => e = .returned (.int .i64 (r : Int)) ∧ w = w') (fun e w' ⟨⟨s, he, hs⟩, hw⟩ => ⟨by rw [he, hs.uniq hr], hw⟩))
      obtain ⟨V, hV⟩ : ∃ v, partN A B C = v := ⟨_, rfl⟩
      rw [hV] at K1 K2
      have j0 : (0 : Int) ≤ j := by omega
      have j1 : (j : Int) < 8 := by omega
      have HJ := Lib.hid (And.intro hj hlt)
      clear hV hr ha hb hc hj hlt
      generalize (A : Int) = A' at *
      generalize (B : Int) = B' at *
      generalize (C : Int) = C' at *
      generalize (V : Int) = V' at *
      generalize (r : Int) = r' at *
      go_wp2_with fail
      refine (K1.out _).mono ?_
      rintro e w1 ⟨rfl, m, rfl⟩
      clear e1 e2 e3
      go_wp2_with fail
      refine (K2.out _).mono ?_
      rintro e w1 ⟨rfl, rfl⟩
      go_wp2_with fail
      refine (K3.out _).mono ?_
      rintro e w1 ⟨rfl, rfl⟩
      go_wp2_with fail
      refine (K4.out _).mono ?_
      rintro e w1 ⟨rfl, rfl⟩
      go_wp2_with fail
      go_roundw
      case rel => exact ⟨j + 1, by have := HJ.out; omega, by go_num, HW.out.next (Upd.below (Upd.drewN [] wr m) (Nat.le_refl _) (by simp))⟩
      case measure => have := HJ.out; simp [intOf] <;> omega
    · have HB := Lib.hid HW.out.below
      have hj8 : ¬ (j : Int) < 8 := by omega
      have HST : Hid (OwnInts w.heap.size wr (.slice none 0 0) ((zs.take 0).map someZ)) := Lib.hid (OwnInts.nil _ _)
      obtain ⟨wo, hwo⟩ : ∃ wo, wr = wo := ⟨_, rfl⟩
      rw [hwo] at HB HST ⊢
      clear hwo HW hlt hj
      go_wp2_with fail
      go_loopw [16, 17] (fun u i wr => ∃ k : Nat, k ≤ zs.length ∧ (k : Int) ≤ 8 ∧ i = .int .i64 k ∧ Hid (OwnInts w.heap.size wr u ((zs.take k).map someZ)) ∧ Hid (Below w.heap.size w wr)) (fun _ i _ => 8 - (intOf i).toNat)
      case atStart => exact ⟨0, by omega, by omega, rfl, HST, HB⟩
      case round =>
        obtain ⟨k, hk, hk8, rfl, HOWN, HBK⟩ := hrel
        clear HST
        by_cases hlt : k < zs.length ∧ (k : Int) < 8
        · obtain ⟨hlt1, hlt2⟩ := hlt
          obtain ⟨z, hz⟩ : ∃ z, zs[k]? = some z := ⟨zs[k], by simp [hlt1]⟩
          have hin := HL.out.keep (Upd.ofBelow HBK.out) (by simp)
          obtain ⟨hzr, b, off, rfl, hcell⟩ : (-9223372036854775808 ≤ z ∧ z ≤ 9223372036854775807) ∧ ∃ b off, la = some ⟨b, off, none⟩ ∧ wr.cell? ⟨b, off + k, none⟩ = some (.int .i64 z) := by
            rcases hin.read with ⟨h, _⟩ | ⟨b, off, cap, he, _, _, hr, hc⟩
            · subst h; simp at hz
            · cases he
              exact ⟨hr z (List.mem_of_getElem? hz), b, off, rfl, hc k z hz⟩
          have htl : ((zs.take k).map someZ).length = k := by simp; omega
          have hown := HOWN.out
          unfold OwnInts at hown
          rw [htl] at hown
          have HOWN2 := Lib.hid hown
          have HZ := Lib.hid hz
          have CS := Lib.hid (fun w => some_any z w hzr.1 hzr.2)
          have hsz : around z 4611686018427387904 = someZ z := rfl
          rw [hsz] at CS
          clear hin hz hown htl hzr hsz
          go_wp2_with fail
          refine (CS.out _).mono ?_
          rintro e w1 ⟨rfl, rfl⟩
          go_wp2_with (at_builtin; refine wpList_append_one wr rfl (.tmp 84) (.tmp 90) 27 rfl w.heap.size 3 1 8 Try.infoInt (by kernel_rfl) rfl (by decide) u16 k (((zs.take k).map someZ).map (Value.int .i64)) rfl HOWN2.out [Value.int .i64 (someZ z)] rfl rfl rfl (by unfold maxLen; omega) (by omega) HBK.out.size ?_)
          intro v' w1 hown1 hup
          have HB1 := Lib.hid (below_own HBK.out HOWN2.out HBK.out.size hup)
          have HO1 : Hid (OwnInts w.heap.size w1 v' ((zs.take (k + 1)).map someZ)) := Lib.hid (by
            refine OwnInts.of hown1 ?_ ?_
            · simp; omega
            · rw [take_snoc_p HZ.out]; simp)
          clear hown1 hup HOWN HOWN2 hcell
          go_wp2_with fail
          go_roundw
          case rel => exact ⟨k + 1, by omega, by omega, by go_num, HO1, HB1⟩
          case measure => simp [intOf] <;> omega
        · have HSI : Hid (SumIn wr u16 ((zs.take k).map someZ)) := Lib.hid (by
            have ho : SumOk ((zs.take k).map someZ) := ⟨by simp; omega, fun x hx => by
              obtain ⟨z, _, rfl⟩ := List.mem_map.1 hx
              exact someZ_rng z⟩
            exact ⟨HOWN.out.isIn (fun x hx => by have := ho.rng x hx; omega), ho⟩)
          have K1 := Lib.hid (sum_any u16 _ wr HSI.out)
          have K2 := Lib.hid (rsum_any u16 _ wr HSI.out)
          obtain ⟨V, hV⟩ : ∃ v, sumC ((zs.take k).map someZ) = v := ⟨_, rfl⟩
          rw [hV] at K1 K2
          have K3 := Lib.hid (sum_any (.slice none 0 0) [] wr (sumIn_nil wr))
          have h0 : sumC [] = 0 := by decide
          rw [h0] at K3
          by_cases hl1 : k < zs.length
          all_goals
            have hl2 : ¬ (k < zs.length ∧ (k : Int) < 8) := hlt
            clear hlt hV h0
            first | (have hl3 : ¬ (k : Int) < 8 := fun h => hl2 ⟨hl1, h⟩) | skip
            clear hl2
            go_wp2_with fail
            refine K1.out.mono ?_
            rintro e w1 ⟨rfl, rfl⟩
            go_wp2_with fail
            refine K2.out.mono ?_
            rintro e w1 ⟨rfl, rfl⟩
            go_wp2_with fail
            refine K3.out.mono ?_
            rintro e w1 ⟨rfl, rfl⟩
            go_wp2_with fail
            refine (lives_any _).mono ?_
            rintro e w2 ⟨rfl, hb⟩
            have HB2 := Lib.hid (HBK.out.trans (hb.mono HBK.out.size))
            clear hb
            go_wp2
            go_ret
            exact ⟨rfl, HB2.out⟩
end Go.Proofs.Ytphdpdmkoogkkaa
