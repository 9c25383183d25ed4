/- Layer 1: the walk of FixFar. -/
import Derived.Test.YtphdpdmkoogkkaaFixG
import Derived.Deep.RegionHeld3
namespace Go.Proofs.Ytphdpdmkoogkkaa
open Go.RowKit
structure FarW (w W : World) (X Y : Nat) (g a t0 t1 : Int) (v : Value) (ps : List (Int × Int)) : Prop where
  x : BlockAt W X 30 [.int .i64 g, .int .i64 a]
  y : BlockAt W Y 3 [.int .i64 t0, .int .i64 t1]
  p : PairsIn W v ps
  below : Below w.heap.size w W
theorem FarW.next {w W W' : World} {X Y : Nat} {g a t0 t1 : Int} {v : Value} {ps : List (Int × Int)} (h : FarW w W X Y g a t0 t1 v ps) (hb : Below W.heap.size W W') : FarW w W' X Y g a t0 t1 v ps :=
  ⟨h.x.keep (Upd.ofBelow hb) (by simp), h.y.keep (Upd.ofBelow hb) (by simp), h.p.keep (Upd.ofBelow hb) (by simp), h.below.trans (hb.mono h.below.size)⟩
theorem FarW.held {w W : World} {X Y : Nat} {g a t0 t1 : Int} {v : Value} {ps : List (Int × Int)} (h : FarW w W X Y g a t0 t1 v ps) (j : Nat) (t : Int) (ht : [Value.int .i64 t0, .int .i64 t1][j]? = some (.int .i64 t)) :
    W.cell? ⟨X, 0, none⟩ = some (.int .i64 g) ∧ W.cell? ⟨X, 1, none⟩ = some (.int .i64 a) ∧ W.cell? ⟨Y, j, none⟩ = some (.int .i64 t) ∧ Hid (FarW w W X Y g a t0 t1 v ps) :=
  ⟨h.x.cell 0 _ rfl, h.x.cell 1 _ rfl, h.y.cell j _ ht, h⟩
theorem far_held {P : Program} {f : FuncId} {args : Array Value} {w W : World} {X Y : Nat} {g a t0 t1 : Int} {u : Value} {ps : List (Int × Int)} {v : Value} (hc : Calls P f args W fun e w' => e = .returned v ∧ Below W.heap.size W w') (j : Nat) (t : Int) (ht : [Value.int .i64 t0, .int .i64 t1][j]? = some (.int .i64 t)) (h : Hid (FarW w W X Y g a t0 t1 u ps)) :
    Calls P f args W fun e W => e = .returned v ∧ W.cell? ⟨X, 0, none⟩ = some (.int .i64 g) ∧ W.cell? ⟨X, 1, none⟩ = some (.int .i64 a) ∧ W.cell? ⟨Y, j, none⟩ = some (.int .i64 t) ∧ Hid (FarW w W X Y g a t0 t1 u ps) :=
  hc.mono fun _ _ ⟨he, hb⟩ => ⟨he, (h.out.next hb).held j t ht⟩
theorem drew_below {P : Program} {f : FuncId} {args : Array Value} {W : World} {v : Value} (hc : Calls P f args W fun e w' => e = .returned v ∧ ∃ n, w' = W.drewN n) : Calls P f args W fun e w' => e = .returned v ∧ Below W.heap.size W w' :=
  hc.mono fun _ _ ⟨he, n, hn⟩ => ⟨he, by rw [hn]; exact Upd.below (Upd.drewN [] W n) (Nat.le_refl _) (by simp)⟩
theorem ints_one (w : World) (n : Int) (h1 : -9223372036854775808 ≤ n) (h2 : n ≤ 9223372036854775807) : IntsIn (w.alloc (.cells #[.int .i64 n] 3)) (.slice (some ⟨w.heap.size, 0, none⟩) 1 1) [n] := by
  refine ⟨_, 1, rfl, by simp, by simp; exact ⟨h1, h2⟩, .inr ⟨_, 0, rfl, fun j hj => ?_⟩⟩
  obtain rfl : j = 0 := by simp at hj; omega
  exact (BlockAt.new w 3 [.int .i64 n]).cell 0 _ rfl
set_option maxHeartbeats 2000000 in
theorem farlaw_walk (l : Value) (zs : List Int) (n tenths : Int) (w : World) (hl : IntsIn w l zs) (h1 : -9223372036854775808 ≤ n) (h2 : n ≤ 9223372036854775807) (h3 : -9223372036854775808 ≤ tenths) (h4 : tenths ≤ 9223372036854775807) :
    Calls Try.prog 4 #[l, .int .i64 n, .int .i64 tenths] w (TruePost w) := by
  have u0 := around_nonneg tenths 1001 (by omega)
  have u1 := around_lt tenths 1001 (by omega)
  have u2 := around_nonneg tenths 25 (by omega)
  have u3 := around_lt tenths 25 (by omega)
  have CA := Lib.hid (fun w => around_any tenths 1001 w h3 h4 (by omega))
  have CB := Lib.hid (fun w => around_any tenths 25 w h3 h4 (by omega))
  obtain ⟨t0, ht0⟩ : ∃ k, around tenths 1001 = k := ⟨_, rfl⟩
  obtain ⟨t1, ht1⟩ : ∃ k, around tenths 25 = k := ⟨_, rfl⟩
  rw [ht0] at u0 u1 CA
  rw [ht1] at u2 u3 CB
  clear ht0 ht1
  have HL := Lib.hid hl
  clear hl
  go_enter Try.func4, Try.ntmps4
  go_wp2_with fail
  refine (pairs_any l zs w HL.out).mono ?_
  rintro e w1 ⟨v, rfl, hp, hb⟩
  have hp' := hp
  obtain ⟨va, vcap, rfl, hvl, hvo, -⟩ := hp'
  obtain ⟨vn, hvn⟩ : ∃ n, (pairsOf zs).length = n := ⟨_, rfl⟩
  rw [hvn] at hp ⊢
  have HP1 := Lib.hid (hp.keep (Upd.alloc [] w1 (.cells #[.int .i64 n] 3)) (by simp))
  have HB1 := Lib.hid (hb.alloc hb.size (.cells #[.int .i64 n] 3))
  have HI1 := Lib.hid (ints_one w1 n h1 h2)
  clear hp hb hvl hvo hvn
  go_wp2_with fail
  refine (pairs_any _ [n] _ HI1.out).mono ?_
  rintro e w2 ⟨v2, rfl, hp2, hb2⟩
  have HP2 := Lib.hid (HP1.out.keep (Upd.ofBelow hb2) (by simp))
  have HB2 := Lib.hid (HB1.out.trans (hb2.mono HB1.out.size))
  have hp2' := hp2
  obtain ⟨va2, vcap2, rfl, hvl2, hvo2, -⟩ := hp2'
  have h0 : (pairsOf [n])[0]? = some (pairOf n) := rfl
  obtain ⟨xb, xo, rfl, c0, c1⟩ := hp2.cells h0
  rw [Nat.zero_mul, Nat.add_zero] at c0 c1
  have hpo := pairOf_ok n
  obtain ⟨g, a, hga⟩ : ∃ g a, pairOf n = (g, a) := ⟨_, _, rfl⟩
  rw [hga] at c0 c1 hpo
  dsimp only at c0 c1
  have hlen2 : (pairsOf [n]).length = 1 := rfl
  rw [hlen2]
  have HPO := Lib.hid hpo
  clear hp2 hb2 hvl2 hvo2 h0 hga HP1 HB1 HI1 hlen2 hpo
  go_wp2_with fail
  refine (CA.out _).mono ?_
  rintro e w3 ⟨rfl, rfl⟩
  go_wp2_with fail
  refine (CB.out _).mono ?_
  rintro e w3 ⟨rfl, rfl⟩
  clear c0 c1
  go_wp2_with fail
  have HST := Lib.hid (show FarW w ((w2.alloc (.cells #[.int .i64 g, .int .i64 a] 30)).alloc (.cells #[.int .i64 t0, .int .i64 t1] 3)) w2.heap.size (w2.alloc (.cells #[.int .i64 g, .int .i64 a] 30)).heap.size g a t0 t1 (.slice va vn vcap) (pairsOf zs) from
    ⟨(BlockAt.new w2 30 [.int .i64 g, .int .i64 a]).alloc _, BlockAt.new _ 3 [.int .i64 t0, .int .i64 t1], (HP2.out.keep (Upd.alloc [] w2 _) (by simp)).keep (Upd.alloc [] _ _) (by simp), (HB2.out.alloc HB2.out.size _).alloc (by have := HB2.out.size; simp; omega) _⟩)
  have e1 : (w2.alloc (.cells #[.int .i64 g, .int .i64 a] 30)).heap.size = w2.heap.size + 1 := by simp
  rw [e1] at HST
  obtain ⟨W0, hW0⟩ : ∃ W, (w2.alloc (.cells #[.int .i64 g, .int .i64 a] 30)).alloc (.cells #[.int .i64 t0, .int .i64 t1] 3) = W := ⟨_, rfl⟩
  obtain ⟨Y, hY⟩ : ∃ Y, w2.heap.size + 1 = Y := ⟨_, rfl⟩
  obtain ⟨X, hX⟩ : ∃ X, w2.heap.size = X := ⟨_, rfl⟩
  rw [hW0, hY, hX] at HST
  rw [hW0, hY, hX]
  clear e1 hW0 hY hX HP2 HB2
  have F1 := Lib.hid (fun (t : Int) (h0 : 0 ≤ t) (h1 : t ≤ 1000) W (h : Hid (FarW w W X Y g a t0 t1 (.slice va vn vcap) (pairsOf zs))) => far_any g a _ _ t W HPO.out h.out.p h0 h1)
  have F2 := Lib.hid (fun (t : Int) (h0 : 0 ≤ t) (h1 : t ≤ 1000) W (h : Hid (FarW w W X Y g a t0 t1 (.slice va vn vcap) (pairsOf zs))) => drew_below (rfar_any g a _ _ t W HPO.out h.out.p h0 h1))
  go_loopw [10] (fun i wr => ∃ (j : Nat), j ≤ 2 ∧ i = .int .i64 j ∧ Hid (FarW w wr X Y g a t0 t1 (.slice va vn vcap) (pairsOf zs))) (fun i _ => 2 - (intOf i).toNat)
  case atStart => exact ⟨0, by omega, rfl, HST⟩
  case round =>
    obtain ⟨j, hj, rfl, HW⟩ := hrel
    clear HST
    by_cases hlt : j < 2
    · obtain ⟨t, htj, hl, hh⟩ : ∃ t, [Value.int .i64 t0, .int .i64 t1][j]? = some (.int .i64 t) ∧ 0 ≤ t ∧ t ≤ 1000 := by
        rcases (show j = 0 ∨ j = 1 by omega) with rfl | rfl
        · exact ⟨t0, rfl, by omega, by omega⟩
        · exact ⟨t1, rfl, by omega, by omega⟩
      have HTJ := Lib.hid htj
      obtain ⟨d0, d1, d2, d3⟩ := (HW.out.next (Upd.below (Upd.drew [] wr) (Nat.le_refl _) (by simp))).held j t htj
      have G1 := Lib.hid (fun W h => far_held (F1.out t hl hh W h) j t HTJ.out h)
      have G2 := Lib.hid (fun W h => far_held (F2.out t hl hh W h) j t HTJ.out h)
      obtain ⟨FB, hFB⟩ : ∃ f, farB (shareZ g a) t (shares (pairsOf zs)) = f := ⟨_, rfl⟩
      rw [hFB] at G1 G2
      have j0 : (0 : Int) ≤ j := by omega
      have j1 : (j : Int) < 2 := by omega
      clear htj hFB
      go_wp2_with fail
      go_region_held3 (fun W => W.cell? ⟨X, 0, none⟩ = some (.int .i64 g) ∧ W.cell? ⟨X, 1, none⟩ = some (.int .i64 a) ∧ W.cell? ⟨Y, j, none⟩ = some (.int .i64 t) ∧ Hid (FarW w W X Y g a t0 t1 (.slice va vn vcap) (pairsOf zs)))
        (first | go_keep | exact ⟨d0, d1, d2, d3⟩ | exact ⟨by assumption, by assumption, by assumption, by assumption⟩)
        (first
          | (go_at_call 17; refine (G1.out _ (by assumption)).mono ?_; rintro e w' ⟨rfl, e0, e1, e2, e3⟩)
          | (go_at_call 18; refine (G2.out _ (by assumption)).mono ?_; rintro e w' ⟨rfl, e0, e1, e2, e3⟩))
      all_goals go_wp2_with fail
      all_goals
        go_roundw
        case rel => exact ⟨j + 1, by omega, by go_num, by assumption⟩
        case measure => simp [intOf] <;> omega
    · obtain ⟨d0, d1, d2, d3⟩ := (HW.out.next (Upd.below (Upd.drew [] wr) (Nat.le_refl _) (by simp))).held 0 t0 rfl
      have G1 := Lib.hid (fun W (h : Hid (FarW w W X Y g a t0 t1 (.slice va vn vcap) (pairsOf zs))) => far_held (far_any g a (.slice none 0 0) [] t0 W HPO.out ⟨none, 0, rfl, by simp, by simp, .inl rfl⟩ (by omega) (by omega)) 0 t0 rfl h)
      have hf : farB (shareZ g a) t0 (shares []) = false := by simp [farB, shares, gapZ, sumZ]
      rw [hf] at G1
      have G2 := Lib.hid (fun W (h : Hid (FarW w W X Y g a t0 t1 (.slice va vn vcap) (pairsOf zs))) => far_held (lives_any W) 0 t0 rfl h)
      have j2 : ¬ (j : Int) < 2 := by omega
      clear hf hlt hj
      go_wp2_with fail
      go_region_held3 (fun W => W.cell? ⟨X, 0, none⟩ = some (.int .i64 g) ∧ W.cell? ⟨X, 1, none⟩ = some (.int .i64 a) ∧ W.cell? ⟨Y, 0, none⟩ = some (.int .i64 t0) ∧ Hid (FarW w W X Y g a t0 t1 (.slice va vn vcap) (pairsOf zs)))
        (first | go_keep | exact ⟨d0, d1, d2, d3⟩ | exact ⟨by assumption, by assumption, by assumption, by assumption⟩)
        (first
          | (go_at_call 17; refine (G1.out _ (by assumption)).mono ?_; rintro e w' ⟨rfl, e0, e1, e2, e3⟩)
          | (go_at_call 15; refine (G2.out _ (by assumption)).mono ?_; rintro e w' ⟨rfl, e0, e1, e2, e3⟩))
      all_goals go_wp2
      all_goals go_ret
      all_goals exact ⟨rfl, e3.out.below⟩
end Go.Proofs.Ytphdpdmkoogkkaa
