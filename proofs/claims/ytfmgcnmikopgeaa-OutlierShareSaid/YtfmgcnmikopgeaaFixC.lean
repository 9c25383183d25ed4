/- Layer 1: the walks of share, of Far. -/
import Derived.Test.YtfmgcnmikopgeaaFixA
import Derived.Test.YtfmgcnmikopgeaaFixFarPlain
import Derived.BigQuiet
namespace Go.Proofs.Ytfmgcnmikopgeaa
open Go.RowKit
theorem share_bounds {g a : Int} (h0 : 0 ≤ g) (h1 : g ≤ a) (h2 : 1 ≤ a) : 0 ≤ shareZ g a ∧ shareZ g a ≤ 1000 := by
  unfold shareZ
  refine ⟨Int.ediv_nonneg (by omega) (by omega), ?_⟩
  have : g * 1000 / a ≤ a * 1000 / a := Int.ediv_le_ediv (by omega) (by omega)
  rwa [Int.mul_ediv_cancel_left _ (by omega)] at this
theorem share_any (g a : Int) (w : World) (h0 : 0 ≤ g) (h1 : g ≤ a) (h2 : 1 ≤ a) (h3 : a ≤ 2147483647) :
    Calls Try.prog 57 #[.int .i64 g, .int .i64 a] w fun e w' => e = .returned (.int .i64 (shareZ g a)) ∧ w = w' := by
  have HD := Lib.hid (down_any (g * 1000) a w (by omega) (by omega) h2 (by omega))
  go_enter Try.func57, Try.ntmps57
  go_wp2_with fail
  refine HD.out.mono ?_
  rintro e w' ⟨rfl, rfl⟩
  go_wp2
  go_ret
  exact ⟨rfl, rfl⟩
structure PairOk (p : Int × Int) : Prop where
  g0 : 0 ≤ p.1
  g1 : p.1 ≤ p.2
  a0 : 1 ≤ p.2
  a1 : p.2 ≤ 1000
/-- A slice of pairs, that is only read. -/
def PairsIn (w : World) (v : Value) (ps : List (Int × Int)) : Prop :=
  ∃ a cap, v = .slice a ps.length cap ∧ ps.length ≤ 20 ∧ (∀ p ∈ ps, PairOk p) ∧ (ps = [] ∨ ∃ b off, a = some ⟨b, off, none⟩ ∧ ∀ j p, ps[j]? = some p → w.cell? ⟨b, off + j * 2, none⟩ = some (.int .i64 p.1) ∧ w.cell? ⟨b, off + j * 2 + 1, none⟩ = some (.int .i64 p.2))
theorem PairsIn.keep {S : List Nat} {w w' : World} {v : Value} {ps : List (Int × Int)} (h : PairsIn w v ps) (u : Upd S w w') (hs : ∀ k ∈ S, w.heap.size ≤ k) : PairsIn w' v ps := by
  obtain ⟨a, cap, rfl, hl, hp, h⟩ := h
  refine ⟨a, cap, rfl, hl, hp, ?_⟩
  rcases h with h | ⟨b, off, rfl, hc⟩
  · exact .inl h
  · refine .inr ⟨b, off, rfl, fun j x hx => ⟨u.cell (hc j x hx).1 (fun hm => ?_), u.cell (hc j x hx).2 (fun hm => ?_)⟩⟩
    · have := hs _ hm
      have := World.block_lt_of_cell? w _ (hc j x hx).1
      omega
    · have := hs _ hm
      have := World.block_lt_of_cell? w _ (hc j x hx).2
      omega
theorem PairsIn.cells {w : World} {a : Option Addr} {n cap : Nat} {ps : List (Int × Int)} (h : PairsIn w (.slice a n cap) ps) {j : Nat} {p : Int × Int} (hx : ps[j]? = some p) :
    ∃ b off, a = some ⟨b, off, none⟩ ∧ w.cell? ⟨b, off + j * 2, none⟩ = some (.int .i64 p.1) ∧ w.cell? ⟨b, off + j * 2 + 1, none⟩ = some (.int .i64 p.2) := by
  obtain ⟨a', cap', he, -, -, hc⟩ := h
  cases he
  rcases hc with hc | ⟨b, off, rfl, hc⟩
  · subst hc; simp at hx
  · exact ⟨b, off, rfl, hc j p hx⟩
def shares (ps : List (Int × Int)) : List Int := ps.map fun p => shareZ p.1 p.2
theorem shares_mem {ps : List (Int × Int)} (h : ∀ p ∈ ps, PairOk p) : ∀ x ∈ shares ps, 0 ≤ x ∧ x ≤ 1000 := fun x hx => by
  obtain ⟨p, hp, rfl⟩ := List.mem_map.1 hx
  have := h p hp
  exact share_bounds this.g0 this.g1 this.a0
theorem sumZ_le_mul {b : Int} {l : List Int} (h : ∀ x ∈ l, x ≤ b) : sumZ l ≤ l.length * b := sum_le_of_all l h
/-- The sums behind k of some shares. -/
structure Sums (l : List Int) (k : Nat) (s q : Int) : Prop where
  s_eq : s = sumZ (l.take k)
  q_eq : q = sqZ (l.take k)
  s0 : 0 ≤ s
  s1 : s ≤ k * 1000
  q0 : 0 ≤ q
  q1 : q ≤ k * 1000000
theorem Sums.start (l : List Int) : Sums l 0 0 0 := ⟨by simp [sumZ], by simp [sqZ, sumZ], by omega, by omega, by omega, by omega⟩
theorem Sums.next {l : List Int} {k : Nat} {s q x : Int} (h : Sums l k s q) (hx : l[k]? = some x) (h0 : 0 ≤ x) (h1 : x ≤ 1000) : Sums l (k + 1) (s + x) (q + x * x) := by
  obtain ⟨a, b, c, d, e, f⟩ := h
  have hxx : x * x ≤ 1000 * 1000 := Int.mul_le_mul h1 h1 h0 (by omega)
  have hx0 := sq_nonneg' x
  refine ⟨by rw [sumZ_take_succ hx, a], by rw [sqZ_take_succ hx, b], by omega, by omega, by omega, by omega⟩
theorem Sums.end {l : List Int} {k : Nat} {s q : Int} (h : Sums l k s q) (hk : k = l.length) : s = sumZ l ∧ q = sqZ l := by
  have := h.s_eq; have := h.q_eq
  subst hk
  simp only [List.take_length] at *
  exact ⟨by assumption, by assumption⟩
theorem far_any (g a : Int) (v : Value) (ps : List (Int × Int)) (t : Int) (w : World) (hga : PairOk (g, a)) (hps : PairsIn w v ps) (ht0 : 0 ≤ t) (ht1 : t ≤ 1000) :
    Calls Try.prog 43 #[.int .i64 g, .int .i64 a, v, .int .i64 t] w fun e w' => e = .returned (.bool (farB (shareZ g a) t (shares ps))) ∧ Below w.heap.size w w' := by
  have hps0 := hps
  obtain ⟨sa, cap, rfl, hlen, hok, hcs⟩ := hps0
  by_cases hnil : ps = []
  · subst hnil
    have hf : farB (shareZ g a) t (shares []) = false := by simp [farB, shares, gapZ, sumZ]
    rw [hf]
    clear hps hcs hok hf
    go_enter Try.func43, Try.ntmps43
    go_wp2
    go_ret
    exact ⟨rfl, Below.refl _ _⟩
  · rcases hcs with h | ⟨b, off, rfl, hc⟩
    · exact absurd h hnil
    · have hlen0 : 0 < ps.length := List.length_pos_iff.2 hnil
      have HPS := Lib.hid hps
      have HOK := Lib.hid hok
      have hll : (ps.length : Int) ≤ 20 := by omega
      obtain ⟨n, hn⟩ : ∃ n, ps.length = n := ⟨_, rfl⟩
      have HN := Lib.hid hn
      obtain ⟨FB, hFB⟩ : ∃ f, farB (shareZ g a) t (shares ps) = f := ⟨_, rfl⟩
      have HFB := Lib.hid hFB
      rw [hFB]
      clear hFB
      rw [hn] at hll hlen0
      rw [hn]
      have hn0 : ((n : Int) == 0) = false := by simp; omega
      clear hps hok hc hnil hlen hn
      go_enter Try.func43, Try.ntmps43
      go_wp2_with fail
      have HST := Lib.hid (Sums.start (shares ps))
      go_loopw [9, 10, 21] (fun s q i wr => ∃ (S Q : Int) (j : Nat), j ≤ n ∧ s = .int .i64 S ∧ q = .int .i64 Q ∧ i = .int .i64 j ∧ Hid (Sums (shares ps) j S Q) ∧ Hid (Below w.heap.size w wr)) (fun _ _ i _ => n - (intOf i).toNat)
      case atStart => exact ⟨0, 0, 0, by omega, rfl, rfl, rfl, HST, Lib.hid (Below.refl _ _)⟩
      case round =>
        obtain ⟨S, Q, j, hj, rfl, rfl, rfl, HS, HB⟩ := hrel
        clear HST
        have s0 := HS.out.s0
        have s1 := HS.out.s1
        have u0 := HS.out.q0
        have u1 := HS.out.q1
        by_cases hlt : j < n
        · obtain ⟨p, hp⟩ : ∃ p, ps[j]? = some p := ⟨ps[j]'(by rw [HN.out]; exact hlt), by simp⟩
          obtain ⟨b', off', hbe, c0, c1⟩ := (HPS.out.keep (Upd.ofBelow HB.out) (by simp)).cells hp
          cases hbe
          obtain ⟨g0, g1, a0, a1⟩ := HOK.out p (List.mem_of_getElem? hp)
          have hx := share_bounds g0 g1 a0
          have HNX := Lib.hid (HS.out.next (x := shareZ p.1 p.2) (by simp [shares, hp]) hx.1 hx.2)
          obtain ⟨pg, pa⟩ := p
          dsimp only at *
          have hxx : shareZ pg pa * shareZ pg pa ≤ 1000 * 1000 := Int.mul_le_mul hx.2 hx.2 hx.1 (by omega)
          have hxx0 := sq_nonneg' (shareZ pg pa)
          have HSH := Lib.hid (fun w => share_any pg pa w g0 g1 a0 (by omega))
          obtain ⟨x, hxe⟩ : ∃ x, shareZ pg pa = x := ⟨_, rfl⟩
          rw [hxe] at hx HNX HSH hxx hxx0
          obtain ⟨x0, x1⟩ := hx
          have v1 : IntKind.i64.wrap (x * x) = x * x := IntWalk.i64_in _ (by omega)
          obtain ⟨X, hX⟩ : ∃ X, x * x = X := ⟨_, rfl⟩
          rw [hX] at v1 HNX hxx hxx0
          have HX := Lib.hid hX
          clear hp hxe
          go_wp2_with fail
          refine (HSH.out _).mono ?_
          rintro e w1 ⟨rfl, rfl⟩
          clear c0 c1
          go_wp2_with fail
          go_roundw
          case rel => exact ⟨S + x, Q + X, j + 1, by omega, rfl, rfl, by go_num, HNX, Lib.hid (HB.out.alloc HB.out.size _)⟩
          case measure => simp [intOf] <;> omega
        · obtain rfl : j = n := by omega
          obtain ⟨e1, e2⟩ := HS.out.end (by simp [shares, HN.out])
          obtain ⟨x0, x1⟩ := share_bounds hga.g0 hga.g1 hga.a0
          have HSH := Lib.hid (fun w => share_any g a w hga.g0 hga.g1 hga.a0 (by have := hga.a1; dsimp only at this; omega))
          have hvar : varZ (shares ps) = (j : Int) * Q - S * S := by unfold varZ; rw [← e1, ← e2]; simp [shares, HN.out]
          have hgap : gapZ (shares ps) (shareZ g a) = S - (j : Int) * shareZ g a := by unfold gapZ; rw [← e1]; simp [shares, HN.out]
          have hfb := HFB.out
          unfold farB at hfb
          rw [hvar, hgap] at hfb
          dsimp only at x0 x1
          obtain ⟨x, hx⟩ : ∃ x, shareZ g a = x := ⟨_, rfl⟩
          rw [hx] at x0 x1 HSH hfb
          have b1 : (j : Int) * x ≤ 20 * 1000 := Int.mul_le_mul hll x1 x0 (by omega)
          have b2 : 0 ≤ (j : Int) * x := Int.mul_nonneg (by omega) x0
          have b3 : (j : Int) * Q ≤ 20 * 20000000 := Int.mul_le_mul hll (by omega) u0 (by omega)
          have b4 : 0 ≤ (j : Int) * Q := Int.mul_nonneg (by omega) u0
          have b5 : S * S ≤ 20000 * 20000 := Int.mul_le_mul (by omega) (by omega) s0 (by omega)
          have b6 := sq_nonneg' S
          have b7 : t * t ≤ 1000 * 1000 := Int.mul_le_mul ht1 ht1 ht0 (by omega)
          have b8 := sq_nonneg' t
          obtain ⟨MI, hMI⟩ : ∃ m, (j : Int) * x = m := ⟨_, rfl⟩
          obtain ⟨JQ, hJQ⟩ : ∃ m, (j : Int) * Q = m := ⟨_, rfl⟩
          obtain ⟨SS, hSS⟩ : ∃ m, S * S = m := ⟨_, rfl⟩
          obtain ⟨TT, hTT⟩ : ∃ m, t * t = m := ⟨_, rfl⟩
          rw [hMI] at b1 b2
          rw [hJQ] at b3 b4
          rw [hSS] at b5 b6
          rw [hTT] at b7 b8
          rw [hMI, hJQ, hSS, hTT] at hfb
          have v1 : IntKind.i64.wrap ((j : Int) * x) = MI := by rw [hMI]; exact IntWalk.i64_in _ (by omega)
          have v2 : IntKind.i64.wrap ((j : Int) * Q) = JQ := by rw [hJQ]; exact IntWalk.i64_in _ (by omega)
          have v3 : IntKind.i64.wrap (S * S) = SS := by rw [hSS]; exact IntWalk.i64_in _ (by omega)
          have v4 : IntKind.i64.wrap (t * t) = TT := by rw [hTT]; exact IntWalk.i64_in _ (by omega)
          clear hvar hgap e1 e2 hx hMI hJQ hSS hTT
          by_cases hm : S ≤ MI
          · have hd : decide (0 < S - MI ∧ TT * (JQ - SS) < (S - MI) * (S - MI) * 100) = false := by
              rw [decide_eq_false_iff_not]; omega
            rw [hd] at hfb
            clear hd
            subst hfb
            go_wp2_with fail
            refine (HSH.out _).mono ?_
            rintro e w1 ⟨rfl, rfl⟩
            go_wp2
            go_ret
            exact ⟨rfl, HB.out⟩
          · have b9 : (S - MI) * (S - MI) ≤ 20000 * 20000 := Int.mul_le_mul (by omega) (by omega) (by omega) (by omega)
            have b10 := sq_nonneg' (S - MI)
            have b11 : TT * (JQ - SS) ≤ 1000000 * 400000000 := by
              rcases Int.le_total 0 (JQ - SS) with h | h
              · exact Int.mul_le_mul (by omega) (by omega) h (by omega)
              · have := Int.mul_nonneg b8 (show 0 ≤ -(JQ - SS) by omega)
                rw [Int.mul_neg] at this; omega
            have b12 : -(1000000 * 400000000) ≤ TT * (JQ - SS) := by
              rcases Int.le_total 0 (JQ - SS) with h | h
              · have := Int.mul_nonneg b8 h; omega
              · have : TT * (-(JQ - SS)) ≤ 1000000 * 400000000 := Int.mul_le_mul (by omega) (by omega) (by omega) (by omega)
                rw [Int.mul_neg] at this; omega
            have hd : decide (0 < S - MI ∧ TT * (JQ - SS) < (S - MI) * (S - MI) * 100) = decide (TT * (JQ - SS) < (S - MI) * (S - MI) * 100) := by
              have : 0 < S - MI := by omega
              simp only [this, true_and]
            rw [hd] at hfb
            clear hd
            obtain ⟨L, hL⟩ : ∃ l, (S - MI) * (S - MI) = l := ⟨_, rfl⟩
            obtain ⟨TV, hTV⟩ : ∃ l, TT * (JQ - SS) = l := ⟨_, rfl⟩
            rw [hL] at b9 b10
            rw [hTV] at b11 b12
            rw [hL, hTV] at hfb
            have v5 : IntKind.i64.wrap ((S - MI) * (S - MI)) = L := by rw [hL]; exact IntWalk.i64_in _ (by omega)
            have v6 : IntKind.i64.wrap (TT * (JQ - SS)) = TV := by rw [hTV]; exact IntWalk.i64_in _ (by omega)
            clear hL hTV
            by_cases hfin : TV < L * 100
            · have hd : decide (TV < L * 100) = true := by simpa using hfin
              rw [hd] at hfb
              subst hfb
              go_wp2_with fail
              refine (HSH.out _).mono ?_
              rintro e w1 ⟨rfl, rfl⟩
              go_wp2
              go_ret
              exact ⟨rfl, HB.out⟩
            · have hd : decide (TV < L * 100) = false := by simpa using hfin
              rw [hd] at hfb
              subst hfb
              go_wp2_with fail
              refine (HSH.out _).mono ?_
              rintro e w1 ⟨rfl, rfl⟩
              go_wp2
              go_ret
              exact ⟨rfl, HB.out⟩
end Go.Proofs.Ytfmgcnmikopgeaa
