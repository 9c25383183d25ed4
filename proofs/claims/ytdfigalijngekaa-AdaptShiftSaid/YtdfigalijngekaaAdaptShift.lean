/- Layer 21: the walk of AdaptShift. -/
import Derived.Test.YtdfigalijngekaaAdaptD
namespace Go.Proofs.Ytdfigalijngekaa
open Go.RowKit
set_option maxHeartbeats 4000000 in
set_option maxRecDepth 100000 in
theorem shift_walk (n : Int) (v : Value) (zs : List Int) (m : Int) (w : World) (h1 : -9223372036854775808 ≤ n) (h2 : n ≤ 9223372036854775807) (h3 : -9223372036854775808 ≤ m) (h4 : m ≤ 9223372036854775807) (h : IntsIn w v zs) :
    Calls Try.prog 6 #[.int .i64 n, v, .int .i64 m] w (TruePost w) := by
  go_enter Try.func6, Try.ntmps6
  go_wp2_with fail
  refine (between_any n _ h1 h2).mono ?_
  rintro e w1 ⟨rfl, rfl⟩
  obtain ⟨low, hlow⟩ : ∃ x, lowOf n = x := ⟨_, rfl⟩
  obtain ⟨high, hhigh⟩ : ∃ x, highOf n = x := ⟨_, rfl⟩
  have hlf := low_facts n
  rw [hlow, hhigh] at hlf ⊢
  clear hlow hhigh
  go_wp2_with fail
  refine (new_any low high _).mono ?_
  rintro e w1 ⟨rfl, hx1, hu1⟩
  go_wp2_with fail
  refine (new_any low high _).mono ?_
  rintro e w2 ⟨rfl, hy2, hu2⟩
  have hx2 := hx1.keep hu2 (by simp)
  have hne : w.heap.size < w1.heap.size := hx1.lt
  have hi2 := (h.keep hu1 (by simp)).keep hu2 (by simp)
  go_wp2_with fail
  refine (around_any m 1001 _ h3 h4 (by omega)).mono ?_
  rintro e w3 ⟨rfl, rfl⟩
  have hK0 := around_nonneg m 1001 (by omega)
  have hK1 := around_lt m 1001 (by omega)
  generalize around m 1001 = K at *
  go_wp2_with fail
  refine (acts_any v zs w2 hi2).mono ?_
  intro e w3 hpost
  obtain ⟨u, rfl, hacts, hb⟩ := hpost.acts
  clear hpost hi2 h
  have hs12 : w1.heap.size < w2.heap.size := hy2.lt
  have hbw : Below w.heap.size w w3 := ((hu1.below (Nat.le_refl _) (by simp)).trans (hu2.below hu1.size (by simp))).trans (hb.mono (Nat.le_trans hu1.size hu2.size))
  have hx3 := hx2.keep (Upd.ofBelow hb) (by simp)
  have hy3 := hy2.keep (Upd.ofBelow hb) (by simp)
  have hget := acts21_get zs
  have hlen := acts21_length zs
  generalize acts21 zs = acts at *
  obtain ⟨bx, hbx⟩ : ∃ x, w.heap.size = x := ⟨_, rfl⟩
  obtain ⟨by', hby⟩ : ∃ x, w1.heap.size = x := ⟨_, rfl⟩
  rw [hbx] at hx3 hne
  rw [hby] at hy3 hne hs12
  rw [hbx, hby]
  have HBX := Lib.hid hbx
  clear hx1 hx2 hy2 hu1 hu2 h1 h2 h3 h4 hbx hby
  rcases hacts.read with ⟨rfl, rfl⟩ | ⟨g, cap, rfl, hg0, hg, hrd⟩
  · go_wp2_with fail
    refine wp_loop_rounds 1 ?_
    rw [rounds_succ]
    go_wp2_with fail
    refine (lives_any w3).mono ?_
    rintro e w4 ⟨rfl, hb4⟩
    go_wp2
    go_ret
    exact ⟨rfl, hbw.trans (hb4.mono hbw.size)⟩
  · have hgx : g ≠ bx := by omega
    have hgy : g ≠ by' := by omega
    clear hacts hb hg0
    go_wp2_with fail
    go_loopw [13] (fun i wr => ∃ (k : Nat) (l : Lim), k ≤ acts.length ∧ i = .int .i64 k ∧ LimAt wr bx l ∧ LimAt wr by' (l.shift K) ∧ l.Ok ∧ l.last ≤ ticks 0 ((zs.take 30).take k) ∧ l.last ≤ 180 ∧ Below w.heap.size w wr ∧ Upd [bx, by'] w3 wr) (fun i _ => acts.length - (intOf i).toNat)
    case atStart => exact ⟨0, newLim low high, by omega, rfl, hx3, hy3, newLim_ok _ _ (by omega) (by omega) (by omega), by simp [ticks, newLim], by simp [newLim], hbw, Upd.refl _ _⟩
    case round =>
      obtain ⟨k, l, hk, rfl, hx, hy, hok, hlt0, hl180, hbr, hur⟩ := hrel
      clear hx3 hy3
      by_cases hlt : k < acts.length
      · obtain ⟨a, ha⟩ : ∃ a, acts[k]? = some a := ⟨acts[k], by simp [hlt]⟩
        obtain ⟨r0, r1, r2, r3⟩ := hrd k a ha
        obtain ⟨e0, e1, a0, a1, a2, a3, a4, a5⟩ := hget k a ha
        have q0 := hur.cell r0 (by simp; omega)
        have q1 := hur.cell r1 (by simp; omega)
        have q2 := hur.cell r2 (by simp; omega)
        have q3 := hur.cell r3 (by simp; omega)
        obtain ⟨now, under, took, well⟩ := a
        dsimp only at *
        have hln : l.last ≤ now := by omega
        have HE := Lib.hid e0
        clear r0 r1 r2 r3 hrd hget ha e0 e1 hlt0
        have hxl := hx.lt
        have hyl := hy.lt
        have hoks := hok.shift hK0 (by omega)
        go_wp2_with fail
        refine (done_any bx l now under took well _ (hx.keep (Upd.alloc [] _ _) (by simp)) hok a0 (by omega) a4 (by omega)).mono ?_
        rintro e w4 ⟨rfl, hx4, hu4⟩
        have hy4 := (hy.keep (Upd.alloc [] _ _) (by simp)).keep hu4 (by simp; omega)
        have hA := (BlockAt.new wr 30 [.int .i64 now, .int .i64 under, .int .i64 took, .bool well]).keep hu4 (by simp; omega)
        have s0 := hA.cell 0 _ rfl
        have s1 := hA.cell 1 _ rfl
        have s2 := hA.cell 2 _ rfl
        have s3 := hA.cell 3 _ rfl
        have HX := Lib.hid hx
        have HY := Lib.hid hy
        clear hx hy
        go_wp2_with fail
        refine (done_any by' (l.shift K) (now + K) under took well _ hy4 hoks (by omega) (by omega) a4 (by omega)).mono ?_
        rintro e w5 ⟨rfl, hy5, hu5⟩
        have hx5 := hx4.keep hu5 (by simp; omega)
        rw [done_shift] at hy5
        have hlast := done_last l now under took well hok a4 hln
        have hok5 := hok.done (now := now) (under := under) (took := took) (well := well) a0 (by omega) a4 (by omega)
        generalize hl' : l.done now under took well = l' at hx5 hy5 hlast hok5
        have hb5 : Below w.heap.size w w5 := by
          have hx0 : w.heap.size = bx := HBX.out
          have := hbr.size
          have h4 := hu4.size
          have h4' : wr.heap.size + 1 ≤ w4.heap.size := by simpa using h4
          exact ((hbr.alloc hbr.size _).trans (hu4.below (by simp; omega) (by simp; omega))).trans (hu5.below (by omega) (by simp; omega))
        have hur5 : Upd [bx, by'] w3 w5 := ((hur.trans (Upd.alloc _ _ _)).trans (hu4.mono (by simp))).trans (hu5.mono (by simp))
        have HX5 := Lib.hid hx5
        have HY5 := Lib.hid hy5
        have HOK := Lib.hid hok5
        have HLA := Lib.hid hlast
        clear hx4 hy4 hx5 hy5 hok5 hlast hA s0 s1 s2 s3 hu4 hu5 hur hbr q0 q1 q2 q3 hl' hok hoks hln
        have t1 : (l'.lim != l'.lim) = false := by simp
        have t2 : (l'.base != l'.base) = false := by simp
        go_wp2_with fail
        refine (now_any bx l' _ HX5.out).mono ?_
        rintro e w6 ⟨rfl, rfl⟩
        go_wp2_with fail
        refine (now_any by' (l'.shift K) _ HY5.out).mono ?_
        rintro e w6 ⟨rfl, rfl⟩
        dsimp only [Lim.shift]
        go_wp2_with fail
        refine (base_any bx l' _ HX5.out).mono ?_
        rintro e w6 ⟨rfl, rfl⟩
        go_wp2_with fail
        refine (base_any by' (l'.shift K) _ HY5.out).mono ?_
        rintro e w6 ⟨rfl, rfl⟩
        dsimp only [Lim.shift]
        go_wp2_with fail
        go_roundw
        case rel => exact ⟨k + 1, l', by omega, by go_num, HX5.out, HY5.out, HOK.out, Int.le_trans HLA.out.2.2 (Int.le_of_eq HE.out), by have := HLA.out.2.2; omega, hb5, hur5⟩
        case measure => simp [intOf]; omega
      · go_wp2_with fail
        refine (lives_any wr).mono ?_
        rintro e w4 ⟨rfl, hb4⟩
        go_wp2
        go_ret
        exact ⟨rfl, hbr.trans (hb4.mono hbr.size)⟩
end Go.Proofs.Ytdfigalijngekaa
