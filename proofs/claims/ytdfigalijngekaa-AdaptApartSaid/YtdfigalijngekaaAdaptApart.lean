/- Layer 21: the walk of AdaptApart. -/
import Derived.Test.YtdfigalijngekaaAdaptD
namespace Go.Proofs.Ytdfigalijngekaa
open Go.RowKit
set_option maxHeartbeats 4000000 in
set_option maxRecDepth 100000 in
theorem apart_walk (n : Int) (v : Value) (zs : List Int) (w : World) (h1 : -9223372036854775808 ≤ n) (h2 : n ≤ 9223372036854775807) (h : IntsIn w v zs) :
    Calls Try.prog 4 #[.int .i64 n, v] w (TruePost w) := by
  go_enter Try.func4, Try.ntmps4
  go_wp2_with fail
  refine (between_any n _ h1 h2).mono ?_
  rintro e w1 ⟨rfl, rfl⟩
  obtain ⟨low, hlow⟩ : ∃ x, lowOf n = x := ⟨_, rfl⟩
  obtain ⟨high, hhigh⟩ : ∃ x, highOf n = x := ⟨_, rfl⟩
  have hlf := low_facts n
  rw [hlow, hhigh] at hlf ⊢
  clear hlow hhigh
  go_wp2_with fail
  refine (new_any low high _).mono ?_
  rintro e w1 ⟨rfl, hl, hu⟩
  have hi1 := h.keep hu (by simp)
  go_wp2_with fail
  refine (acts_any v zs w1 hi1).mono ?_
  intro e w2 hpost
  obtain ⟨u, rfl, hacts, hb⟩ := hpost.acts
  clear hpost hi1
  have hbw : Below w.heap.size w w2 := (hu.below (Nat.le_refl _) (by simp)).trans (hb.mono hu.size)
  have hl2 := hl.keep (Upd.ofBelow hb) (by simp)
  have hget := acts21_get zs
  have hlen := acts21_length zs
  generalize acts21 zs = acts at *
  rcases hacts.read with ⟨rfl, rfl⟩ | ⟨g, cap, rfl, hg0, hg, hrd⟩
  · go_wp2_with fail
    refine wp_loop_rounds 1 ?_
    rw [rounds_succ]
    go_wp2_with fail
    refine (lives_any w2).mono ?_
    rintro e w3 ⟨rfl, hb3⟩
    go_wp2
    go_ret
    exact ⟨rfl, hbw.trans (hb3.mono hbw.size)⟩
  · have hgne : g ≠ w.heap.size := by have := hl.lt; omega
    have hbw2 := hbw.size
    clear h hacts hb hu hg0
    clear hl
    go_wp2_with fail
    go_loopw [9, 10, 11] (fun c t i wr => ∃ (k : Nat) (L B last lastv : Int) (cut cutv : Bool), k ≤ acts.length ∧ i = .int .i64 k ∧ c = .bool cutv ∧ t = .int .i64 lastv ∧ LimAt wr w.heap.size ⟨low, high, L, B, cut, last⟩ ∧ Lim.Ok ⟨low, high, L, B, cut, last⟩ ∧ (cutv = true → cut = true ∧ lastv ≤ last) ∧ 0 ≤ lastv ∧ lastv ≤ 200 ∧ last ≤ ticks 0 ((zs.take 30).take k) ∧ Below w.heap.size w wr ∧ Upd [w.heap.size] w2 wr) (fun _ _ i _ => acts.length - (intOf i).toNat)
    case atStart => exact ⟨0, low, 0, 0, 0, false, false, by omega, rfl, rfl, rfl, hl2, newLim_ok _ _ (by omega) (by omega) (by omega), by simp, by omega, by omega, by simp [ticks], hbw, Upd.refl _ _⟩
    case round =>
      obtain ⟨k, L, B, last, lastv, cut, cutv, hk, rfl, rfl, rfl, hl, hok, hcv, hv0, hv1, hlt0, hbr, hur⟩ := hrel
      clear hl2
      by_cases hlt : k < acts.length
      · obtain ⟨a, ha⟩ : ∃ a, acts[k]? = some a := ⟨acts[k], by simp [hlt]⟩
        obtain ⟨r0, r1, r2, r3⟩ := hrd k a ha
        obtain ⟨e0, e1, a0, a1, a2, a3, a4, a5⟩ := hget k a ha
        have q0 := hur.cell r0 (by simp; omega)
        have q1 := hur.cell r1 (by simp; omega)
        have q2 := hur.cell r2 (by simp; omega)
        have q3 := hur.cell r3 (by simp; omega)
        obtain ⟨now, under, took, well⟩ := a
        dsimp only at *
        have hln : last ≤ now := by omega
        have HE := Lib.hid e0
        clear r0 r1 r2 r3 hrd hget ha e0 e1 hlt0
        have hbl := hl.lt
        go_wp2_with fail
        refine (now_any w.heap.size ⟨low, high, L, B, cut, last⟩ _ (hl.keep (Upd.alloc [] _ _) (by simp))).mono ?_
        rintro e w3 ⟨rfl, rfl⟩
        go_wp2_with fail
        refine (done_any w.heap.size ⟨low, high, L, B, cut, last⟩ now under took well _ (hl.keep (Upd.alloc [] _ _) (by simp)) hok a0 (by omega) a4 (by omega)).mono ?_
        rintro e w3 ⟨rfl, hl3, hu3⟩
        have hfacts := done_facts ⟨low, high, L, B, cut, last⟩ now under took well hok a4
        have hcut := done_cut ⟨low, high, L, B, cut, last⟩ now under took well hok a4
        have hlast := done_last ⟨low, high, L, B, cut, last⟩ now under took well hok a4 hln
        have hok3 := hok.done (now := now) (under := under) (took := took) (well := well) a0 (by omega) a4 (by omega)
        obtain ⟨l', hl'⟩ : ∃ l', Lim.done ⟨low, high, L, B, cut, last⟩ now under took well = l' := ⟨_, rfl⟩
        rw [hl'] at hl3 hfacts hok3 hcut hlast
        clear hl'
        obtain ⟨low', high', L', B', cut', last'⟩ := l'
        dsimp only at hfacts hcut hlast
        obtain ⟨rfl, rfl, -, -, -, -, -, -, -, -⟩ := hfacts
        have hA := (BlockAt.new wr 30 [.int .i64 now, .int .i64 under, .int .i64 took, .bool well]).keep hu3 (by simp; omega)
        have s0 := hA.cell 0 _ rfl
        have hb3 : Below w.heap.size w w3 := (hbr.alloc hbr.size _).trans (hu3.below (by simp; have := hbr.size; omega) (by simp))
        have hu4 : Upd [w.heap.size] w2 w3 := (hur.trans (Upd.alloc _ _ _)).trans hu3
        have HL := Lib.hid hl3
        have HO := Lib.hid hok3
        have CB := Lib.hid (fun n => base_any w.heap.size _ (w3.drewN n) HL.out)
        have HC := Lib.hid hcut
        have HT := Lib.hid hlast
        have HV := Lib.hid hcv
        have hp4 : 0 ≤ B' := hok3.b0
        have hp5 : B' ≤ 1000 := hok3.b1
        clear hok hok3 hcut hlast hcv hl3 hl hA hu3 hur hbr q0 q1 q2 q3 hbl hgne hg hbw hbw2 h1 h2 hln
        go_wp2_with fail
        refine (now_any w.heap.size _ _ HL.out).mono ?_
        rintro e w5 ⟨rfl, rfl⟩
        dsimp only at *
        by_cases t2 : L' < L
        · have t2' : decide (L' < L) = true := by simpa using t2
          obtain ⟨rfl, rfl, hap⟩ := HC.out t2
          cases cutv
          · go_wp2_with fail
            go_quiet (fail)
            go_wp2_with fail
            go_roundw
            case rel => exact ⟨k + 1, L', B', last', last', true, true, by omega, by go_num, rfl, rfl, HL.out, HO.out, fun _ => ⟨rfl, Int.le_refl _⟩, a0, by omega, Int.le_of_eq HE.out, hb3.trans (Upd.below (Upd.drewN [] _ _) hb3.size (by simp)), hu4.trans (Upd.drewN _ _ _)⟩
            case measure => simp [intOf]; omega
          · have hv := HV.out rfl
            have hap' := hap hv.1
            have t4 : decide (last' < lastv + B') = false := by simp; omega
            clear hap hv
            go_wp2_with fail
            go_quiet ((go_at_call 11; exact quietSame (CB.out _)))
            go_wp2_with fail
            go_roundw
            case rel => exact ⟨k + 1, L', B', last', last', true, true, by omega, by go_num, rfl, rfl, HL.out, HO.out, fun _ => ⟨rfl, Int.le_refl _⟩, a0, by omega, Int.le_of_eq HE.out, hb3.trans (Upd.below (Upd.drewN [] _ _) hb3.size (by simp)), hu4.trans (Upd.drewN _ _ _)⟩
            case measure => simp [intOf]; omega
        · have t2' : decide (L' < L) = false := by simpa using t2
          go_wp2_with fail
          go_roundw
          case rel => exact ⟨k + 1, L', B', last', lastv, cut', cutv, by omega, by go_num, rfl, rfl, HL.out, HO.out, fun hc => ⟨HT.out.1 (HV.out hc).1, Int.le_trans (HV.out hc).2 HT.out.2.1⟩, hv0, hv1, Int.le_trans HT.out.2.2 (Int.le_of_eq HE.out), hb3, hu4⟩
          case measure => simp [intOf]; omega
      · go_wp2_with fail
        refine (lives_any wr).mono ?_
        rintro e w3 ⟨rfl, hb3⟩
        go_wp2
        go_ret
        exact ⟨rfl, hbr.trans (hb3.mono hbr.size)⟩
end Go.Proofs.Ytdfigalijngekaa
