/- Layer 21: played, and the walk of AdaptRises. -/
import Derived.Test.YtdfigalijngekaaAdaptD
import Derived.StillTailTactics
namespace Go.Proofs.Ytdfigalijngekaa
open Go.RowKit
def PlayedPost (n : Int) (w : World) (e : Ending) (w' : World) : Prop := ∃ (l : Lim) (t : Int), e = .returned (.tuple #[.pointer (some ⟨w.heap.size, 0, none⟩), .int .i64 (lowOf n), .int .i64 (highOf n), .int .i64 t]) ∧
  LimAt w' w.heap.size l ∧ l.Ok ∧ l.low = lowOf n ∧ l.high = highOf n ∧ 0 ≤ t ∧ t ≤ 180 ∧ Below w.heap.size w w'
set_option maxHeartbeats 4000000 in
theorem played_any (n : Int) (v : Value) (zs : List Int) (w : World) (h1 : -9223372036854775808 ≤ n) (h2 : n ≤ 9223372036854775807) (h : IntsIn w v zs) :
    Calls Try.prog 14 #[.int .i64 n, v] w (PlayedPost n w) := by
  go_enter Try.func14, Try.ntmps14
  go_wp2_with fail
  refine (between_any n _ h1 h2).mono ?_
  rintro e w1 ⟨rfl, rfl⟩
  obtain ⟨low, hlow⟩ : ∃ x, lowOf n = x := ⟨_, rfl⟩
  obtain ⟨high, hhigh⟩ : ∃ x, highOf n = x := ⟨_, rfl⟩
  have hlf := low_facts n
  rw [hlow, hhigh] at hlf ⊢
  have HLH := Lib.hid (And.intro hlow hhigh)
  clear hlow hhigh
  go_wp2_with fail
  refine (new_any low high _).mono ?_
  rintro e w1 ⟨rfl, hl, hu⟩
  have hi1 := h.keep hu (by simp)
  go_wp2_with fail
  refine (acts_any v zs w1 hi1).mono ?_
  intro e w2 hpost
  obtain ⟨u, rfl, hacts, hb⟩ := hpost.acts
  clear hpost hi1
  have hbw : Below w.heap.size w w2 := (hu.below (Nat.le_refl _) (by simp)).trans (hb.mono hu.size)
  have hl2 := hl.keep (Upd.ofBelow hb) (by simp)
  have hget := acts21_get zs
  have hlen := acts21_length zs
  generalize acts21 zs = acts at *
  rcases hacts.read with ⟨rfl, rfl⟩ | ⟨g, cap, rfl, hg0, hg, hrd⟩
  · go_wp2_with fail
    refine wp_loop_rounds 1 ?_
    rw [rounds_succ]
    go_wp2
    exact bodyPost_ret (v := .tuple #[.pointer (some ⟨w.heap.size, 0, none⟩), .int .i64 low, .int .i64 high, .int .i64 0]) (by simp [results, Try.results14, go_sem]) rfl
      ⟨newLim low high, 0, by rw [HLH.out.1, HLH.out.2], hl2, newLim_ok _ _ (by omega) (by omega) (by omega), HLH.out.1.symm, HLH.out.2.symm, by omega, by omega, hbw⟩
  · have hgne : g ≠ w.heap.size := by have := hl.lt; omega
    have hbw2 := hbw.size
    clear h hacts hb hu hg0 h1 h2
    clear hl
    go_wp2_with fail
    go_loopw [11, 13] (fun t i wr => ∃ (k : Nat) (T L B last : Int) (cut : Bool), k ≤ acts.length ∧ i = .int .i64 k ∧ t = .int .i64 T ∧ 0 ≤ T ∧ T ≤ 180 ∧ LimAt wr w.heap.size ⟨low, high, L, B, cut, last⟩ ∧ Lim.Ok ⟨low, high, L, B, cut, last⟩ ∧ Below w.heap.size w wr ∧ Upd [w.heap.size] w2 wr) (fun _ i _ => acts.length - (intOf i).toNat)
    case atStart => exact ⟨0, 0, low, 0, 0, false, by omega, rfl, rfl, by omega, by omega, hl2, newLim_ok _ _ (by omega) (by omega) (by omega), hbw, Upd.refl _ _⟩
    case round =>
      obtain ⟨k, T, L, B, last, cut, hk, rfl, rfl, hT0, hT1, hl, hok, hbr, hur⟩ := hrel
      clear hl2
      by_cases hlt : k < acts.length
      · obtain ⟨a, ha⟩ : ∃ a, acts[k]? = some a := ⟨acts[k], by simp [hlt]⟩
        obtain ⟨r0, r1, r2, r3⟩ := hrd k a ha
        obtain ⟨-, -, a0, a1, a2, a3, a4, a5⟩ := hget k a ha
        have q0 := hur.cell r0 (by simp; omega)
        have q1 := hur.cell r1 (by simp; omega)
        have q2 := hur.cell r2 (by simp; omega)
        have q3 := hur.cell r3 (by simp; omega)
        obtain ⟨now, under, took, well⟩ := a
        dsimp only at *
        clear r0 r1 r2 r3 hrd hget ha
        have hbl := hl.lt
        have HL := Lib.hid hl
        have HO := Lib.hid hok
        clear hl hok
        go_wp2_with fail
        go_still_tail 17, (by kernel_rfl)
        change wpList _ _ _ _ _ wr.drew
        go_wp2_with fail
        refine (done_any w.heap.size ⟨low, high, L, B, cut, last⟩ now under took well wr.drew HL.out HO.out a0 (by omega) a4 (by omega)).mono ?_
        rintro e w3 ⟨rfl, hl3, hu3⟩
        have hfacts := done_facts ⟨low, high, L, B, cut, last⟩ now under took well HO.out a4
        have hok3 := HO.out.done (now := now) (under := under) (took := took) (well := well) a0 (by omega) a4 (by omega)
        obtain ⟨l', hl'⟩ : ∃ l', Lim.done ⟨low, high, L, B, cut, last⟩ now under took well = l' := ⟨_, rfl⟩
        rw [hl'] at hl3 hfacts hok3
        clear hl'
        obtain ⟨low', high', L', B', cut', last'⟩ := l'
        dsimp only at hfacts
        obtain ⟨rfl, rfl, -, -, -, -, -, -, -, -⟩ := hfacts
        have hb3 : Below w.heap.size w w3 := (hbr.drew).trans (hu3.below (hbr.size) (by simp))
        have hu4 : Upd [w.heap.size] w2 w3 := (hur.trans (Upd.drew _ _)).trans hu3
        have HL3 := Lib.hid hl3
        have HO3 := Lib.hid hok3
        clear hl3 hok3 hu3 hur hbr q0 q1 q2 q3
        go_wp2_with fail
        go_roundw
        case rel => exact ⟨k + 1, now, L', B', last', cut', by omega, by go_num, rfl, a0, a1, HL3.out, HO3.out, hb3, hu4⟩
        case measure => simp [intOf]; omega
      · have HL := Lib.hid hl
        have HO := Lib.hid hok
        clear hl hok
        go_wp2
        exact bodyPost_ret (v := .tuple #[.pointer (some ⟨w.heap.size, 0, none⟩), .int .i64 low, .int .i64 high, .int .i64 T]) (by simp [results, Try.results14, go_sem]) rfl
          ⟨_, T, by rw [HLH.out.1, HLH.out.2], HL.out, HO.out, HLH.out.1.symm, HLH.out.2.symm, hT0, hT1, hbr⟩
theorem rise_step (low high x took : Int) (cut : Bool) (last t : Int) (ho : Lim.Ok ⟨low, high, x, took, cut, last⟩) (h1 : 1 ≤ took) :
    Lim.done ⟨low, high, x, took, cut, last⟩ t x took true = ⟨low, high, if x < high then x + 1 else x, took, cut, last⟩ := by
  rw [good_rise _ t x took ho (by dsimp only; omega)]
  by_cases hx : x < high
  · simp [hx]
  · simp [hx]
theorem rise_none (low high x base took : Int) (cut : Bool) (last t : Int) (ho : Lim.Ok ⟨low, high, x, base, cut, last⟩) (h1 : took = max 1 base) :
    Lim.done ⟨low, high, x, base, cut, last⟩ t (x - 1) took true = ⟨low, high, x, took, cut, last⟩ := by
  rw [good_rise _ t (x - 1) took ho (by dsimp only; omega)]
  simp only [Lim.mk.injEq, true_and, and_true]
  rw [if_neg (by omega)]
set_option maxHeartbeats 4000000 in
theorem rises_walk (n : Int) (v : Value) (zs : List Int) (m : Int) (w : World) (h1 : -9223372036854775808 ≤ n) (h2 : n ≤ 9223372036854775807) (h3 : -9223372036854775808 ≤ m) (h4 : m ≤ 9223372036854775807) (h : IntsIn w v zs) :
    Calls Try.prog 5 #[.int .i64 n, v, .int .i64 m] w (TruePost w) := by
  go_enter Try.func5, Try.ntmps5
  go_wp2_with fail
  refine (played_any n v zs _ h1 h2 h).mono ?_
  rintro e w1 ⟨l, t, rfl, hl, hok, hlow, hhigh, ht0, ht1, hb1⟩
  obtain ⟨bx, hbx⟩ : ∃ x, w.heap.size = x := ⟨_, rfl⟩
  rw [hbx] at hl ⊢
  have HBX := Lib.hid hbx
  obtain ⟨low, high, L, B, cut, last⟩ := l
  dsimp only at hlow hhigh
  rw [← hlow, ← hhigh]
  clear hlow hhigh hbx h1 h2 h
  obtain ⟨o0, o1, o2, o3, o4, o5, o6, o7⟩ := hok
  dsimp only at o0 o1 o2 o3 o4 o5 o6 o7
  have HL := Lib.hid hl
  clear hl
  rcases (by omega : B = 0 ∨ B = 1 ∨ 2 ≤ B) with rfl | rfl | hB
  · have hne : (L != L) = false := by simp
    go_wp2_with fail
    refine (base_any bx _ _ HL.out).mono ?_
    rintro e w2 ⟨rfl, rfl⟩
    dsimp only
    go_wp2_with fail
    refine (around_any m 21 _ h3 h4 (by omega)).mono ?_
    rintro e w2 ⟨rfl, rfl⟩
    have hK0 := around_nonneg m 21 (by omega)
    have hK1 := around_lt m 21 (by omega)
    generalize around m 21 = K at *
    go_wp2_with fail
    refine (now_any bx _ _ HL.out).mono ?_
    rintro e w2 ⟨rfl, rfl⟩
    dsimp only
    go_wp2_with fail
    refine (done_any bx ⟨low, high, L, 0, cut, last⟩ t (L - 1) 1 true _ HL.out (by constructor <;> dsimp only <;> omega) ht0 (by omega) (by omega) (by omega)).mono ?_
    rintro e w2 ⟨rfl, hl2, hu2⟩
    rw [rise_none low high L 0 1 cut last t (by constructor <;> dsimp only <;> omega) (by omega)] at hl2
    have hb2 : Below w.heap.size w w2 := hb1.trans (hu2.below hb1.size (by have := HBX.out; simp; omega))
    have HL2 := Lib.hid hl2
    clear hl2 hu2 hb1
    go_wp2_with fail
    refine (now_any bx _ _ HL2.out).mono ?_
    rintro e w3 ⟨rfl, rfl⟩
    dsimp only
    go_wp2_with fail
    go_loopw [14] (fun i wr => ∃ (k : Nat) (x : Int), (k : Int) ≤ K ∧ i = .int .i64 k ∧ x = min high (L + k) ∧ LimAt wr bx ⟨low, high, x, 1, cut, last⟩ ∧ Below w.heap.size w wr) (fun i _ => K.toNat - (intOf i).toNat)
    case atStart => exact ⟨0, L, by omega, rfl, by omega, HL2.out, hb2⟩
    case round =>
      obtain ⟨k, x, hk, rfl, hx, hl3, hb3⟩ := hrel
      have HX := Lib.hid hx
      have hxb : low ≤ x ∧ x ≤ high := by omega
      have HL3 := Lib.hid hl3
      clear hl3 hx
      by_cases hlt : (k : Int) < K
      · go_wp2_with fail
        refine (now_any bx _ _ HL3.out).mono ?_
        rintro e w3 ⟨rfl, rfl⟩
        dsimp only
        go_wp2_with fail
        refine (done_any bx ⟨low, high, x, 1, cut, last⟩ t x 1 true _ HL3.out (by constructor <;> dsimp only <;> omega) ht0 (by omega) (by omega) (by omega)).mono ?_
        rintro e w3 ⟨rfl, hl4, hu4⟩
        rw [rise_step low high x 1 cut last t (by constructor <;> dsimp only <;> omega) (by omega)] at hl4
        go_wp2_with fail
        go_roundw
        case rel => exact ⟨k + 1, _, by omega, by go_num, by have := HX.out; split <;> omega, hl4, hb3.trans (hu4.below hb3.size (by have := HBX.out; simp; omega))⟩
        case measure => simp [intOf]; omega
      · by_cases hm : high ≤ L + K
        · have hxv : x = high := by have := HX.out; omega
          have heq : (x == high) = true := by simp [hxv]
          clear hxv
          go_wp2_with fail
          refine (now_any bx _ _ HL3.out).mono ?_
          rintro e w3 ⟨rfl, rfl⟩
          dsimp only
          go_wp2_with fail
          refine (lives_any wr).mono ?_
          rintro e w4 ⟨rfl, hb4⟩
          go_wp2
          go_ret
          exact ⟨rfl, hb3.trans (hb4.mono hb3.size)⟩
        · have hxv : x = L + K := by have := HX.out; omega
          have heq : (x == L + K) = true := by simp [hxv]
          clear hxv
          go_wp2_with fail
          refine (now_any bx _ _ HL3.out).mono ?_
          rintro e w3 ⟨rfl, rfl⟩
          dsimp only
          go_wp2_with fail
          refine (lives_any wr).mono ?_
          rintro e w4 ⟨rfl, hb4⟩
          go_wp2
          go_ret
          exact ⟨rfl, hb3.trans (hb4.mono hb3.size)⟩
  · have hne : (L != L) = false := by simp
    go_wp2_with fail
    refine (base_any bx _ _ HL.out).mono ?_
    rintro e w2 ⟨rfl, rfl⟩
    dsimp only
    go_wp2_with fail
    refine (around_any m 21 _ h3 h4 (by omega)).mono ?_
    rintro e w2 ⟨rfl, rfl⟩
    have hK0 := around_nonneg m 21 (by omega)
    have hK1 := around_lt m 21 (by omega)
    generalize around m 21 = K at *
    go_wp2_with fail
    refine (now_any bx _ _ HL.out).mono ?_
    rintro e w2 ⟨rfl, rfl⟩
    dsimp only
    go_wp2_with fail
    refine (done_any bx ⟨low, high, L, 1, cut, last⟩ t (L - 1) 1 true _ HL.out (by constructor <;> dsimp only <;> omega) ht0 (by omega) (by omega) (by omega)).mono ?_
    rintro e w2 ⟨rfl, hl2, hu2⟩
    rw [rise_none low high L 1 1 cut last t (by constructor <;> dsimp only <;> omega) (by omega)] at hl2
    have hb2 : Below w.heap.size w w2 := hb1.trans (hu2.below hb1.size (by have := HBX.out; simp; omega))
    have HL2 := Lib.hid hl2
    clear hl2 hu2 hb1
    go_wp2_with fail
    refine (now_any bx _ _ HL2.out).mono ?_
    rintro e w3 ⟨rfl, rfl⟩
    dsimp only
    go_wp2_with fail
    go_loopw [14] (fun i wr => ∃ (k : Nat) (x : Int), (k : Int) ≤ K ∧ i = .int .i64 k ∧ x = min high (L + k) ∧ LimAt wr bx ⟨low, high, x, 1, cut, last⟩ ∧ Below w.heap.size w wr) (fun i _ => K.toNat - (intOf i).toNat)
    case atStart => exact ⟨0, L, by omega, rfl, by omega, HL2.out, hb2⟩
    case round =>
      obtain ⟨k, x, hk, rfl, hx, hl3, hb3⟩ := hrel
      have HX := Lib.hid hx
      have hxb : low ≤ x ∧ x ≤ high := by omega
      have HL3 := Lib.hid hl3
      clear hl3 hx
      by_cases hlt : (k : Int) < K
      · go_wp2_with fail
        refine (now_any bx _ _ HL3.out).mono ?_
        rintro e w3 ⟨rfl, rfl⟩
        dsimp only
        go_wp2_with fail
        refine (done_any bx ⟨low, high, x, 1, cut, last⟩ t x 1 true _ HL3.out (by constructor <;> dsimp only <;> omega) ht0 (by omega) (by omega) (by omega)).mono ?_
        rintro e w3 ⟨rfl, hl4, hu4⟩
        rw [rise_step low high x 1 cut last t (by constructor <;> dsimp only <;> omega) (by omega)] at hl4
        go_wp2_with fail
        go_roundw
        case rel => exact ⟨k + 1, _, by omega, by go_num, by have := HX.out; split <;> omega, hl4, hb3.trans (hu4.below hb3.size (by have := HBX.out; simp; omega))⟩
        case measure => simp [intOf]; omega
      · by_cases hm : high ≤ L + K
        · have hxv : x = high := by have := HX.out; omega
          have heq : (x == high) = true := by simp [hxv]
          clear hxv
          go_wp2_with fail
          refine (now_any bx _ _ HL3.out).mono ?_
          rintro e w3 ⟨rfl, rfl⟩
          dsimp only
          go_wp2_with fail
          refine (lives_any wr).mono ?_
          rintro e w4 ⟨rfl, hb4⟩
          go_wp2
          go_ret
          exact ⟨rfl, hb3.trans (hb4.mono hb3.size)⟩
        · have hxv : x = L + K := by have := HX.out; omega
          have heq : (x == L + K) = true := by simp [hxv]
          clear hxv
          go_wp2_with fail
          refine (now_any bx _ _ HL3.out).mono ?_
          rintro e w3 ⟨rfl, rfl⟩
          dsimp only
          go_wp2_with fail
          refine (lives_any wr).mono ?_
          rintro e w4 ⟨rfl, hb4⟩
          go_wp2
          go_ret
          exact ⟨rfl, hb3.trans (hb4.mono hb3.size)⟩
  · have hne : (L != L) = false := by simp
    go_wp2_with fail
    refine (base_any bx _ _ HL.out).mono ?_
    rintro e w2 ⟨rfl, rfl⟩
    dsimp only
    go_wp2_with fail
    refine (around_any m 21 _ h3 h4 (by omega)).mono ?_
    rintro e w2 ⟨rfl, rfl⟩
    have hK0 := around_nonneg m 21 (by omega)
    have hK1 := around_lt m 21 (by omega)
    generalize around m 21 = K at *
    go_wp2_with fail
    refine (now_any bx _ _ HL.out).mono ?_
    rintro e w2 ⟨rfl, rfl⟩
    dsimp only
    go_wp2_with fail
    refine (done_any bx ⟨low, high, L, B, cut, last⟩ t (L - 1) B true _ HL.out (by constructor <;> dsimp only <;> omega) ht0 (by omega) (by omega) (by omega)).mono ?_
    rintro e w2 ⟨rfl, hl2, hu2⟩
    rw [rise_none low high L B B cut last t (by constructor <;> dsimp only <;> omega) (by omega)] at hl2
    have hb2 : Below w.heap.size w w2 := hb1.trans (hu2.below hb1.size (by have := HBX.out; simp; omega))
    have HL2 := Lib.hid hl2
    clear hl2 hu2 hb1
    go_wp2_with fail
    refine (now_any bx _ _ HL2.out).mono ?_
    rintro e w3 ⟨rfl, rfl⟩
    dsimp only
    go_wp2_with fail
    go_loopw [14] (fun i wr => ∃ (k : Nat) (x : Int), (k : Int) ≤ K ∧ i = .int .i64 k ∧ x = min high (L + k) ∧ LimAt wr bx ⟨low, high, x, B, cut, last⟩ ∧ Below w.heap.size w wr) (fun i _ => K.toNat - (intOf i).toNat)
    case atStart => exact ⟨0, L, by omega, rfl, by omega, HL2.out, hb2⟩
    case round =>
      obtain ⟨k, x, hk, rfl, hx, hl3, hb3⟩ := hrel
      have HX := Lib.hid hx
      have hxb : low ≤ x ∧ x ≤ high := by omega
      have HL3 := Lib.hid hl3
      clear hl3 hx
      by_cases hlt : (k : Int) < K
      · go_wp2_with fail
        refine (now_any bx _ _ HL3.out).mono ?_
        rintro e w3 ⟨rfl, rfl⟩
        dsimp only
        go_wp2_with fail
        refine (done_any bx ⟨low, high, x, B, cut, last⟩ t x B true _ HL3.out (by constructor <;> dsimp only <;> omega) ht0 (by omega) (by omega) (by omega)).mono ?_
        rintro e w3 ⟨rfl, hl4, hu4⟩
        rw [rise_step low high x B cut last t (by constructor <;> dsimp only <;> omega) (by omega)] at hl4
        go_wp2_with fail
        go_roundw
        case rel => exact ⟨k + 1, _, by omega, by go_num, by have := HX.out; split <;> omega, hl4, hb3.trans (hu4.below hb3.size (by have := HBX.out; simp; omega))⟩
        case measure => simp [intOf]; omega
      · by_cases hm : high ≤ L + K
        · have hxv : x = high := by have := HX.out; omega
          have heq : (x == high) = true := by simp [hxv]
          clear hxv
          go_wp2_with fail
          refine (now_any bx _ _ HL3.out).mono ?_
          rintro e w3 ⟨rfl, rfl⟩
          dsimp only
          go_wp2_with fail
          refine (lives_any wr).mono ?_
          rintro e w4 ⟨rfl, hb4⟩
          go_wp2
          go_ret
          exact ⟨rfl, hb3.trans (hb4.mono hb3.size)⟩
        · have hxv : x = L + K := by have := HX.out; omega
          have heq : (x == L + K) = true := by simp [hxv]
          clear hxv
          go_wp2_with fail
          refine (now_any bx _ _ HL3.out).mono ?_
          rintro e w3 ⟨rfl, rfl⟩
          dsimp only
          go_wp2_with fail
          refine (lives_any wr).mono ?_
          rintro e w4 ⟨rfl, hb4⟩
          go_wp2
          go_ret
          exact ⟨rfl, hb3.trans (hb4.mono hb3.size)⟩
end Go.Proofs.Ytdfigalijngekaa
