/- Layer 21: the walk of AdaptBetween. -/
import Derived.Test.YtdfigalijngekaaAdaptD
namespace Go.Proofs.Ytdfigalijngekaa
open Go.RowKit
set_option maxHeartbeats 4000000 in
set_option maxRecDepth 100000 in
theorem between_walk (n : Int) (v : Value) (zs : List Int) (w : World) (h1 : -9223372036854775808 ≤ n) (h2 : n ≤ 9223372036854775807) (h : IntsIn w v zs) :
    Calls Try.prog 3 #[.int .i64 n, v] w (TruePost w) := by
  go_enter Try.func3, Try.ntmps3
  go_wp2_with fail
  refine (between_any n _ h1 h2).mono ?_
  rintro e w1 ⟨rfl, rfl⟩
  obtain ⟨low, hlow⟩ : ∃ x, lowOf n = x := ⟨_, rfl⟩
  obtain ⟨high, hhigh⟩ : ∃ x, highOf n = x := ⟨_, rfl⟩
  have hlf := low_facts n
  rw [hlow, hhigh] at hlf ⊢
  clear hlow hhigh
  go_wp2_with fail
  refine (new_any low high _).mono ?_
  rintro e w1 ⟨rfl, hl, hu⟩
  have hi1 := h.keep hu (by simp)
  go_wp2_with fail
  refine (acts_any v zs w1 hi1).mono ?_
  intro e w2 hpost
  obtain ⟨u, rfl, hacts, hb⟩ := hpost.acts
  clear hpost hi1
  have hbw : Below w.heap.size w w2 := (hu.below (Nat.le_refl _) (by simp)).trans (hb.mono hu.size)
  have hl2 := hl.keep (Upd.ofBelow hb) (by simp)
  have hget := acts21_get zs
  have hlen := acts21_length zs
  generalize acts21 zs = acts at *
  rcases hacts.read with ⟨rfl, rfl⟩ | ⟨g, cap, rfl, hg0, hg, hrd⟩
  · go_wp2_with fail
    refine wp_loop_rounds 1 ?_
    rw [rounds_succ]
    go_wp2_with fail
    refine (lives_any w2).mono ?_
    rintro e w3 ⟨rfl, hb3⟩
    go_wp2
    go_ret
    exact ⟨rfl, hbw.trans (hb3.mono hbw.size)⟩
  · have hgne : g ≠ w.heap.size := by have := hl.lt; omega
    have hbw2 := hbw.size
    clear h hacts hb hu hg0
    clear hl
    go_wp2_with fail
    go_loopw [9] (fun i wr => ∃ (k : Nat) (L B last : Int) (cut : Bool), k ≤ acts.length ∧ i = .int .i64 k ∧ LimAt wr w.heap.size ⟨low, high, L, B, cut, last⟩ ∧ Lim.Ok ⟨low, high, L, B, cut, last⟩ ∧ Below w.heap.size w wr ∧ Upd [w.heap.size] w2 wr) (fun i _ => acts.length - (intOf i).toNat)
    case atStart => exact ⟨0, low, 0, 0, false, by omega, rfl, hl2, newLim_ok _ _ (by omega) (by omega) (by omega), hbw, Upd.refl _ _⟩
    case round =>
      obtain ⟨k, L, B, last, cut, hk, rfl, hl, hok, hbr, hur⟩ := hrel
      clear hl2
      by_cases hlt : k < acts.length
      · obtain ⟨a, ha⟩ : ∃ a, acts[k]? = some a := ⟨acts[k], by simp [hlt]⟩
        obtain ⟨r0, r1, r2, r3⟩ := hrd k a ha
        obtain ⟨-, -, a0, a1, a2, a3, a4, a5⟩ := hget k a ha
        have q0 := hur.cell r0 (by simp; omega)
        have q1 := hur.cell r1 (by simp; omega)
        have q2 := hur.cell r2 (by simp; omega)
        have q3 := hur.cell r3 (by simp; omega)
        obtain ⟨now, under, took, well⟩ := a
        dsimp only at *
        clear r0 r1 r2 r3 hrd hget ha
        have hbl := hl.lt
        go_wp2_with fail
        refine (now_any w.heap.size ⟨low, high, L, B, cut, last⟩ _ (hl.keep (Upd.alloc [] _ _) (by simp))).mono ?_
        rintro e w3 ⟨rfl, rfl⟩
        go_wp2_with fail
        refine (base_any w.heap.size ⟨low, high, L, B, cut, last⟩ _ (hl.keep (Upd.alloc [] _ _) (by simp))).mono ?_
        rintro e w3 ⟨rfl, rfl⟩
        go_wp2_with fail
        refine (done_any w.heap.size ⟨low, high, L, B, cut, last⟩ now under took well _ (hl.keep (Upd.alloc [] _ _) (by simp)) hok a0 (by omega) a4 (by omega)).mono ?_
        rintro e w3 ⟨rfl, hl3, hu3⟩
        have hfacts := done_facts ⟨low, high, L, B, cut, last⟩ now under took well hok a4
        have hok3 := hok.done (now := now) (under := under) (took := took) (well := well) a0 (by omega) a4 (by omega)
        obtain ⟨l', hl'⟩ : ∃ l', Lim.done ⟨low, high, L, B, cut, last⟩ now under took well = l' := ⟨_, rfl⟩
        rw [hl'] at hl3 hfacts hok3
        clear hl'
        obtain ⟨low', high', L', B', cut', last'⟩ := l'
        dsimp only at hfacts
        obtain ⟨rfl, rfl, x3, x4, x5, x6, x7, x8, x9, x10⟩ := hfacts
        have hA := (BlockAt.new wr 30 [.int .i64 now, .int .i64 under, .int .i64 took, .bool well]).keep hu3 (by simp; omega)
        have s0 := hA.cell 1 _ rfl
        have s1 := hA.cell 2 _ rfl
        have s2 := hA.cell 3 _ rfl
        have hb3 : Below w.heap.size w w3 := (hbr.alloc hbr.size _).trans (hu3.below (by simp; have := hbr.size; omega) (by simp))
        have hu4 : Upd [w.heap.size] w2 w3 := (hur.trans (Upd.alloc _ _ _)).trans hu3
        have HL := Lib.hid hl3
        have HO := Lib.hid hok3
        obtain ⟨m0, m1, m2, m3, m4, -, -, -⟩ := hok
        obtain ⟨p0, p1, p2, p3, p4, p5, -, -⟩ := hok3
        dsimp only at m0 m1 m2 m3 m4 p0 p1 p2 p3 p4 p5
        have cbase := fun n => base_any w.heap.size _ (w3.drewN n) HL.out
        have CB := Lib.hid cbase
        clear cbase hl3 hl hA hu3 hur hbr q0 q1 q2 q3 hbl hgne hg hbw hbw2 h1 h2
        go_wp2_with fail
        refine (now_any w.heap.size _ _ HL.out).mono ?_
        rintro e w5 ⟨rfl, rfl⟩
        dsimp only at *
        have e1 : decide (L' < low') = false := by simp; omega
        have e2 : decide (high' < L') = false := by simp; omega
        have e3 : decide (L + 1 < L') = false := by simp; omega
        have e4 : decide (4 * L' + 3 < 3 * L) = false := by simp; omega
        have e5 : (L == L) = true := by simp
        cases well
        · obtain rfl : B' = B := x10 rfl
          clear x9 x10 x8
          have t1 : decide (L < L') = false := by simp; exact Int.not_lt.1 (fun hx => by have := x5 hx; simp at this)
          have c0 : decide (B' < B') = false := by simp
          have c1 : (B' != B') = false := by simp
          clear x5
          by_cases t2 : L' < L
          · have t3 : (L == low') = false := by simp; exact x6 t2
            have t2' : decide (L' < L) = true := by simpa using t2
            clear x6
            by_cases hB : 0 < B'
            · have c3 : decide (0 < B') = true := by simpa using hB
              go_wp2_with fail
              go_quiet ((go_at_call 11; exact quietSame (CB.out _)))
              go_wp2_with fail
              go_roundw
              case rel => exact ⟨k + 1, L', B', last', cut', by omega, by go_num, HL.out, HO.out, hb3.trans (Upd.below (Upd.drewN [] _ _) hb3.size (by simp)), hu4.trans (Upd.drewN _ _ _)⟩
              case measure => simp [intOf]; omega
            · have c3 : decide (0 < B') = false := by simpa using hB
              go_wp2_with fail
              go_quiet ((go_at_call 11; exact quietSame (CB.out _)))
              go_wp2_with fail
              go_roundw
              case rel => exact ⟨k + 1, L', B', last', cut', by omega, by go_num, HL.out, HO.out, hb3.trans (Upd.below (Upd.drewN [] _ _) hb3.size (by simp)), hu4.trans (Upd.drewN _ _ _)⟩
              case measure => simp [intOf]; omega
          · have t2' : decide (L' < L) = false := by simpa using t2
            clear x6
            by_cases hB : 0 < B'
            · have c3 : decide (0 < B') = true := by simpa using hB
              go_wp2_with fail
              go_quiet ((go_at_call 11; exact quietSame (CB.out _)))
              go_wp2_with fail
              go_roundw
              case rel => exact ⟨k + 1, L', B', last', cut', by omega, by go_num, HL.out, HO.out, hb3.trans (Upd.below (Upd.drewN [] _ _) hb3.size (by simp)), hu4.trans (Upd.drewN _ _ _)⟩
              case measure => simp [intOf]; omega
            · have c3 : decide (0 < B') = false := by simpa using hB
              go_wp2_with fail
              go_quiet ((go_at_call 11; exact quietSame (CB.out _)))
              go_wp2_with fail
              go_roundw
              case rel => exact ⟨k + 1, L', B', last', cut', by omega, by go_num, HL.out, HO.out, hb3.trans (Upd.below (Upd.drewN [] _ _) hb3.size (by simp)), hu4.trans (Upd.drewN _ _ _)⟩
              case measure => simp [intOf]; omega
        · obtain ⟨y1, y2⟩ := x9 rfl
          clear x9 x10
          have c1 : decide (took < B') = false := by simp; omega
          have c2 : decide (0 < B') = true := by simp; omega
          by_cases hB : 0 < B
          · have c0 : decide (0 < B) = true := by simpa using hB
            have c3 : decide (B < B') = false := by simp; exact x8 hB
            clear x8
            by_cases t1 : L < L'
            · have t1' : decide (L < L') = true := by simpa using t1
              have t4 : decide (under < L) = false := by simp; exact (x5 t1).2
              have t2 : decide (L' < L) = false := by simp; omega
              clear x5 x6
              go_wp2_with fail
              go_quiet ((go_at_call 11; exact quietSame (CB.out _)))
              go_wp2_with fail
              go_roundw
              case rel => exact ⟨k + 1, L', B', last', cut', by omega, by go_num, HL.out, HO.out, hb3.trans (Upd.below (Upd.drewN [] _ _) hb3.size (by simp)), hu4.trans (Upd.drewN _ _ _)⟩
              case measure => simp [intOf]; omega
            · have t1' : decide (L < L') = false := by simpa using t1
              clear x5
              by_cases t2 : L' < L
              · have t3 : (L == low') = false := by simp; exact x6 t2
                have t2' : decide (L' < L) = true := by simpa using t2
                clear x6
                go_wp2_with fail
                go_quiet ((go_at_call 11; exact quietSame (CB.out _)))
                go_wp2_with fail
                go_roundw
                case rel => exact ⟨k + 1, L', B', last', cut', by omega, by go_num, HL.out, HO.out, hb3.trans (Upd.below (Upd.drewN [] _ _) hb3.size (by simp)), hu4.trans (Upd.drewN _ _ _)⟩
                case measure => simp [intOf]; omega
              · have t2' : decide (L' < L) = false := by simpa using t2
                clear x6
                go_wp2_with fail
                go_quiet ((go_at_call 11; exact quietSame (CB.out _)))
                go_wp2_with fail
                go_roundw
                case rel => exact ⟨k + 1, L', B', last', cut', by omega, by go_num, HL.out, HO.out, hb3.trans (Upd.below (Upd.drewN [] _ _) hb3.size (by simp)), hu4.trans (Upd.drewN _ _ _)⟩
                case measure => simp [intOf]; omega
          · have c0 : decide (0 < B) = false := by simpa using hB
            clear x8
            by_cases t1 : L < L'
            · have t1' : decide (L < L') = true := by simpa using t1
              have t4 : decide (under < L) = false := by simp; exact (x5 t1).2
              have t2 : decide (L' < L) = false := by simp; omega
              clear x5 x6
              go_wp2_with fail
              go_quiet ((go_at_call 11; exact quietSame (CB.out _)))
              go_wp2_with fail
              go_roundw
              case rel => exact ⟨k + 1, L', B', last', cut', by omega, by go_num, HL.out, HO.out, hb3.trans (Upd.below (Upd.drewN [] _ _) hb3.size (by simp)), hu4.trans (Upd.drewN _ _ _)⟩
              case measure => simp [intOf]; omega
            · have t1' : decide (L < L') = false := by simpa using t1
              clear x5
              by_cases t2 : L' < L
              · have t3 : (L == low') = false := by simp; exact x6 t2
                have t2' : decide (L' < L) = true := by simpa using t2
                clear x6
                go_wp2_with fail
                go_quiet ((go_at_call 11; exact quietSame (CB.out _)))
                go_wp2_with fail
                go_roundw
                case rel => exact ⟨k + 1, L', B', last', cut', by omega, by go_num, HL.out, HO.out, hb3.trans (Upd.below (Upd.drewN [] _ _) hb3.size (by simp)), hu4.trans (Upd.drewN _ _ _)⟩
                case measure => simp [intOf]; omega
              · have t2' : decide (L' < L) = false := by simpa using t2
                clear x6
                go_wp2_with fail
                go_quiet ((go_at_call 11; exact quietSame (CB.out _)))
                go_wp2_with fail
                go_roundw
                case rel => exact ⟨k + 1, L', B', last', cut', by omega, by go_num, HL.out, HO.out, hb3.trans (Upd.below (Upd.drewN [] _ _) hb3.size (by simp)), hu4.trans (Upd.drewN _ _ _)⟩
                case measure => simp [intOf]; omega
      · go_wp2_with fail
        refine (lives_any wr).mono ?_
        rintro e w3 ⟨rfl, hb3⟩
        go_wp2
        go_ret
        exact ⟨rfl, hbr.trans (hb3.mono hbr.size)⟩
end Go.Proofs.Ytdfigalijngekaa
