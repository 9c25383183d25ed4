/- Layer 19: the walk of TokenPlays. -/
import Derived.Test.YtjiclgebhndljaaTokenE
namespace Go.Proofs.Ytjiclgebhndljaa
open Go.RowKit
set_option maxHeartbeats 1000000 in
theorem plays_walk (n : Int) (v : Value) (bs : List Bool) (w : World) (h1 : -9223372036854775808 ≤ n) (h2 : n ≤ 9223372036854775807) (hbs : BoolsIn w v bs) :
    Calls Try.prog 7 #[.int .i64 n, v] w (TruePost w) := by
  have hbs0 := hbs
  obtain ⟨sa, scap, rfl, hlen, -⟩ := hbs0
  have HBS := Lib.hid hbs
  clear hbs
  go_enter Try.func7, Try.ntmps7
  go_wp2_with fail
  refine (budget_any n _ h1 h2).mono ?_
  rintro e w1 ⟨⟨P, o, B, rfl, hok⟩, hb1⟩
  obtain ⟨q0, q1, o0, o1, b0, b1⟩ := hok
  have hok : BudOk P o B := ⟨q0, q1, o0, o1, b0, b1⟩
  have HN := Lib.hid (fun w => newTok_any P o B hok w)
  have HM := Lib.hid (fun w c h0 h1 => most_any P o B c hok w h0 h1)
  have hbud : BudAt (w1.alloc (.cells #[.int .i64 P, .int .i64 o, .int .i64 B] 24)) w1.heap.size P o B := BlockAt.new w1 24 [.int .i64 P, .int .i64 o, .int .i64 B]
  have hbw : Below w.heap.size w (w1.alloc (.cells #[.int .i64 P, .int .i64 o, .int .i64 B] 24)) := hb1.alloc hb1.size _
  have hXw := hb1.size
  have HBUD := Lib.hid hbud
  have HBW := Lib.hid hbw
  have HOK := Lib.hid hok
  have hm1 : B * o ≤ 100 * 100 := Int.mul_le_mul b1 o1 (by omega) (by omega)
  have hm0 : 0 ≤ B * o := Int.mul_nonneg (by omega) (by omega)
  have HMB := Lib.hid (And.intro hm0 hm1)
  unfold bud at HN HM ⊢
  clear hb1 hbud hbw hok hm0 hm1
  go_wp2_with fail
  refine (HN.out _).mono ?_
  rintro e w2 ⟨rfl, ht, hb⟩
  have HT := Lib.hid (show Tk w w2 w1.heap.size ((w1.alloc (.cells #[.int .i64 P, .int .i64 o, .int .i64 B] 24)).heap.size + 1) P o B (B * o) from
    ⟨HBUD.out.keep (Upd.ofBelow hb) (by simp), ht, HBW.out.trans (hb.mono HBW.out.size), hXw, by have := HBW.out.size; omega, by simp; omega⟩)
  obtain ⟨X, hX⟩ : ∃ X, w1.heap.size = X := ⟨_, rfl⟩
  obtain ⟨b, hbe⟩ : ∃ b, (w1.alloc (.cells #[.int .i64 P, .int .i64 o, .int .i64 B] 24)).heap.size + 1 = b := ⟨_, rfl⟩
  rw [hX, hbe] at HT
  rw [hbe]
  have HX := Lib.hid hX
  clear ht hb hbe HBUD HBW hXw HN
  obtain ⟨c0, c1, c2, c3⟩ := HT.out.held
  have HST := Lib.hid HMB.out.1
  have hm0 := HMB.out.1
  have hm1 := HMB.out.2
  obtain ⟨M, hM⟩ : ∃ M, B * o = M := ⟨_, rfl⟩
  have HT2 : Hid (Tk w w2 X b P o B M) := Lib.hid (by rw [← hM]; exact HT.out)
  have vM : IntKind.i64.wrap (B * o) = M := by rw [hM]; exact IntWalk.i64_in _ (by omega)
  have M0 : 0 ≤ M := by omega
  have M1 : M ≤ 10000 := by omega
  clear c3 hM hm0 hm1
  go_wp2_with fail
  go_loopw [7, 8] (fun t i wr => ∃ (x : Int) (j : Nat), j ≤ bs.length ∧ j ≤ 60 ∧ t = .int .i64 x ∧ i = .int .i64 j ∧ 0 ≤ x ∧ x ≤ 10000 ∧ Hid (Tk w wr X b P o B x)) (fun _ i _ => 60 - (intOf i).toNat)
  case atStart => exact ⟨M, 0, by omega, by omega, rfl, rfl, M0, M1, HT2⟩
  case round =>
    obtain ⟨x, j, hj, hj60, rfl, rfl, x0, x1, HTK⟩ := hrel
    clear HT HT2 c0 c1 c2 vM M0 M1
    obtain ⟨c0, c1, c2, c3⟩ := HTK.out.held
    clear c3
    have z0 : 0 ≤ x / o := Int.ediv_nonneg x0 (by omega)
    have z1 : x / o ≤ x := Int.ediv_le_self _ x0
    have d1 := tdivI x o x0
    have o2 : ¬ o = 0 := by omega
    have CL := Lib.hid (fun n => left_any b P o (B * o) x (wr.drewN n) (HTK.out.drewN n).tok o0 o1 x0 x1)
    obtain ⟨q, hq⟩ : ∃ q, x / o = q := ⟨_, rfl⟩
    have HQ := Lib.hid hq
    rw [hq] at z0 z1 d1 CL
    have v1 : IntKind.i64.wrap q = q := IntWalk.i64_in _ (by omega)
    clear hq
    by_cases hlt : j < bs.length ∧ j < 60
    · obtain ⟨hlt1, hlt2⟩ := hlt
      obtain ⟨y, hy⟩ : ∃ y, bs[j]? = some y := ⟨bs[j], by simp [hlt1]⟩
      obtain ⟨g, off, rfl, hcell⟩ := (HBS.out.keep (Upd.ofBelow HTK.out.below) (by simp)).cell hy
      clear hy
      have HRF := Lib.hid (fun w => rfresh_any P o B x HOK.out w x0 x1)
      have HRT := Lib.hid (fun w => rtake_any P o B x HOK.out w x0 x1)
      unfold bud at HRF HRT
      cases y with
      | true =>
        go_wp2_with fail
        go_quiet ((go_at_call 20; exact quietDrew (CL.out _)))
        go_wp2_with fail
        refine (fresh_to b P o (B * o) x (min (x + P) (B * o)) _ (HTK.out.drewN _).tok q0 q1 x0 x1 rfl).mono ?_
        rintro e w4 ⟨rfl, ht, hu⟩
        have HTK3 := Lib.hid ((HTK.out.drewN _).step hu ht)
        clear ht hu hcell c0 c1 c2 HTK
        obtain ⟨x2, hx2⟩ : ∃ x2, min (x + P) (B * o) = x2 := ⟨_, rfl⟩
        have y0 : 0 ≤ x2 := by have := HMB.out.1; omega
        have y1 : x2 ≤ 10000 := by have := HMB.out.2; omega
        rw [hx2] at HTK3 HRF
        clear hx2
        obtain ⟨c0, c1, c2, c3⟩ := HTK3.out.held
        clear c3
        go_wp2_with fail
        refine (HRF.out _).mono ?_
        rintro e w5 ⟨rfl, hb⟩
        have HTK4 := Lib.hid (HTK3.out.next hb)
        clear hb c0 c1 c2 HTK3
        go_wp2_with fail
        go_roundw
        case rel => exact ⟨x2, j + 1, by omega, by omega, rfl, by go_num, y0, y1, HTK4⟩
        case measure => simp [intOf] <;> omega
      | false =>
        by_cases hx : o ≤ x
        · rw [if_pos hx, show decide (o ≤ x) = true by simpa using hx] at HRT
          go_wp2_with fail
          go_quiet ((go_at_call 20; exact quietDrew (CL.out _)))
          go_wp2_with fail
          refine (HRT.out _).mono ?_
          rintro e w5 ⟨rfl, hb⟩
          have HTK4 := Lib.hid ((HTK.out.drewN _).next hb)
          clear hb c0 c1 c2 HTK hcell
          go_wp2_with fail
          refine (take_hit b P o (B * o) x _ HTK4.out.tok (by omega) o1 x0 x1 hx (x - o) rfl).mono ?_
          rintro e w6 ⟨rfl, ht, hu⟩
          have HTK5 := Lib.hid (HTK4.out.step hu ht)
          clear ht hu HTK4
          go_wp2_with fail
          go_roundw
          case rel => exact ⟨x - o, j + 1, by omega, by omega, rfl, by go_num, by omega, by omega, HTK5⟩
          case measure => simp [intOf] <;> omega
        · rw [if_neg hx, show decide (o ≤ x) = false by simpa using hx] at HRT
          go_wp2_with fail
          go_quiet ((go_at_call 20; exact quietDrew (CL.out _)))
          go_wp2_with fail
          refine (HRT.out _).mono ?_
          rintro e w5 ⟨rfl, hb⟩
          have HTK4 := Lib.hid ((HTK.out.drewN _).next hb)
          clear hb c0 c1 c2 HTK hcell
          go_wp2_with fail
          refine (take_miss b P o (B * o) x _ HTK4.out.tok (by omega) o1 x0 x1 (by omega)).mono ?_
          rintro e w6 ⟨rfl, ht, hu⟩
          have HTK5 := Lib.hid (HTK4.out.step hu ht)
          clear ht hu HTK4
          go_wp2_with fail
          go_roundw
          case rel => exact ⟨x, j + 1, by omega, by omega, rfl, by go_num, x0, x1, HTK5⟩
          case measure => simp [intOf] <;> omega
    · obtain ⟨d0, d1', d2, d3⟩ := HTK.out.drew.held
      have HLQ := Lib.hid (fun (W : World) (h : Hid (Tk w W X b P o B x)) => left_held o0 o1 x0 x1 HQ.out h)
      have HLV := Lib.hid (fun (W : World) (h : Hid (Tk w W X b P o B x)) => below_held (lives_any W) h)
      by_cases hl1 : j < bs.length
      all_goals
        have hl2 : ¬ (j < bs.length ∧ j < 60) := hlt
        clear hlt
        first | (have hl3 : ¬ j < 60 := fun h => hl2 ⟨hl1, h⟩) | skip
        clear hl2
        go_wp2_with fail
        go_region_held3 (fun W => W.cell? ⟨X, 0, none⟩ = some (.int .i64 P) ∧ W.cell? ⟨X, 1, none⟩ = some (.int .i64 o) ∧ W.cell? ⟨X, 2, none⟩ = some (.int .i64 B) ∧ Hid (Tk w W X b P o B x))
          (first | go_keep | exact ⟨d0, d1', d2, d3⟩ | exact ⟨by assumption, by assumption, by assumption, by assumption⟩)
          (first
            | (go_at_call 16; refine (HLV.out _ (by assumption)).mono ?_; rintro e w' ⟨rfl, e0, e1, e2, e3⟩)
            | (go_at_call 20; refine (HLQ.out _ (by assumption)).mono ?_; rintro e w' ⟨rfl, e0, e1, e2, e3⟩))
        all_goals go_wp2
        all_goals go_ret
        all_goals exact ⟨rfl, e3.out.below⟩
end Go.Proofs.Ytjiclgebhndljaa
