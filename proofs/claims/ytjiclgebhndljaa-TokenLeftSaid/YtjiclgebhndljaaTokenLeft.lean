/- Layer 19: the walk of TokenLeft. -/
import Derived.Test.YtjiclgebhndljaaTokenE
namespace Go.Proofs.Ytjiclgebhndljaa
open Go.RowKit
def upI (a b : Int) : Int := a / b + (if 0 < a % b then 1 else 0)
theorem upP_any (a b : Int) (w : World) (ha : 0 ≤ a) (ha1 : a ≤ 1000000) (hb : 1 ≤ b) (hb1 : b ≤ 1000000) :
    Calls Try.prog 23 #[.int .i64 a, .int .i64 b] w fun e w' => e = .returned (.int .i64 (upI a b)) ∧ w = w' := by
  have d1 := tdivI a b ha
  have d2 := tmodI a b ha
  have q0 : 0 ≤ a / b := Int.ediv_nonneg ha (by omega)
  have q1 : a / b ≤ a := Int.ediv_le_self _ ha
  have hb2 : ¬ b = 0 := by omega
  have hb3 : ¬ b < 1 := by omega
  unfold upI
  by_cases h : 0 < a % b
  · rw [if_pos h]
    go_enter Try.func23, Try.ntmps23
    go_wp2
    go_ret
    exact ⟨rfl, rfl⟩
  · rw [if_neg h, Int.add_zero]
    go_enter Try.func23, Try.ntmps23
    go_wp2
    go_ret
    exact ⟨rfl, rfl⟩
theorem left_le {x B o : Int} (o0 : 1 ≤ o) (h : x ≤ B * o) : x / o ≤ B := by
  have := Int.ediv_le_ediv (show 0 < o by omega) h
  rwa [Int.mul_ediv_cancel _ (by omega)] at this
theorem left_hit {x o : Int} (o0 : 1 ≤ o) : (x - o) / o = x / o - 1 := by
  have : x - o = x + o * (-1) := by omega
  rw [this, Int.add_mul_ediv_left _ _ (by omega)]
  omega
theorem left_pos {x o : Int} (o0 : 1 ≤ o) (h : o ≤ x) : 0 < x / o := by
  have := Int.ediv_le_ediv (show 0 < o by omega) h
  rw [Int.ediv_self (by omega)] at this
  omega
theorem left_up {x p o : Int} (o0 : 1 ≤ o) : (x + p) / o ≤ x / o + upI p o := by
  have a1 := Int.emod_add_mul_ediv x o
  have a2 := Int.emod_add_mul_ediv p o
  have s1 := Int.emod_lt_of_pos x (show 0 < o by omega)
  have s2 := Int.emod_lt_of_pos p (show 0 < o by omega)
  have r1 := Int.emod_nonneg x (show o ≠ 0 by omega)
  have r2 := Int.emod_nonneg p (show o ≠ 0 by omega)
  have e1 : x + p = (x % o + p % o) + o * (x / o + p / o) := by rw [Int.mul_add]; omega
  rw [e1, Int.add_mul_ediv_left _ _ (show o ≠ 0 by omega)]
  unfold upI
  by_cases h : 0 < p % o
  · rw [if_pos h]
    have d1 : (x % o + p % o) / o < 2 := Int.ediv_lt_of_lt_mul (by omega) (by omega)
    omega
  · rw [if_neg h]
    have : p % o = 0 := by omega
    rw [this, Int.add_zero, Int.ediv_eq_zero_of_lt r1 s1]
    omega
theorem left_fresh {x p o B : Int} (o0 : 1 ≤ o) (p0 : 0 ≤ p) (h : x ≤ B * o) : x / o ≤ min (x + p) (B * o) / o ∧ min (x + p) (B * o) / o ≤ x / o + upI p o := by
  refine ⟨Int.ediv_le_ediv (by omega) (by omega), ?_⟩
  have : min (x + p) (B * o) / o ≤ (x + p) / o := Int.ediv_le_ediv (by omega) (by omega)
  have := left_up (x := x) (p := p) o0
  omega
set_option maxHeartbeats 1000000 in
theorem left_walk (n : Int) (v : Value) (bs : List Bool) (w : World) (h1 : -9223372036854775808 ≤ n) (h2 : n ≤ 9223372036854775807) (hbs : BoolsIn w v bs) :
    Calls Try.prog 9 #[.int .i64 n, v] w (TruePost w) := by
  have hbs0 := hbs
  obtain ⟨sa, scap, rfl, hlen, -⟩ := hbs0
  have HBS := Lib.hid hbs
  clear hbs
  go_enter Try.func9, Try.ntmps9
  go_wp2_with fail
  refine (budget_any n _ h1 h2).mono ?_
  rintro e w1 ⟨⟨P, o, B, rfl, hok⟩, hb1⟩
  obtain ⟨q0, q1, o0, o1, b0, b1⟩ := hok
  have hok : BudOk P o B := ⟨q0, q1, o0, o1, b0, b1⟩
  have HN := Lib.hid (fun w => newTok_any P o B hok w)
  have HM := Lib.hid (fun w c h0 h1 => most_any P o B c hok w h0 h1)
  have hbud : BudAt (w1.alloc (.cells #[.int .i64 P, .int .i64 o, .int .i64 B] 24)) w1.heap.size P o B := BlockAt.new w1 24 [.int .i64 P, .int .i64 o, .int .i64 B]
  have hbw : Below w.heap.size w (w1.alloc (.cells #[.int .i64 P, .int .i64 o, .int .i64 B] 24)) := hb1.alloc hb1.size _
  have hXw := hb1.size
  have HBUD := Lib.hid hbud
  have HBW := Lib.hid hbw
  have hm1 : B * o ≤ 100 * 100 := Int.mul_le_mul b1 o1 (by omega) (by omega)
  have hm0 : 0 ≤ B * o := Int.mul_nonneg (by omega) (by omega)
  have HMB := Lib.hid (And.intro hm0 hm1)
  unfold bud at HN HM ⊢
  clear hb1 hbud hbw hok hm0 hm1
  go_wp2_with fail
  refine (HN.out _).mono ?_
  rintro e w2 ⟨rfl, ht, hb⟩
  have HT := Lib.hid (show Tk w w2 w1.heap.size ((w1.alloc (.cells #[.int .i64 P, .int .i64 o, .int .i64 B] 24)).heap.size + 1) P o B (B * o) from
    ⟨HBUD.out.keep (Upd.ofBelow hb) (by simp), ht, HBW.out.trans (hb.mono HBW.out.size), hXw, by have := HBW.out.size; omega, by simp; omega⟩)
  obtain ⟨X, hX⟩ : ∃ X, w1.heap.size = X := ⟨_, rfl⟩
  obtain ⟨b, hbe⟩ : ∃ b, (w1.alloc (.cells #[.int .i64 P, .int .i64 o, .int .i64 B] 24)).heap.size + 1 = b := ⟨_, rfl⟩
  rw [hX, hbe] at HT
  rw [hbe]
  have HX := Lib.hid hX
  clear ht hb hbe HBUD HBW hXw HN
  have HST := Lib.hid HMB.out.1
  have HT2 := HT
  go_wp2_with fail
  go_loopw [7] (fun i wr => ∃ (x : Int) (j : Nat), j ≤ bs.length ∧ j ≤ 60 ∧ i = .int .i64 j ∧ 0 ≤ x ∧ Hid (x ≤ B * o) ∧ Hid (Tk w wr X b P o B x)) (fun i _ => 60 - (intOf i).toNat)
  case atStart => exact ⟨B * o, 0, by omega, by omega, rfl, HMB.out.1, Lib.hid (Int.le_refl _), HT⟩
  case round =>
    obtain ⟨x, j, hj, hj60, rfl, x0, HXB, HTK⟩ := hrel
    clear HT HT2
    have x1 : x ≤ 10000 := by have := HXB.out; have := HMB.out.2; omega
    have z0 : 0 ≤ x / o := Int.ediv_nonneg x0 (by omega)
    have z1 := left_le o0 HXB.out
    have CL := Lib.hid (left_any b P o (B * o) x wr HTK.out.tok o0 o1 x0 x1)
    obtain ⟨q, hq⟩ : ∃ q, x / o = q := ⟨_, rfl⟩
    have HQ := Lib.hid hq
    rw [hq] at z0 z1 CL
    clear hq
    by_cases hlt : j < bs.length ∧ j < 60
    · obtain ⟨hlt1, hlt2⟩ := hlt
      obtain ⟨y, hy⟩ : ∃ y, bs[j]? = some y := ⟨bs[j], by simp [hlt1]⟩
      obtain ⟨g, off, rfl, hcell⟩ := (HBS.out.keep (Upd.ofBelow HTK.out.below) (by simp)).cell hy
      clear hy
      go_wp2_with fail
      refine CL.out.mono ?_
      rintro e w3 ⟨rfl, n1, rfl⟩
      have HTK1 := Lib.hid (HTK.out.drewN n1)
      obtain ⟨c0, c1, c2, c3⟩ := HTK1.out.held
      clear c3 CL
      cases y with
      | true =>
        go_wp2_with fail
        refine (fresh_to b P o (B * o) x (min (x + P) (B * o)) _ HTK1.out.tok q0 q1 x0 x1 rfl).mono ?_
        rintro e w4 ⟨rfl, ht, hu⟩
        have HTK3 := Lib.hid (HTK1.out.step hu ht)
        have hf := left_fresh o0 q0 HXB.out
        rw [HQ.out] at hf
        clear ht hu hcell c0 c1 c2 HTK HTK1
        obtain ⟨x2, hx2⟩ : ∃ x2, min (x + P) (B * o) = x2 := ⟨_, rfl⟩
        have y0 : 0 ≤ x2 := by have := HMB.out.1; omega
        have HY := Lib.hid (show x2 ≤ B * o by omega)
        have y1 : x2 ≤ 10000 := by have := HMB.out.2; have := HY.out; omega
        rw [hx2] at HTK3 hf
        clear hx2
        obtain ⟨c0, c1, c2, c3⟩ := HTK3.out.held
        clear c3
        have CL := Lib.hid (fun n => left_any b P o (B * o) x2 (w4.drewN n) (HTK3.out.drewN n).tok o0 o1 y0 y1)
        have CU := Lib.hid (fun n => upP_any P o (w4.drewN n) q0 (by omega) o0 (by omega))
        have u0 : 0 ≤ upI P o := by omega
        have u1 : upI P o ≤ 101 := by have := Int.ediv_le_self o q0; unfold upI; split <;> omega
        obtain ⟨q2, hq2⟩ : ∃ q, x2 / o = q := ⟨_, rfl⟩
        obtain ⟨U, hU⟩ : ∃ U, upI P o = U := ⟨_, rfl⟩
        rw [hq2, hU] at hf
        rw [hq2] at CL
        rw [hU] at CU u0 u1
        have v1 : IntKind.i64.wrap (q + U) = q + U := IntWalk.i64_in _ (by omega)
        have t1 : decide (q2 < q) = false := by simp; omega
        have t2 : decide (q2 > q + U) = false := by simp; omega
        have t3 : decide (q + U < q2) = false := by simp; omega
        clear hq2 hU hf
        go_wp2_with fail
        go_quiet ((first | (go_at_call 20; exact quietDrew (CL.out _)) | (go_at_call 23; exact quietSame (CU.out _))))
        go_wp2_with fail
        go_roundw
        case rel => exact ⟨x2, j + 1, by omega, by omega, by go_num, y0, HY, HTK3.out.drewN _⟩
        case measure => simp [intOf] <;> omega
      | false =>
        by_cases hx : o ≤ x
        · have hp := left_pos o0 hx
          have e1 := left_hit (x := x) o0
          rw [HQ.out] at hp e1
          go_wp2_with fail
          refine (take_hit b P o (B * o) x _ HTK1.out.tok (by omega) o1 x0 x1 hx (x - o) rfl).mono ?_
          rintro e w6 ⟨rfl, ht, hu⟩
          have HTK5 := Lib.hid (HTK1.out.step hu ht)
          have y0 : 0 ≤ x - o := by omega
          have CL := Lib.hid (left_any b P o (B * o) (x - o) w6 HTK5.out.tok o0 o1 y0 (by omega))
          rw [e1] at CL
          have t1 : decide (0 < q) = true := by simpa using hp
          clear ht hu c0 c1 c2 HTK HTK1 e1 hcell
          go_wp2_with fail
          refine CL.out.mono ?_
          rintro e w7 ⟨rfl, n2, rfl⟩
          go_wp2_with fail
          go_roundw
          case rel => exact ⟨x - o, j + 1, by omega, by omega, by go_num, y0, Lib.hid (by have := HXB.out; omega), HTK5.out.drewN _⟩
          case measure => simp [intOf] <;> omega
        · have hp : q = 0 := by rw [← HQ.out]; exact Int.ediv_eq_zero_of_lt x0 (by omega)
          have t1 : decide (0 < q) = false := by simp; omega
          go_wp2_with fail
          refine (take_miss b P o (B * o) x _ HTK1.out.tok (by omega) o1 x0 x1 (by omega)).mono ?_
          rintro e w6 ⟨rfl, ht, hu⟩
          have HTK5 := Lib.hid (HTK1.out.step hu ht)
          have CL := Lib.hid (left_any b P o (B * o) x w6 HTK5.out.tok o0 o1 x0 x1)
          rw [HQ.out] at CL
          clear ht hu c0 c1 c2 HTK HTK1 hcell
          go_wp2_with fail
          refine CL.out.mono ?_
          rintro e w7 ⟨rfl, n2, rfl⟩
          go_wp2_with fail
          go_roundw
          case rel => exact ⟨x, j + 1, by omega, by omega, by go_num, x0, HXB, HTK5.out.drewN _⟩
          case measure => simp [intOf] <;> omega
    · have HT4 := HTK
      by_cases hl1 : j < bs.length
      all_goals
        have hl2 : ¬ (j < bs.length ∧ j < 60) := hlt
        clear hlt
        first | (have hl3 : ¬ j < 60 := fun h => hl2 ⟨hl1, h⟩) | skip
        clear hl2
        go_wp2_with fail
        refine (lives_any _).mono ?_
        rintro e w5 ⟨rfl, hb⟩
        have HT5 := Lib.hid (HT4.out.next hb)
        clear hb
        go_wp2
        go_ret
        exact ⟨rfl, HT5.out.below⟩
end Go.Proofs.Ytjiclgebhndljaa
