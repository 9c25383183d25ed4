/- Layer 19: the walk of TokenStorm. -/
import Derived.Test.YtjiclgebhndljaaTokenD
namespace Go.Proofs.Ytjiclgebhndljaa
open Go.RowKit
theorem storm_walk (n : Int) (v : Value) (bs : List Bool) (from_ : Int) (w : World) (h1 : -9223372036854775808 ≤ n) (h2 : n ≤ 9223372036854775807) (hbs : BoolsIn w v bs) (h3 : -9223372036854775808 ≤ from_) (h4 : from_ ≤ 9223372036854775807) :
    Calls Try.prog 3 #[.int .i64 n, v, .int .i64 from_] w (TruePost w) := by
  have y0 := around_nonneg from_ 80 (by omega)
  have y1 := around_lt from_ 80 (by omega)
  obtain ⟨K, hK⟩ : ∃ K : Nat, around from_ 80 = (K : Int) := ⟨(around from_ 80).toNat, by omega⟩
  have HK := Lib.hid hK
  have hbs0 := hbs
  obtain ⟨sa, scap, rfl, hlen, -⟩ := hbs0
  have HBS := Lib.hid hbs
  clear hK y0 y1 hbs
  go_enter Try.func3, Try.ntmps3
  go_wp2_with fail
  refine (budget_any n _ h1 h2).mono ?_
  rintro e w1 ⟨⟨P, o, B, rfl, hok⟩, hb1⟩
  obtain ⟨q0, q1, o0, o1, b0, b1⟩ := hok
  have hok : BudOk P o B := ⟨q0, q1, o0, o1, b0, b1⟩
  have HN := Lib.hid (fun w => newTok_any P o B hok w)
  have HM := Lib.hid (fun w c h0 h1 => most_any P o B c hok w h0 h1)
  have hbud : BudAt (w1.alloc (.cells #[.int .i64 P, .int .i64 o, .int .i64 B] 24)) w1.heap.size P o B := BlockAt.new w1 24 [.int .i64 P, .int .i64 o, .int .i64 B]
  have hbw : Below w.heap.size w (w1.alloc (.cells #[.int .i64 P, .int .i64 o, .int .i64 B] 24)) := hb1.alloc hb1.size _
  have hXw := hb1.size
  have HBUD := Lib.hid hbud
  have HBW := Lib.hid hbw
  have hm1 : B * o ≤ 100 * 100 := Int.mul_le_mul b1 o1 (by omega) (by omega)
  have hm0 : 0 ≤ B * o := Int.mul_nonneg (by omega) (by omega)
  have HMB := Lib.hid (And.intro hm0 hm1)
  unfold bud at HN HM ⊢
  clear hb1 hbud hbw hok hm0 hm1
  go_wp2_with fail
  refine (HN.out _).mono ?_
  rintro e w2 ⟨rfl, ht, hb⟩
  have HT := Lib.hid (show Tk w w2 w1.heap.size ((w1.alloc (.cells #[.int .i64 P, .int .i64 o, .int .i64 B] 24)).heap.size + 1) P o B (B * o) from
    ⟨HBUD.out.keep (Upd.ofBelow hb) (by simp), ht, HBW.out.trans (hb.mono HBW.out.size), hXw, by have := HBW.out.size; omega, by simp; omega⟩)
  obtain ⟨X, hX⟩ : ∃ X, w1.heap.size = X := ⟨_, rfl⟩
  obtain ⟨b, hbe⟩ : ∃ b, (w1.alloc (.cells #[.int .i64 P, .int .i64 o, .int .i64 B] 24)).heap.size + 1 = b := ⟨_, rfl⟩
  rw [hX, hbe] at HT
  rw [hbe]
  have HX := Lib.hid hX
  clear ht hb hbe HBUD HBW hXw HN
  go_wp2_with fail
  refine (around_any from_ 80 _ h3 h4 (by omega)).mono ?_
  rintro e w3 ⟨rfl, rfl⟩
  rw [show around from_ 80 = K from HK.out]
  go_wp2_with fail
  have HST := Lib.hid (Cons.start P o B HMB.out.1)
  go_loopw [10, 11, 12] (fun c t i wr => ∃ (C T x : Int) (j : Nat), j ≤ bs.length ∧ j ≤ 80 ∧ c = .int .i64 C ∧ t = .int .i64 T ∧ i = .int .i64 j ∧ C ≤ j ∧ T ≤ j ∧ Hid (j ≤ K → C = 0 ∧ T = 0) ∧ Hid (Cons P o B T C x) ∧ Hid (Tk w wr X b P o B x)) (fun _ _ i _ => 80 - (intOf i).toNat)
  case atStart => exact ⟨0, 0, B * o, 0, by omega, by omega, rfl, rfl, rfl, by omega, by omega, fun _ => ⟨rfl, rfl⟩, HST, HT⟩
  case round =>
    obtain ⟨C, T, x, j, hj, hj80, rfl, rfl, rfl, hCj, hTj, HZ, HC, HTK⟩ := hrel
    clear HST HT
    have x0 := HC.out.low
    have x1 : x ≤ 10000 := by have := HC.out.high; have := HMB.out; omega
    have t0 := HC.out.t0
    have c0 := HC.out.c0
    by_cases hlt : j < bs.length ∧ j < 80
    · obtain ⟨hlt1, hlt2⟩ := hlt
      obtain ⟨y, hy⟩ : ∃ y, bs[j]? = some y := ⟨bs[j], by simp [hlt1]⟩
      obtain ⟨g, off, rfl, hcell⟩ := (HBS.out.keep (Upd.ofBelow HTK.out.below) (by simp)).cell hy
      clear hy
      by_cases hKj : (K : Int) ≤ j
      · cases y with
        | true =>
          have HC2 := Lib.hid (HC.out.fresh q0)
          go_wp2_with fail
          refine (fresh_to b P o (B * o) x (min (x + P) (B * o)) _ HTK.out.tok q0 q1 x0 x1 rfl).mono ?_
          rintro e w4 ⟨rfl, ht, hu⟩
          have HTK3 := Lib.hid (HTK.out.step hu ht)
          clear ht hu
          go_wp2_with fail
          go_roundw
          case rel => exact ⟨C + 1, T, _, j + 1, by omega, by omega, by go_num, rfl, by go_num, by omega, by omega, fun h => by omega, HC2, HTK3⟩
          case measure => simp [intOf] <;> omega
        | false =>
          by_cases hx : o ≤ x
          · have HC2 := Lib.hid (HC.out.take (by omega) hx)
            go_wp2_with fail
            refine (take_hit b P o (B * o) x _ HTK.out.tok (by omega) o1 x0 x1 hx (x - o) rfl).mono ?_
            rintro e w4 ⟨rfl, ht, hu⟩
            have HTK3 := Lib.hid (HTK.out.step hu ht)
            clear ht hu
            go_wp2_with fail
            go_roundw
            case rel => exact ⟨C, T + 1, x - o, j + 1, by omega, by omega, rfl, by go_num, by go_num, by omega, by omega, fun h => by omega, HC2, HTK3⟩
            case measure => simp [intOf] <;> omega
          · go_wp2_with fail
            refine (take_miss b P o (B * o) x _ HTK.out.tok (by omega) o1 x0 x1 (by omega)).mono ?_
            rintro e w4 ⟨rfl, ht, hu⟩
            have HTK3 := Lib.hid (HTK.out.step hu ht)
            clear ht hu
            go_wp2_with fail
            go_roundw
            case rel => exact ⟨C, T, x, j + 1, by omega, by omega, rfl, rfl, by go_num, by omega, by omega, fun h => by omega, HC, HTK3⟩
            case measure => simp [intOf] <;> omega
      · obtain ⟨rfl, rfl⟩ := HZ.out (by omega)
        cases y with
        | true =>
          have HC2 := Lib.hid (HC.out.idle q0)
          go_wp2_with fail
          refine (fresh_to b P o (B * o) x (min (x + P) (B * o)) _ HTK.out.tok q0 q1 x0 x1 rfl).mono ?_
          rintro e w4 ⟨rfl, ht, hu⟩
          have HTK3 := Lib.hid (HTK.out.step hu ht)
          clear ht hu
          go_wp2_with fail
          go_roundw
          case rel => exact ⟨0, 0, _, j + 1, by omega, by omega, rfl, rfl, by go_num, by omega, by omega, fun h => ⟨rfl, rfl⟩, HC2, HTK3⟩
          case measure => simp [intOf] <;> omega
        | false =>
          by_cases hx : o ≤ x
          · have HC2 := Lib.hid (HC.out.idleTake (by omega) hx)
            go_wp2_with fail
            refine (take_hit b P o (B * o) x _ HTK.out.tok (by omega) o1 x0 x1 hx (x - o) rfl).mono ?_
            rintro e w4 ⟨rfl, ht, hu⟩
            have HTK3 := Lib.hid (HTK.out.step hu ht)
            clear ht hu
            go_wp2_with fail
            go_roundw
            case rel => exact ⟨0, 0, x - o, j + 1, by omega, by omega, rfl, rfl, by go_num, by omega, by omega, fun h => ⟨rfl, rfl⟩, HC2, HTK3⟩
            case measure => simp [intOf] <;> omega
          · go_wp2_with fail
            refine (take_miss b P o (B * o) x _ HTK.out.tok (by omega) o1 x0 x1 (by omega)).mono ?_
            rintro e w4 ⟨rfl, ht, hu⟩
            have HTK3 := Lib.hid (HTK.out.step hu ht)
            clear ht hu
            go_wp2_with fail
            go_roundw
            case rel => exact ⟨0, 0, x, j + 1, by omega, by omega, rfl, rfl, by go_num, by omega, by omega, fun h => ⟨rfl, rfl⟩, HC, HTK3⟩
            case measure => simp [intOf] <;> omega
    · have hbud := HTK.out.bud
      have c0' := BlockAt.cell (w := wr) hbud 0 _ rfl
      have c1 := BlockAt.cell (w := wr) hbud 1 _ rfl
      have c2 := BlockAt.cell (w := wr) hbud 2 _ rfl
      have hle := (HC.out.most o0).2
      have HM2 := Lib.hid (fun w => HM.out w C c0 (by omega))
      obtain ⟨MO, hMO⟩ : ∃ M, mostOf P o B C = M := ⟨_, rfl⟩
      rw [hMO] at hle HM2
      clear hbud hMO
      by_cases hl1 : j < bs.length
      · have hl2 : ¬ j < 80 := fun h => hlt ⟨hl1, h⟩
        clear hlt
        go_wp2_with fail
        refine (HM2.out _).mono ?_
        rintro e w4 ⟨rfl, hb⟩
        have HT4 := Lib.hid (HTK.out.next hb)
        clear hb c0' c1 c2
        go_wp2_with fail
        refine (lives_any _).mono ?_
        rintro e w5 ⟨rfl, hb⟩
        have HT5 := Lib.hid (HT4.out.next hb)
        clear hb
        go_wp2
        go_ret
        exact ⟨rfl, HT5.out.below⟩
      · clear hlt
        go_wp2_with fail
        refine (HM2.out _).mono ?_
        rintro e w4 ⟨rfl, hb⟩
        have HT4 := Lib.hid (HTK.out.next hb)
        clear hb c0' c1 c2
        go_wp2_with fail
        refine (lives_any _).mono ?_
        rintro e w5 ⟨rfl, hb⟩
        have HT5 := Lib.hid (HT4.out.next hb)
        clear hb
        go_wp2
        go_ret
        exact ⟨rfl, HT5.out.below⟩
end Go.Proofs.Ytjiclgebhndljaa
