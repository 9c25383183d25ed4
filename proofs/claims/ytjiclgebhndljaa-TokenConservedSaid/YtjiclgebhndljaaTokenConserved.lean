/- Layer 19: the walk of TokenConserved. -/
import Derived.Test.YtjiclgebhndljaaTokenD
import Derived.Deep.RegionHeld3
namespace Go.Proofs.Ytjiclgebhndljaa
open Go.RowKit
/-- What stays in a region that asks a bucket and makes memory: the budget's cells, the bundle. -/
theorem Tk.held {w W : World} {X b : Nat} {p o B x : Int} (h : Tk w W X b p o B x) : W.cell? ⟨X, 0, none⟩ = some (.int .i64 p) ∧ W.cell? ⟨X, 1, none⟩ = some (.int .i64 o) ∧ W.cell? ⟨X, 2, none⟩ = some (.int .i64 B) ∧ Hid (Tk w W X b p o B x) := by
  have hbud := h.bud
  exact ⟨BlockAt.cell (w := W) hbud 0 _ rfl, BlockAt.cell (w := W) hbud 1 _ rfl, BlockAt.cell (w := W) hbud 2 _ rfl, h⟩
theorem Tk.drewN {w W : World} {X b : Nat} {p o B x : Int} (h : Tk w W X b p o B x) (n : Nat) : Tk w (W.drewN n) X b p o B x :=
  h.next (Upd.below (Upd.drewN [] W n) (Nat.le_refl _) (by simp))
theorem Tk.drew {w W : World} {X b : Nat} {p o B x : Int} (h : Tk w W X b p o B x) : Tk w W.drew X b p o B x :=
  h.next (Upd.below (Upd.drew [] W) (Nat.le_refl _) (by simp))
theorem left_held {w W : World} {X b : Nat} {p o B x q : Int} (o0 : 1 ≤ o) (o1 : o ≤ 100) (x0 : 0 ≤ x) (x1 : x ≤ 10000) (hq : x / o = q) (h : Hid (Tk w W X b p o B x)) :
    Calls Try.prog 20 #[.pointer (some ⟨b, 0, none⟩)] W fun e w' => e = .returned (.int .i64 q) ∧ w'.cell? ⟨X, 0, none⟩ = some (.int .i64 p) ∧ w'.cell? ⟨X, 1, none⟩ = some (.int .i64 o) ∧ w'.cell? ⟨X, 2, none⟩ = some (.int .i64 B) ∧ Hid (Tk w w' X b p o B x) := by
  subst hq
  refine (left_any b p o (B * o) x W h.out.tok o0 o1 x0 x1).mono ?_
  rintro e w' ⟨rfl, n, rfl⟩
  exact ⟨rfl, (h.out.drewN n).held⟩
theorem below_held {P : Program} {f : FuncId} {args : Array Value} {w W : World} {X b : Nat} {p o B x : Int} {v : Value} (hc : Calls P f args W fun e w' => e = .returned v ∧ Below W.heap.size W w') (h : Hid (Tk w W X b p o B x)) :
    Calls P f args W fun e w' => e = .returned v ∧ w'.cell? ⟨X, 0, none⟩ = some (.int .i64 p) ∧ w'.cell? ⟨X, 1, none⟩ = some (.int .i64 o) ∧ w'.cell? ⟨X, 2, none⟩ = some (.int .i64 B) ∧ Hid (Tk w w' X b p o B x) :=
  hc.mono fun _ _ ⟨he, hb⟩ => ⟨he, (h.out.next hb).held⟩
set_option maxHeartbeats 1000000 in
theorem conserved_walk (n : Int) (v : Value) (bs : List Bool) (w : World) (h1 : -9223372036854775808 ≤ n) (h2 : n ≤ 9223372036854775807) (hbs : BoolsIn w v bs) :
    Calls Try.prog 8 #[.int .i64 n, v] w (TruePost w) := by
  have hbs0 := hbs
  obtain ⟨sa, scap, rfl, hlen, -⟩ := hbs0
  have HBS := Lib.hid hbs
  clear hbs
  go_enter Try.func8, Try.ntmps8
  go_wp2_with fail
  refine (budget_any n _ h1 h2).mono ?_
  rintro e w1 ⟨⟨P, o, B, rfl, hok⟩, hb1⟩
  obtain ⟨q0, q1, o0, o1, b0, b1⟩ := hok
  have hok : BudOk P o B := ⟨q0, q1, o0, o1, b0, b1⟩
  have HN := Lib.hid (fun w => newTok_any P o B hok w)
  have HM := Lib.hid (fun w c h0 h1 => most_any P o B c hok w h0 h1)
  have hbud : BudAt (w1.alloc (.cells #[.int .i64 P, .int .i64 o, .int .i64 B] 24)) w1.heap.size P o B := BlockAt.new w1 24 [.int .i64 P, .int .i64 o, .int .i64 B]
  have hbw : Below w.heap.size w (w1.alloc (.cells #[.int .i64 P, .int .i64 o, .int .i64 B] 24)) := hb1.alloc hb1.size _
  have hXw := hb1.size
  have HBUD := Lib.hid hbud
  have HBW := Lib.hid hbw
  have hm1 : B * o ≤ 100 * 100 := Int.mul_le_mul b1 o1 (by omega) (by omega)
  have hm0 : 0 ≤ B * o := Int.mul_nonneg (by omega) (by omega)
  have HMB := Lib.hid (And.intro hm0 hm1)
  unfold bud at HN HM ⊢
  clear hb1 hbud hbw hok hm0 hm1
  go_wp2_with fail
  refine (HN.out _).mono ?_
  rintro e w2 ⟨rfl, ht, hb⟩
  have HT := Lib.hid (show Tk w w2 w1.heap.size ((w1.alloc (.cells #[.int .i64 P, .int .i64 o, .int .i64 B] 24)).heap.size + 1) P o B (B * o) from
    ⟨HBUD.out.keep (Upd.ofBelow hb) (by simp), ht, HBW.out.trans (hb.mono HBW.out.size), hXw, by have := HBW.out.size; omega, by simp; omega⟩)
  obtain ⟨X, hX⟩ : ∃ X, w1.heap.size = X := ⟨_, rfl⟩
  obtain ⟨b, hbe⟩ : ∃ b, (w1.alloc (.cells #[.int .i64 P, .int .i64 o, .int .i64 B] 24)).heap.size + 1 = b := ⟨_, rfl⟩
  rw [hX, hbe] at HT
  rw [hbe]
  have HX := Lib.hid hX
  clear ht hb hbe HBUD HBW hXw HN
  go_wp2_with fail
  have HST := Lib.hid (Cons.start P o B HMB.out.1)
  go_loopw [7, 8, 9] (fun c t i wr => ∃ (C T x : Int) (j : Nat), j ≤ bs.length ∧ j ≤ 100 ∧ c = .int .i64 C ∧ t = .int .i64 T ∧ i = .int .i64 j ∧ C ≤ j ∧ T ≤ j ∧ Hid (Cons P o B T C x) ∧ Hid (Tk w wr X b P o B x)) (fun _ _ i _ => 100 - (intOf i).toNat)
  case atStart => exact ⟨0, 0, B * o, 0, by omega, by omega, rfl, rfl, rfl, by omega, by omega, HST, HT⟩
  case round =>
    obtain ⟨C, T, x, j, hj, hj80, rfl, rfl, rfl, hCj, hTj, HC, HTK⟩ := hrel
    clear HST HT
    have x0 := HC.out.low
    have x1 : x ≤ 10000 := by have := HC.out.high; have := HMB.out; omega
    have t0 := HC.out.t0
    have c0 := HC.out.c0
    by_cases hlt : j < bs.length ∧ j < 100
    · obtain ⟨hlt1, hlt2⟩ := hlt
      obtain ⟨y, hy⟩ : ∃ y, bs[j]? = some y := ⟨bs[j], by simp [hlt1]⟩
      obtain ⟨g, off, rfl, hcell⟩ := (HBS.out.keep (Upd.ofBelow HTK.out.below) (by simp)).cell hy
      clear hy
      cases y with
      | true =>
        have HC2 := Lib.hid (HC.out.fresh q0)
        go_wp2_with fail
        refine (fresh_to b P o (B * o) x (min (x + P) (B * o)) _ HTK.out.tok q0 q1 x0 x1 rfl).mono ?_
        rintro e w4 ⟨rfl, ht, hu⟩
        have HTK3 := Lib.hid (HTK.out.step hu ht)
        clear ht hu hcell x0 x1 HC HTK
        obtain ⟨x2, hx2⟩ : ∃ x2, min (x + P) (B * o) = x2 := ⟨_, rfl⟩
        rw [hx2] at HC2 HTK3
        clear hx2
        go_wp2_with fail
        obtain ⟨C2, hC2⟩ : ∃ C2, C + 1 = C2 := ⟨_, rfl⟩
        rw [hC2] at HC2 ⊢
        have g1 : C2 ≤ j + 1 := by omega
        have g2 : T ≤ j + 1 := by omega
        clear hC2 hCj hTj
        have k0 := HC2.out.low
        have k1 : x2 ≤ 10000 := by have := HC2.out.high; have := HMB.out; omega
        have k2 := HC2.out.t0
        have k3 := HC2.out.c0
        have hle := (HC2.out.most o0).1
        have z0 : 0 ≤ x2 / o := Int.ediv_nonneg k0 (by omega)
        have z1 : x2 / o ≤ x2 := Int.ediv_le_self _ k0
        have HM2 := Lib.hid (fun w => HM.out w C2 k3 (by omega))
        obtain ⟨q, hq⟩ : ∃ q, x2 / o = q := ⟨_, rfl⟩
        obtain ⟨MO, hMO⟩ : ∃ M, mostOf P o B C2 = M := ⟨_, rfl⟩
        rw [hq] at hle z0 z1
        rw [hMO] at hle HM2
        have HLQ := Lib.hid (fun (W : World) (h : Hid (Tk w W X b P o B x2)) => left_held o0 o1 k0 k1 hq h)
        have HMQ := Lib.hid (fun (W : World) (h : Hid (Tk w W X b P o B x2)) => below_held (HM2.out W) h)
        have v1 : IntKind.i64.wrap (T + q) = T + q := IntWalk.i64_in _ (by omega)
        have v2 : decide (T + q > MO) = false := by simp; omega
        have v3 : decide (MO < T + q) = false := by simp; omega
        obtain ⟨d0, d1, d2, d3⟩ := HTK3.out.drew.held
        clear hq hMO HM2 hle
        go_region_held3 (fun W => W.cell? ⟨X, 0, none⟩ = some (.int .i64 P) ∧ W.cell? ⟨X, 1, none⟩ = some (.int .i64 o) ∧ W.cell? ⟨X, 2, none⟩ = some (.int .i64 B) ∧ Hid (Tk w W X b P o B x2))
          (first | go_keep | exact ⟨d0, d1, d2, d3⟩ | exact ⟨by assumption, by assumption, by assumption, by assumption⟩)
          (first
            | (go_at_call 15; refine (HMQ.out _ (by assumption)).mono ?_; rintro e w' ⟨rfl, e0, e1, e2, e3⟩)
            | (go_at_call 20; refine (HLQ.out _ (by assumption)).mono ?_; rintro e w' ⟨rfl, e0, e1, e2, e3⟩))
        all_goals go_wp2_with fail
        all_goals
          go_roundw
          case rel => exact ⟨C2, T, x2, j + 1, by omega, by omega, rfl, rfl, by go_num, by omega, by omega, HC2, by assumption⟩
          case measure => simp [intOf] <;> omega
      | false =>
        by_cases hx : o ≤ x
        · have HC2 := Lib.hid (HC.out.take (by omega) hx)
          go_wp2_with fail
          refine (take_hit b P o (B * o) x _ HTK.out.tok (by omega) o1 x0 x1 hx (x - o) rfl).mono ?_
          rintro e w4 ⟨rfl, ht, hu⟩
          have HTK3 := Lib.hid (HTK.out.step hu ht)
          clear ht hu hcell x0 x1 HC HTK
          obtain ⟨x2, hx2⟩ : ∃ x2, x - o = x2 := ⟨_, rfl⟩
          rw [hx2] at HC2 HTK3
          clear hx2
          go_wp2_with fail
          obtain ⟨T2, hT2⟩ : ∃ T2, T + 1 = T2 := ⟨_, rfl⟩
          rw [hT2] at HC2 ⊢
          have g1 : C ≤ j + 1 := by omega
          have g2 : T2 ≤ j + 1 := by omega
          clear hT2 hCj hTj
          have k0 := HC2.out.low
          have k1 : x2 ≤ 10000 := by have := HC2.out.high; have := HMB.out; omega
          have k2 := HC2.out.t0
          have k3 := HC2.out.c0
          have hle := (HC2.out.most o0).1
          have z0 : 0 ≤ x2 / o := Int.ediv_nonneg k0 (by omega)
          have z1 : x2 / o ≤ x2 := Int.ediv_le_self _ k0
          have HM2 := Lib.hid (fun w => HM.out w C k3 (by omega))
          obtain ⟨q, hq⟩ : ∃ q, x2 / o = q := ⟨_, rfl⟩
          obtain ⟨MO, hMO⟩ : ∃ M, mostOf P o B C = M := ⟨_, rfl⟩
          rw [hq] at hle z0 z1
          rw [hMO] at hle HM2
          have HLQ := Lib.hid (fun (W : World) (h : Hid (Tk w W X b P o B x2)) => left_held o0 o1 k0 k1 hq h)
          have HMQ := Lib.hid (fun (W : World) (h : Hid (Tk w W X b P o B x2)) => below_held (HM2.out W) h)
          have v1 : IntKind.i64.wrap (T2 + q) = T2 + q := IntWalk.i64_in _ (by omega)
          have v2 : decide (T2 + q > MO) = false := by simp; omega
          have v3 : decide (MO < T2 + q) = false := by simp; omega
          obtain ⟨d0, d1, d2, d3⟩ := HTK3.out.drew.held
          clear hq hMO HM2 hle
          go_region_held3 (fun W => W.cell? ⟨X, 0, none⟩ = some (.int .i64 P) ∧ W.cell? ⟨X, 1, none⟩ = some (.int .i64 o) ∧ W.cell? ⟨X, 2, none⟩ = some (.int .i64 B) ∧ Hid (Tk w W X b P o B x2))
            (first | go_keep | exact ⟨d0, d1, d2, d3⟩ | exact ⟨by assumption, by assumption, by assumption, by assumption⟩)
            (first
              | (go_at_call 15; refine (HMQ.out _ (by assumption)).mono ?_; rintro e w' ⟨rfl, e0, e1, e2, e3⟩)
              | (go_at_call 20; refine (HLQ.out _ (by assumption)).mono ?_; rintro e w' ⟨rfl, e0, e1, e2, e3⟩))
          all_goals go_wp2_with fail
          all_goals
            go_roundw
            case rel => exact ⟨C, T2, x2, j + 1, by omega, by omega, rfl, rfl, by go_num, by omega, by omega, HC2, by assumption⟩
            case measure => simp [intOf] <;> omega
        · have HC2 := HC
          go_wp2_with fail
          refine (take_miss b P o (B * o) x _ HTK.out.tok (by omega) o1 x0 x1 (by omega)).mono ?_
          rintro e w4 ⟨rfl, ht, hu⟩
          have HTK3 := Lib.hid (HTK.out.step hu ht)
          clear ht hu hcell HC HTK
          go_wp2_with fail
          have g1 : C ≤ j + 1 := by omega
          have g2 : T ≤ j + 1 := by omega
          clear hCj hTj
          have k0 := HC2.out.low
          have k1 : x ≤ 10000 := by have := HC2.out.high; have := HMB.out; omega
          have k2 := HC2.out.t0
          have k3 := HC2.out.c0
          have hle := (HC2.out.most o0).1
          have z0 : 0 ≤ x / o := Int.ediv_nonneg k0 (by omega)
          have z1 : x / o ≤ x := Int.ediv_le_self _ k0
          have HM2 := Lib.hid (fun w => HM.out w C k3 (by omega))
          obtain ⟨q, hq⟩ : ∃ q, x / o = q := ⟨_, rfl⟩
          obtain ⟨MO, hMO⟩ : ∃ M, mostOf P o B C = M := ⟨_, rfl⟩
          rw [hq] at hle z0 z1
          rw [hMO] at hle HM2
          have HLQ := Lib.hid (fun (W : World) (h : Hid (Tk w W X b P o B x)) => left_held o0 o1 k0 k1 hq h)
          have HMQ := Lib.hid (fun (W : World) (h : Hid (Tk w W X b P o B x)) => below_held (HM2.out W) h)
          have v1 : IntKind.i64.wrap (T + q) = T + q := IntWalk.i64_in _ (by omega)
          have v2 : decide (T + q > MO) = false := by simp; omega
          have v3 : decide (MO < T + q) = false := by simp; omega
          obtain ⟨d0, d1, d2, d3⟩ := HTK3.out.drew.held
          clear hq hMO HM2 hle
          go_region_held3 (fun W => W.cell? ⟨X, 0, none⟩ = some (.int .i64 P) ∧ W.cell? ⟨X, 1, none⟩ = some (.int .i64 o) ∧ W.cell? ⟨X, 2, none⟩ = some (.int .i64 B) ∧ Hid (Tk w W X b P o B x))
            (first | go_keep | exact ⟨d0, d1, d2, d3⟩ | exact ⟨by assumption, by assumption, by assumption, by assumption⟩)
            (first
              | (go_at_call 15; refine (HMQ.out _ (by assumption)).mono ?_; rintro e w' ⟨rfl, e0, e1, e2, e3⟩)
              | (go_at_call 20; refine (HLQ.out _ (by assumption)).mono ?_; rintro e w' ⟨rfl, e0, e1, e2, e3⟩))
          all_goals go_wp2_with fail
          all_goals
            go_roundw
            case rel => exact ⟨C, T, x, j + 1, by omega, by omega, rfl, rfl, by go_num, by omega, by omega, HC2, by assumption⟩
            case measure => simp [intOf] <;> omega
    · have HT4 := HTK
      by_cases hl1 : j < bs.length
      · have hl2 : ¬ j < 100 := fun h => hlt ⟨hl1, h⟩
        clear hlt
        go_wp2_with fail
        refine (lives_any _).mono ?_
        rintro e w5 ⟨rfl, hb⟩
        have HT5 := Lib.hid (HT4.out.next hb)
        clear hb
        go_wp2
        go_ret
        exact ⟨rfl, HT5.out.below⟩
      · clear hlt
        go_wp2_with fail
        refine (lives_any _).mono ?_
        rintro e w5 ⟨rfl, hb⟩
        have HT5 := Lib.hid (HT4.out.next hb)
        clear hb
        go_wp2
        go_ret
        exact ⟨rfl, HT5.out.below⟩
end Go.Proofs.Ytjiclgebhndljaa
