/- Layer 11: ZonesSome. -/
import Derived.Test.YthblblkifkndiaaZoneLaw
import Derived.Deep.QuietTactic
import Derived.BigQuiet
namespace Go.Proofs.Ythblblkifkndiaa
open Go.RowKit
/-- Whether one of the endpoints is well. -/
def anyWell (l : List En) (ws : List Int) : Bool := l.any (fun e => decide (e.id ∈ ws))
theorem anyWell_step {l : List En} {ws : List Int} {q : Nat} {y : En} (h : l[q]? = some y) : anyWell (l.take (q + 1)) ws = (anyWell (l.take q) ws || decide (y.id ∈ ws)) := by
  unfold anyWell
  rw [List.take_add_one, h]
  simp
theorem anyWell_iff (l : List En) (ws : List Int) : anyWell l ws = true ↔ ∃ e ∈ l, e.id ∈ ws := by simp [anyWell]
theorem ids_some {l : List En} {f : En → Bool} {s : List Int} (hs : IsIds l f s) : 0 < s.length ↔ ∃ e ∈ l, f e = true := by
  rw [ids_len hs]
  exact List.countP_pos_iff
theorem fit_all {l : List En} {ws : List Int} {z p d : Int} (hp : panicOf l ws p = true) : l.countP (fitOf l ws z p d) = l.length := by
  rw [fit_panic hp]
  simp
theorem some_law {l : List En} {ws : List Int} {z p d : Int} {s : List Int} (hs : IsIds l (fitOf l ws z p d) s) (hd0 : 0 ≤ d) (hd1 : d < 100) :
    (anyWell l ws = true → 0 < s.length) ∧ (panicOf l ws p = true → s.length = l.length) ∧ (anyWell l ws = false → panicOf l ws p = false → s.length = 0) := by
  refine ⟨fun h => ?_, fun h => ?_, fun h hp => ?_⟩
  · obtain ⟨e, he, hw⟩ := (anyWell_iff l ws).1 h
    cases hp : panicOf l ws p with
    | true =>
      rw [ids_len hs, fit_all hp]
      exact List.length_pos_of_mem he
    | false => exact (ids_some hs).2 ((fit_some hd0 hd1 hp).2 ⟨e, he, hw⟩)
  · rw [ids_len hs, fit_all h]
  · refine Nat.eq_zero_of_not_pos (fun hpos => ?_)
    have := (fit_some hd0 hd1 hp).1 ((ids_some hs).1 hpos)
    rw [(anyWell_iff l ws).2 this] at h
    cases h
theorem fit_well {l : List En} {ws : List Int} {z p d : Int} {s : List Int} (hs : IsIds l (fitOf l ws z p d) s) (hp : panicOf l ws p = false) {x : Int} (hx : x ∈ s) : x ∈ ws := by
  obtain ⟨e, -, hf, rfl⟩ := (ids_mem hs x).1 hx
  unfold fitOf at hf
  rw [hp] at hf
  simp only [Bool.false_eq_true, if_false, Bool.and_eq_true, decide_eq_true_eq] at hf
  exact hf.1
set_option maxRecDepth 100000 in
set_option maxHeartbeats 4000000 in
theorem some_walk (a b : Value) (zs ys : List Int) (zone p d : Int) (w : World) (h1 : IntsIn w a zs) (h2 : IntsIn w b ys) (z0 : -9223372036854775808 ≤ zone) (z1 : zone ≤ 9223372036854775807) (p0 : -9223372036854775808 ≤ p) (p1 : p ≤ 9223372036854775807) (d0 : -9223372036854775808 ≤ d) (d1 : d ≤ 9223372036854775807) :
    Calls Try.prog 4 #[a, b, .int .i64 zone, .int .i64 p, .int .i64 d] w (TruePost w) := by
  have C1 := Lib.hid (ends_any a zs w h1)
  have H2 := Lib.hid h2
  have CP := Lib.hid (fun w => around_any p 101 w p0 p1 (by omega))
  have CD := Lib.hid (fun w => around_any d 100 w d0 d1 (by omega))
  have CZ := Lib.hid (fun w => around_any zone 4 w z0 z1 (by omega))
  have hp0 := around_nonneg p 101 (by omega)
  have hp1 := around_lt p 101 (by omega)
  have hd0 := around_nonneg d 100 (by omega)
  have hd1 := around_lt d 100 (by omega)
  obtain ⟨P, hP⟩ : ∃ P, around p 101 = P := ⟨_, rfl⟩
  obtain ⟨D, hD⟩ : ∃ D, around d 100 = D := ⟨_, rfl⟩
  obtain ⟨Z, hZ⟩ : ∃ Z, around zone 4 = Z := ⟨_, rfl⟩
  rw [hP] at CP hp0 hp1
  rw [hD] at CD hd0 hd1
  rw [hZ] at CZ
  obtain ⟨a1, c1, rfl, -⟩ : ∃ a1 c1, a = .slice a1 zs.length c1 ∧ True := by obtain ⟨x, y, h, -⟩ := h1; exact ⟨x, y, h, trivial⟩
  obtain ⟨a2, c2, rfl, -⟩ : ∃ a1 c1, b = .slice a1 ys.length c1 ∧ True := by obtain ⟨x, y, h, -⟩ := h2; exact ⟨x, y, h, trivial⟩
  have HD := Lib.hid (And.intro hd0 hd1)
  clear h1 h2 p0 p1 d0 d1 z0 z1 hP hD hZ hd0 hd1
  go_enter Try.func4, Try.ntmps4
  go_wp2_with fail
  refine C1.out.mono ?_
  rintro e w1 ⟨ev, es, rfl, ho1, hb1, hok1⟩
  have C2 := Lib.hid (well_any _ ys w1 (H2.out.keep (Upd.ofBelow hb1) (by simp)))
  have HE := Lib.hid (And.intro ho1 (And.intro hb1 hok1))
  obtain ⟨e1, e2, rfl⟩ := (show EIn w1 ev es from ⟨ho1.isIn (by have := hok1.len; omega), hok1.nodup, fun e he => by have := hok1.r e he; omega, by have := hok1.len; omega⟩).shape
  clear ho1 hb1 hok1 C1 H2
  go_wp2_with fail
  refine C2.out.mono ?_
  rintro e w2 ⟨wv, ws, rfl, ho2, hb2, hok2⟩
  have HZ := Lib.hid (zw_start HE.out.1 HE.out.2.1 HE.out.2.2 ho2 hb2 hok2)
  obtain ⟨e3, e4, rfl⟩ := own_len ho2
  clear ho2 hb2 hok2 C2 HE
  go_wp2_with fail
  refine (CP.out _).mono ?_
  rintro e w3 ⟨rfl, rfl⟩
  go_wp2_with fail
  refine (CZ.out _).mono ?_
  rintro e w3 ⟨rfl, rfl⟩
  go_wp2_with fail
  refine (CD.out _).mono ?_
  rintro e w3 ⟨rfl, rfl⟩
  clear CP CD CZ
  have C5 := Lib.hid (HZ.out.among Z P D hp0 (by omega))
  go_wp2_with fail
  refine C5.out.mono ?_
  rintro e w5 ⟨v5, s, rfl, hs5, ho5, hz5, -⟩
  have HS := Lib.hid (And.intro hs5 (And.intro (ho5.isIn (hz5.e.idsI hs5).1) (hz5.e.idsI hs5).2))
  have HZ5 := Lib.hid hz5
  obtain ⟨e5, e6, rfl⟩ := own_len ho5
  clear hs5 ho5 hz5 C5 HZ
  obtain ⟨N, hN⟩ : ∃ N, es.length = N := ⟨_, rfl⟩
  obtain ⟨S, hS⟩ : ∃ S, s.length = S := ⟨_, rfl⟩
  have HN := Lib.hid (And.intro hN hS)
  have hSl : (S : Int) ≤ 100 := by have := HS.out.2.2; omega
  have hNl : (N : Int) ≤ 100 := by have := HZ5.out.e.len; omega
  rw [hN] at HZ5
  rw [hS] at HS
  rw [hN, hS]
  clear hN hS
  have CH := Lib.hid (fun (n : Int) (wx : World) (hu : Upd [] w5 wx) => has_any _ ws n wx (HZ5.out.v.m.keep hu (by simp)) (by have := HZ5.out.v.len; omega))
  go_wp2_with fail
  go_loopw [16, 17] (fun f i wr => ∃ q : Nat, q ≤ N ∧ i = .int .i64 q ∧ f = .bool (anyWell (es.take q) ws) ∧ w5 = wr) (fun _ i _ => N - (intOf i).toNat)
  case atStart => exact ⟨0, by omega, rfl, rfl, rfl⟩
  case round =>
    obtain ⟨q, hq, rfl, rfl, rfl⟩ := hrel
    by_cases hqn : q < N
    · obtain ⟨y, hy⟩ : ∃ y, es[q]? = some y := ⟨es[q]'(by rw [HN.out.1]; exact hqn), by simp [HN.out.1, hqn]⟩
      have hst := anyWell_step (ws := ws) hy
      obtain ⟨g, off, rfl, hc⟩ : ∃ g off, e1 = some ⟨g, off, none⟩ ∧ w5.cell? ⟨g, off + q * 3, none⟩ = some (.int .i64 y.id) := by
        obtain ⟨a, cp, hv, -, hdata⟩ := HZ5.out.e.m
        rw [HN.out.1] at hv
        cases hv
        rcases hdata with h | ⟨b, off, ha, -, hc⟩
        · rw [h] at hy; simp at hy
        · exact ⟨b, off, ha, hc q y hy 0 _ rfl⟩
      have q0 : (0 : Int) ≤ q := by omega
      have q1 : (q : Int) < N := by omega
      obtain ⟨B, hB⟩ : ∃ B, anyWell (es.take q) ws = B := ⟨_, rfl⟩
      rw [hB] at hst ⊢
      obtain ⟨B', hB'⟩ : ∃ B', anyWell (es.take (q + 1)) ws = B' := ⟨_, rfl⟩
      have HB' := Lib.hid hB'
      rw [hB'] at hst
      clear hB hB' hy hqn
      cases B with
      | true =>
        rw [Bool.true_or] at hst
        subst hst
        go_wp2_with fail
        go_roundw
        case rel => exact ⟨q + 1, by omega, by go_num, by rw [HB'.out], trivial⟩
        case measure => simp [intOf] <;> omega
      | false =>
        rw [Bool.false_or] at hst
        obtain ⟨yi, hyi⟩ : ∃ yi, y.id = yi := ⟨_, rfl⟩
        rw [hyi] at hst hc
        subst hst
        clear hyi
        have C6 := Lib.hid (CH.out yi w5 (Upd.refl _ _))
        go_wp2_with fail
        refine C6.out.mono ?_
        rintro e w6 ⟨rfl, rfl⟩
        go_wp2_with fail
        go_roundw
        case rel => exact ⟨q + 1, by omega, by go_num, by rw [HB'.out], trivial⟩
        case measure => simp [intOf] <;> omega
    · obtain rfl : q = N := by omega
      clear hqn
      have hsome := some_law HS.out.1 HD.out.1 HD.out.2
      rw [show es.take q = es by rw [← HN.out.1, List.take_length]]
      have C6 := Lib.hid (HZ5.out.panic P hp0 (by omega))
      have HW := Lib.hid (fun (hp : panicOf es ws P = false) (x : Int) (hx : x ∈ s) => fit_well HS.out.1 hp hx)
      have HLT := Lib.hid (ids_nodup HS.out.1 HZ5.out.e.nodup)
      obtain ⟨B, hB⟩ : ∃ B, anyWell es ws = B := ⟨_, rfl⟩
      obtain ⟨PB, hPB⟩ : ∃ PB, panicOf es ws P = PB := ⟨_, rfl⟩
      rw [hPB] at C6 HW hsome
      rw [hB] at hsome
      rw [hB]
      rw [HN.out.1, HN.out.2] at hsome
      have HSO := Lib.hid hsome
      clear hB hPB hsome
      go_wp2_with fail
      refine C6.out.mono ?_
      rintro e w6 ⟨rfl, hz6, hb6⟩
      have HB6 := Lib.hid (And.intro hz6.bel hb6)
      have HU0 : Hid (Upd [] w6 w6) := Lib.hid (Upd.refl _ _)
      clear hz6 hb6 C6
      go_wp2_with fail
      go_loopw [19] (fun i wr => ∃ k : Nat, k ≤ S ∧ i = .int .i64 k ∧ Hid (Upd [] w6 wr)) (fun i _ => S - (intOf i).toNat)
      case atStart => exact ⟨0, by omega, rfl, HU0⟩
      case round =>
        obtain ⟨k, hk, rfl, HU⟩ := hrel
        clear HU0
        have HB6' : Hid (Below w.heap.size w wr) := Lib.hid (HB6.out.1.trans (HU.out.below HB6.out.1.size (by simp)))
        by_cases hkS : k < S
        · have hu5 : ∀ m, Upd [] w5 (wr.drewN m) := fun m => ((Upd.ofBelow HB6.out.2).trans HU.out).trans (Upd.drewN [] wr m)
          have HU5 := Lib.hid hu5
          obtain ⟨g, off, rfl, hc⟩ : ∃ g off, e5 = some ⟨g, off, none⟩ ∧ ∀ j : Nat, j < S → w5.cell? ⟨g, off + j, none⟩ = some (.int .i64 (s.getD j 0)) := by
            obtain ⟨a, cp, hv, -, -, hdata⟩ := HS.out.2.1
            rw [HN.out.2] at hv hdata
            cases hv
            rcases hdata with h | ⟨b, off, ha, hc⟩
            · have := HN.out.2; rw [h] at this; simp at this; omega
            · exact ⟨b, off, ha, hc⟩
          have x0 := (hu5 0).cell (hc k hkS) (by simp)
          rw [world_eta] at x0
          obtain ⟨x, hx⟩ : ∃ x, s.getD k 0 = x := ⟨_, rfl⟩
          have hxm : x ∈ s := by
            rw [← hx, List.getD, List.getElem?_eq_getElem (by rw [HN.out.2]; exact hkS)]
            exact List.getElem_mem _
          rw [hx] at x0
          have k0 : (0 : Int) ≤ k := by omega
          have k1 : (k : Int) < S := by omega
          have CHX := Lib.hid (fun m => CH.out x (wr.drewN m) (HU5.out m))
          have HU' : ∀ m, Hid (Upd [] w6 (wr.drewN m)) := fun m => Lib.hid (HU.out.trans (Upd.drewN [] wr m))
          rcases Nat.eq_zero_or_pos k with hk0 | hk0
          · subst hk0
            clear hc hx hu5 hkS
            simp only [Nat.add_zero] at x0
            cases PB with
            | true =>
              clear HW hxm
              go_wp2_with fail
              go_quiet (fail)
              go_wp2_with fail
              go_roundw
              case rel => exact ⟨1, by omega, by go_num, HU' _⟩
              case measure => simp [intOf] <;> omega
            | false =>
              have hin := HW.out rfl x hxm
              rw [show decide (x ∈ ws) = true by simpa using hin] at CHX
              clear HW hxm hin
              go_wp2_with fail
              go_quiet ((go_at_call 20; exact quietSame (CHX.out _)))
              go_wp2_with fail
              go_roundw
              case rel => exact ⟨1, by omega, by go_num, HU' _⟩
              case measure => simp [intOf] <;> omega
          · obtain ⟨j, hj⟩ : ∃ j : Nat, k = j + 1 := ⟨k - 1, by omega⟩
            have y0 := (hu5 0).cell (hc j (by omega)) (by simp)
            rw [world_eta] at y0
            obtain ⟨y, hy⟩ : ∃ y, s.getD j 0 = y := ⟨_, rfl⟩
            rw [hy] at y0
            have hyx : y < x := by
              have := List.pairwise_iff_getElem.1 HLT.out j k (by rw [HN.out.2]; omega) (by rw [HN.out.2]; omega) (by omega)
              rw [← hx, ← hy, List.getD, List.getD, List.getElem?_eq_getElem (by rw [HN.out.2]; omega), List.getElem?_eq_getElem (by rw [HN.out.2]; omega)]
              exact this
            have ewj : IntKind.i64.wrap ((k : Int) - 1) = (j : Int) := by rw [show (k : Int) - 1 = j by omega]; exact IntWalk.i64_in _ (by omega)
            have j0 : (0 : Int) ≤ j := by omega
            have j1 : (j : Int) < S := by omega
            have kp : (0 : Int) < k := by omega
            have hle : ¬ x ≤ y := by omega
            clear hc hx hy hu5 hkS hj hyx
            cases PB with
            | true =>
              clear HW hxm
              go_wp2_with fail
              go_quiet (fail)
              go_wp2_with fail
              go_roundw
              case rel => exact ⟨k + 1, by omega, by go_num, HU' _⟩
              case measure => simp [intOf] <;> omega
            | false =>
              have hin := HW.out rfl x hxm
              rw [show decide (x ∈ ws) = true by simpa using hin] at CHX
              clear HW hxm hin
              go_wp2_with fail
              go_quiet ((go_at_call 20; exact quietSame (CHX.out _)))
              go_wp2_with fail
              go_roundw
              case rel => exact ⟨k + 1, by omega, by go_num, HU' _⟩
              case measure => simp [intOf] <;> omega
        · obtain rfl : k = S := by omega
          clear hkS
          have HL : Hid (∀ wx, TruePost wr (.returned (.bool true)) wx → TruePost w (.returned (.bool true)) wx) := Lib.hid (fun wx h => ⟨h.1, HB6'.out.trans (h.2.mono HB6'.out.size)⟩)
          have hsome := HSO.out
          clear HB6 HB6' HU HSO
          cases B with
          | true =>
            have s0 := hsome.1 rfl
            have s1 : (0 : Int) < k := by omega
            clear hsome
            go_wp2_with fail
            refine (lives_any wr).mono ?_
            rintro e w7 ⟨rfl, hb7⟩
            have HF := Lib.hid (HL.out w7 ⟨rfl, hb7⟩)
            go_wp2_with fail
            go_ret
            exact HF.out
          | false =>
            cases PB with
            | true =>
              have s0 := hsome.2.1 rfl
              clear hsome
              subst s0
              rcases Nat.eq_zero_or_pos k with hk0 | hk0
              · subst hk0
                go_wp2_with fail
                refine (lives_any wr).mono ?_
                rintro e w7 ⟨rfl, hb7⟩
                have HF := Lib.hid (HL.out w7 ⟨rfl, hb7⟩)
                go_wp2_with fail
                go_ret
                exact HF.out
              · have s1 : (0 : Int) < k := by omega
                go_wp2_with fail
                refine (lives_any wr).mono ?_
                rintro e w7 ⟨rfl, hb7⟩
                have HF := Lib.hid (HL.out w7 ⟨rfl, hb7⟩)
                go_wp2_with fail
                go_ret
                exact HF.out
            | false =>
              have s0 := hsome.2.2 rfl rfl
              clear hsome
              subst s0
              go_wp2_with fail
              refine (lives_any wr).mono ?_
              rintro e w7 ⟨rfl, hb7⟩
              have HF := Lib.hid (HL.out w7 ⟨rfl, hb7⟩)
              go_wp2_with fail
              go_ret
              exact HF.out
end Go.Proofs.Ythblblkifkndiaa
