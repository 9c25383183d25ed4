/- Layer 11: ZonesShare. -/
import Derived.Test.YthblblkifkndiaaZoneLaw
import Derived.Deep.QuietTactic
import Derived.BigQuiet
namespace Go.Proofs.Ythblblkifkndiaa
open Go.RowKit
/-- An endpoint that is the first that is told, and is here. -/
def isFirst (s : List Int) (z : Int) (e : En) : Bool := match s with | [] => false | a :: _ => decide (e.id = a) && decide (e.zone = z)
theorem first_step {l : List En} {s : List Int} {z : Int} {q : Nat} {y : En} (h : l[q]? = some y) : (l.take (q + 1)).countP (isFirst s z) = (l.take q).countP (isFirst s z) + (if isFirst s z y then 1 else 0) := by
  rw [List.take_add_one, h]
  simp [List.countP_append, List.countP_cons]
theorem first_count {l : List En} {ws : List Int} {z d : Int} {s : List Int} (hd : (l.map En.id).Nodup) (hs : IsIds l (fitOf l ws z 0 d) s) (hd0 : 0 ≤ d) (hd1 : d < 100) : l.countP (isFirst s z) = if d < homeOf l ws z then 1 else 0 := share_one hd hs hd0 hd1
set_option maxRecDepth 100000 in
set_option maxHeartbeats 4000000 in
theorem share_walk (a b : Value) (zs ys : List Int) (zone : Int) (w : World) (h1 : IntsIn w a zs) (h2 : IntsIn w b ys) (z0 : -9223372036854775808 ≤ zone) (z1 : zone ≤ 9223372036854775807) :
    Calls Try.prog 5 #[a, b, .int .i64 zone] w (TruePost w) := by
  have C1 := Lib.hid (ends_any a zs w h1)
  have H2 := Lib.hid h2
  have CZ := Lib.hid (fun w => around_any zone 4 w z0 z1 (by omega))
  obtain ⟨Z, hZ⟩ : ∃ Z, around zone 4 = Z := ⟨_, rfl⟩
  rw [hZ] at CZ
  obtain ⟨a1, c1, rfl, -⟩ : ∃ a1 c1, a = .slice a1 zs.length c1 ∧ True := by obtain ⟨x, y, h, -⟩ := h1; exact ⟨x, y, h, trivial⟩
  obtain ⟨a2, c2, rfl, -⟩ : ∃ a1 c1, b = .slice a1 ys.length c1 ∧ True := by obtain ⟨x, y, h, -⟩ := h2; exact ⟨x, y, h, trivial⟩
  clear h1 h2 z0 z1 hZ
  go_enter Try.func5, Try.ntmps5
  go_wp2_with fail
  refine C1.out.mono ?_
  rintro e w1 ⟨ev, es, rfl, ho1, hb1, hok1⟩
  have C2 := Lib.hid (well_any _ ys w1 (H2.out.keep (Upd.ofBelow hb1) (by simp)))
  have HE := Lib.hid (And.intro ho1 (And.intro hb1 hok1))
  obtain ⟨e1, e2, rfl⟩ := (show EIn w1 ev es from ⟨ho1.isIn (by have := hok1.len; omega), hok1.nodup, fun e he => by have := hok1.r e he; omega, by have := hok1.len; omega⟩).shape
  clear ho1 hb1 hok1 C1 H2
  go_wp2_with fail
  refine C2.out.mono ?_
  rintro e w2 ⟨wv, ws, rfl, ho2, hb2, hok2⟩
  have HZ := Lib.hid (zw_start HE.out.1 HE.out.2.1 HE.out.2.2 ho2 hb2 hok2)
  obtain ⟨e3, e4, rfl⟩ := own_len ho2
  clear ho2 hb2 hok2 C2 HE
  go_wp2_with fail
  refine (CZ.out _).mono ?_
  rintro e w3 ⟨rfl, rfl⟩
  clear CZ
  have C5 := Lib.hid (HZ.out.home Z)
  have hr := home_range es ws Z
  obtain ⟨H, hH⟩ : ∃ H, homeOf es ws Z = H := ⟨_, rfl⟩
  have HH := Lib.hid hH
  rw [hH] at C5 hr
  obtain ⟨H0, H1⟩ := hr
  clear hH
  go_wp2_with fail
  refine C5.out.mono ?_
  rintro e w5 ⟨rfl, hz5, -⟩
  have HZ5 := Lib.hid hz5
  obtain ⟨N, hN⟩ : ∃ N, es.length = N := ⟨_, rfl⟩
  have HN := Lib.hid hN
  have hNl : (N : Int) ≤ 100 := by have := hz5.e.len; omega
  rw [hN] at HZ5
  rw [hN]
  clear hN
  clear hz5 C5 HZ
  go_wp2_with fail
  go_loopw [11, 12] (fun c i wr => ∃ t h : Nat, t ≤ 100 ∧ i = .int .i64 t ∧ c = .int .i64 h ∧ ((h : Int) = t ∧ (t : Int) ≤ H ∨ (h : Int) = H ∧ H < t) ∧ Hid (ZW w wr (.slice e1 N e2) es (.slice e3 ws.length e4) ws)) (fun _ i _ => 100 - (intOf i).toNat)
  case atStart => exact ⟨0, 0, by omega, rfl, rfl, by omega, HZ5⟩
  case round =>
    obtain ⟨t, h, ht, rfl, rfl, hsum, HI⟩ := hrel
    clear HZ5
    by_cases ht9 : t < 100
    · have t0 : (0 : Int) ≤ t := by omega
      have t1 : (t : Int) < 100 := by omega
      clear ht9
      go_upto_block 1 with fail
      go_cut [11] (fun cv wx => ∃ g : Nat, cv = .int .i64 g ∧ (((g : Int) = (t + 1 : Nat) ∧ ((t + 1 : Nat) : Int) ≤ H) ∨ ((g : Int) = H ∧ H < (t + 1 : Nat))) ∧ Hid (ZW w wx (.slice e1 N e2) es (.slice e3 ws.length e4) ws))
      case first =>
        have C6 := Lib.hid (HI.out.among Z 0 t (by omega) (by omega))
        go_wp2_with fail
        refine C6.out.mono ?_
        rintro e w6 ⟨v6, s, rfl, hs6, ho6, hz6, -⟩
        have HS := Lib.hid (And.intro hs6 (And.intro (ho6.isIn (hz6.e.idsI hs6).1) (hz6.e.idsI hs6).2))
        have HZ6 := Lib.hid hz6
        obtain ⟨e5, e6, rfl⟩ := own_len ho6
        clear hs6 ho6 hz6 C6 HI
        have HC := Lib.hid (first_count HZ6.out.e.nodup HS.out.1 t0 t1)
        rw [HH.out] at HC
        have HU0 : Hid (Upd [] w6 w6 ∧ h = h + (es.take 0).countP (isFirst s Z)) := Lib.hid ⟨Upd.refl _ _, rfl⟩
        go_wp2_with fail
        go_loopw [11, 14] (fun c i wr => ∃ q g : Nat, q ≤ N ∧ g ≤ h + q ∧ i = .int .i64 q ∧ c = .int .i64 g ∧ Hid (Upd [] w6 wr ∧ g = h + (es.take q).countP (isFirst s Z))) (fun _ i _ => N - (intOf i).toNat)
        case atStart => exact ⟨0, h, by omega, by omega, rfl, rfl, HU0⟩
        case round =>
          obtain ⟨q, g, hq, hgq, rfl, rfl, HU⟩ := hrel
          clear HU0
          by_cases hqn : q < N
          · obtain ⟨y, hy⟩ : ∃ y, es[q]? = some y := ⟨es[q]'(by rw [HN.out]; exact hqn), by simp [HN.out, hqn]⟩
            have hst := first_step (s := s) (z := Z) hy
            have hg := HU.out.2
            obtain ⟨gb, off, rfl, hc⟩ : ∃ g off, e1 = some ⟨g, off, none⟩ ∧ ∀ (c : Nat) (u : Value), y.cells[c]? = some u → w6.cell? ⟨g, off + q * 3 + c, none⟩ = some u := by
              obtain ⟨a, cp, hv, -, hdata⟩ := HZ6.out.e.m
              rw [HN.out] at hv
              cases hv
              rcases hdata with h | ⟨b, off, ha, -, hc⟩
              · rw [h] at hy; simp at hy
              · exact ⟨b, off, ha, hc q y hy⟩
            have x0 : wr.cell? ⟨gb, off + q * 3, none⟩ = some (.int .i64 y.id) := HU.out.1.cell (hc 0 _ rfl) (by simp)
            have x2 : wr.cell? ⟨gb, off + q * 3 + 2, none⟩ = some (.int .i64 y.zone) := HU.out.1.cell (hc 2 _ rfl) (by simp)
            have q0 : (0 : Int) ≤ q := by omega
            have q1 : (q : Int) < N := by omega
            obtain ⟨yi, hyi⟩ : ∃ yi, y.id = yi := ⟨_, rfl⟩
            obtain ⟨yz, hyz⟩ : ∃ yz, y.zone = yz := ⟨_, rfl⟩
            cases s with
            | nil =>
              have HU' : ∀ m, Hid (Upd [] w6 (wr.drewN m) ∧ g = h + (es.take (q + 1)).countP (isFirst [] Z)) := fun m => Lib.hid ⟨HU.out.1.trans (Upd.drewN [] wr m), by rw [hst, hg]; rfl⟩
              rw [hyi] at x0
              rw [hyz] at x2
              clear hst hg hc hy hyi hyz hqn
              go_wp2_with fail
              go_quiet (fail)
              go_wp2_with fail
              go_roundw
              case rel => exact ⟨q + 1, g, by omega, by omega, by go_num, rfl, HU' _⟩
              case measure => simp [intOf] <;> omega
            | cons a t' =>
              obtain ⟨ab, aoff, rfl, ac⟩ : ∃ g off, e5 = some ⟨g, off, none⟩ ∧ w6.cell? ⟨g, off, none⟩ = some (.int .i64 a) := by
                obtain ⟨x, cp, hv, -, -, hdata⟩ := HS.out.2.1
                cases hv
                rcases hdata with h | ⟨b, off, ha, hcc⟩
                · simp at h
                · exact ⟨b, off, ha, hcc 0 (by simp)⟩
              have ac' := HU.out.1.cell ac (by simp)
              obtain ⟨S, hS⟩ : ∃ S, (a :: t').length = S := ⟨_, rfl⟩
              have s0 : 0 < S := by rw [← hS]; simp
              rw [hS]
              by_cases hya : yi = a
              · by_cases hyZ : yz = Z
                · have HU' : ∀ m, Hid (Upd [] w6 (wr.drewN m) ∧ g + 1 = h + (es.take (q + 1)).countP (isFirst (a :: t') Z)) := fun m => Lib.hid ⟨HU.out.1.trans (Upd.drewN [] wr m), by rw [hst, hg, show isFirst (a :: t') Z y = true by simp [isFirst, hyi, hyz, hya, hyZ]]; rfl⟩
                  rw [hyi] at x0
                  rw [hyz] at x2
                  clear hst hg hc hy hyi hyz hqn ac hS
                  go_wp2_with fail
                  go_quiet (fail)
                  go_wp2_with fail
                  go_roundw
                  case rel => exact ⟨q + 1, g + 1, by omega, by omega, by go_num, by go_num, HU' _⟩
                  case measure => simp [intOf] <;> omega
                · have HU' : ∀ m, Hid (Upd [] w6 (wr.drewN m) ∧ g = h + (es.take (q + 1)).countP (isFirst (a :: t') Z)) := fun m => Lib.hid ⟨HU.out.1.trans (Upd.drewN [] wr m), by rw [hst, hg, show isFirst (a :: t') Z y = false by simp [isFirst, hyz, hyZ]]; rfl⟩
                  rw [hyi] at x0
                  rw [hyz] at x2
                  clear hst hg hc hy hyi hyz hqn ac hS
                  go_wp2_with fail
                  go_quiet (fail)
                  go_wp2_with fail
                  go_roundw
                  case rel => exact ⟨q + 1, g, by omega, by omega, by go_num, rfl, HU' _⟩
                  case measure => simp [intOf] <;> omega
              · have HU' : ∀ m, Hid (Upd [] w6 (wr.drewN m) ∧ g = h + (es.take (q + 1)).countP (isFirst (a :: t') Z)) := fun m => Lib.hid ⟨HU.out.1.trans (Upd.drewN [] wr m), by rw [hst, hg, show isFirst (a :: t') Z y = false by simp [isFirst, hyi, hya]]; rfl⟩
                rw [hyi] at x0
                rw [hyz] at x2
                clear hst hg hc hy hyi hyz hqn ac hS
                go_wp2_with fail
                go_quiet (fail)
                go_wp2_with fail
                go_roundw
                case rel => exact ⟨q + 1, g, by omega, by omega, by go_num, rfl, HU' _⟩
                case measure => simp [intOf] <;> omega
          · obtain rfl : q = N := by omega
            clear hqn
            have hg := HU.out.2
            rw [show es.take q = es by rw [← HN.out, List.take_length], HC.out] at hg
            have hsum' : ((g : Int) = (t + 1 : Nat) ∧ ((t + 1 : Nat) : Int) ≤ H) ∨ ((g : Int) = H ∧ H < (t + 1 : Nat)) := by
              by_cases htH : (t : Int) < H
              · rw [if_pos htH] at hg; omega
              · rw [if_neg htH] at hg; omega
            have HZ7 : Hid (ZW w wr (.slice e1 q e2) es (.slice e3 ws.length e4) ws) := Lib.hid (HZ6.out.upd HU.out.1)
            clear hg HC HU HS HZ6
            go_wp2_with fail
            go_meet
            exact ⟨g, rfl, hsum', HZ7⟩
      case rest =>
        obtain ⟨g, rfl, hsum', HZ7⟩ := hcut
        clear hsum HI
        go_wp2_with fail
        go_roundw
        case rel => exact ⟨t + 1, g, by omega, by go_num, rfl, hsum', HZ7⟩
        case measure => simp [intOf] <;> omega
    · obtain rfl : t = 100 := by omega
      obtain rfl : H = (h : Int) := by omega
      have HB := Lib.hid HI.out.bel
      clear ht9 HI hsum
      go_wp2_with fail
      refine (lives_any wr).mono ?_
      rintro e w7 ⟨rfl, hb7⟩
      have HF : Hid (TruePost w (.returned (.bool true)) w7) := Lib.hid ⟨rfl, HB.out.trans (hb7.mono HB.out.size)⟩
      clear hb7 HB
      go_wp2_with fail
      go_ret
      exact HF.out
end Go.Proofs.Ythblblkifkndiaa
