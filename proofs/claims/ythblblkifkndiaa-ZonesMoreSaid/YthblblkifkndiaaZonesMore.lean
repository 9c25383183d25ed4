/- Layer 11: ZonesMore. -/
import Derived.Test.YthblblkifkndiaaZoneRow
namespace Go.Proofs.Ythblblkifkndiaa
open Go.RowKit
theorem home_none {l : List En} {ws : List Int} {z x : Int} (h : ∀ e ∈ l, e.id ≠ x) : homeOf l (ws ++ [x]) z = homeOf l ws z := by
  have h1 : l.countP (isNear (ws ++ [x]) z) = l.countP (isNear ws z) := List.countP_congr (fun e he => by simp [isNear, h e he])
  have h2 : l.countP (isFar (ws ++ [x]) z) = l.countP (isFar ws z) := List.countP_congr (fun e he => by simp [isFar, h e he])
  unfold homeOf
  rw [h1, h2]
theorem same_id {l : List En} (hd : (l.map En.id).Nodup) {e x : En} (he : e ∈ l) (hx : x ∈ l) (h : e.id = x.id) : e = x := by
  obtain ⟨i, hi, rfl⟩ := List.getElem_of_mem he
  obtain ⟨j, hj, rfl⟩ := List.getElem_of_mem hx
  have hpw := List.pairwise_iff_getElem.1 hd
  have hij : i = j := by
    rcases Nat.lt_trichotomy i j with h' | h' | h'
    · exact absurd (by rw [List.getElem_map, List.getElem_map]; exact h) (hpw i j (by simpa using hi) (by simpa using hj) h')
    · exact h'
    · exact absurd (by rw [List.getElem_map, List.getElem_map]; exact h.symm) (hpw j i (by simpa using hj) (by simpa using hi) h')
  subst hij; rfl
set_option maxRecDepth 100000 in
set_option maxHeartbeats 4000000 in
theorem more_walk (a b : Value) (zs ys : List Int) (zone n p : Int) (w : World) (h1 : IntsIn w a zs) (h2 : IntsIn w b ys) (z0 : -9223372036854775808 ≤ zone) (z1 : zone ≤ 9223372036854775807) (n0 : -9223372036854775808 ≤ n) (n1 : n ≤ 9223372036854775807) (p0 : -9223372036854775808 ≤ p) (p1 : p ≤ 9223372036854775807) :
    Calls Try.prog 6 #[a, b, .int .i64 zone, .int .i64 n, .int .i64 p] w (TruePost w) := by
  have C1 := Lib.hid (ends_any a zs w h1)
  have H2 := Lib.hid h2
  have CP := Lib.hid (fun w => around_any p 101 w p0 p1 (by omega))
  have CZ := Lib.hid (fun w => around_any zone 4 w z0 z1 (by omega))
  have hp0 := around_nonneg p 101 (by omega)
  have hp1 := around_lt p 101 (by omega)
  obtain ⟨P, hP⟩ : ∃ P, around p 101 = P := ⟨_, rfl⟩
  obtain ⟨Z, hZ⟩ : ∃ Z, around zone 4 = Z := ⟨_, rfl⟩
  rw [hP] at CP hp0 hp1
  rw [hZ] at CZ
  obtain ⟨a1, c1, rfl, -⟩ : ∃ a1 c1, a = .slice a1 zs.length c1 ∧ True := by obtain ⟨x, y, h, -⟩ := h1; exact ⟨x, y, h, trivial⟩
  obtain ⟨a2, c2, rfl, -⟩ : ∃ a1 c1, b = .slice a1 ys.length c1 ∧ True := by obtain ⟨x, y, h, -⟩ := h2; exact ⟨x, y, h, trivial⟩
  clear h1 h2 p0 p1 z0 z1 hP hZ
  go_enter Try.func6, Try.ntmps6
  go_wp2_with fail
  refine C1.out.mono ?_
  rintro e w1 ⟨ev, es, rfl, ho1, hb1, hok1⟩
  have C2 := Lib.hid (well_any _ ys w1 (H2.out.keep (Upd.ofBelow hb1) (by simp)))
  have HE := Lib.hid (And.intro ho1 (And.intro hb1 hok1))
  obtain ⟨e1, e2, rfl⟩ := (show EIn w1 ev es from ⟨ho1.isIn (by have := hok1.len; omega), hok1.nodup, fun e he => by have := hok1.r e he; omega, by have := hok1.len; omega⟩).shape
  clear ho1 hb1 hok1 C1 H2
  go_wp2_with fail
  refine C2.out.mono ?_
  rintro e w2 ⟨wv, ws, rfl, ho2, hb2, hok2⟩
  have HZ := Lib.hid (zw_start HE.out.1 HE.out.2.1 HE.out.2.2 ho2 hb2 hok2)
  have HOK := Lib.hid (And.intro HE.out.2.2 hok2)
  obtain ⟨e3, e4, rfl, hrow⟩ := ho2.row
  have HROW := Lib.hid hrow
  have hwl : (ws.length : Int) ≤ 12 := hok2.len
  clear hrow
  clear ho2 hb2 hok2 C2 HE
  go_wp2_with fail
  refine (CZ.out _).mono ?_
  rintro e w3 ⟨rfl, rfl⟩
  go_wp2_with fail
  refine (CP.out _).mono ?_
  rintro e w3 ⟨rfl, rfl⟩
  clear CP CZ
  obtain ⟨N, hN⟩ : ∃ N, es.length = N := ⟨_, rfl⟩
  have HN := Lib.hid hN
  have hNl : (N : Int) ≤ 100 := by have := HZ.out.e.len; omega
  rw [hN] at HZ
  rw [hN]
  clear hN
  have HO1 := Lib.hid (OwnInts.fresh w2.heap.size w2 (Nat.le_refl _))
  have HR1 := Lib.hid (HROW.out.keep (Upd.alloc [] w2 (.cells #[] 3)) (by simp))
  have hsz1 : w2.heap.size ≤ (w2.alloc (.cells #[] 3)).heap.size := by simp
  go_wp2_with (at_builtin; refine wpList_append_view (w2.alloc (.cells #[] 3)) rfl (.tmp 26) (.tmp 27) 22 rfl w2.heap.size 3 1 8 Try.infoInt (by kernel_rfl) rfl (by decide) (.slice (some ⟨w2.heap.size, 0, none⟩) 0 0) 0 [] rfl HO1.out e3 ws.length e4 (ws.map (Value.int .i64)) rfl HR1.out (int_cells _ _) (by unfold maxLen; omega) (by omega) hsz1 ?_)
  intro v28 w28 hown28 hu28
  have ho28 : OwnInts w2.heap.size w28 v28 ws := OwnInts.of hown28 (by simp) (by simp)
  have hu28' : Upd [] w2 w28 := (Upd.alloc [] w2 _).trans' hu28 (fun i hi => by simp [Value.ownBlock] at hi; subst hi; exact .inr (Nat.le_refl _))
  have HO28 := Lib.hid ho28
  have HU28 := Lib.hid hu28'
  have hsz28 := hu28'.size
  clear hown28 hu28 ho28 hu28' HO1 HR1 hsz1
  go_wp2_with (at_builtin; refine wpList_append_one w28 rfl (.tmp 28) (.tmp 29) 22 rfl w2.heap.size 3 1 8 Try.infoInt (by kernel_rfl) rfl (by decide) v28 ws.length (ws.map (Value.int .i64)) rfl HO28.out [.int .i64 99] rfl rfl rfl (by unfold maxLen; omega) (by omega) hsz28 ?_)
  intro v30 w30 hown30 hu30
  have ho30 : OwnInts w2.heap.size w30 v30 (ws ++ [99]) := OwnInts.of hown30 (by simp) (by simp)
  have hu30' : Upd [] w2 w30 := HU28.out.trans' hu30 (fun i hi => .inr (HO28.out.lt i (by simpa using hi)).1)
  have hz30 := HZ.out.upd hu30'
  have hm30 : ZW w w30 (.slice e1 N e2) es v30 (ws ++ [99]) := ⟨hz30.e, ⟨ho30.isIn (fun z hz => by
    rcases List.mem_append.1 hz with hz | hz
    · have := HOK.out.2.r z hz; omega
    · simp at hz; omega), by simp; omega⟩, hz30.bel⟩
  have HROW30 := Lib.hid (HROW.out.keep hu30' (by simp))
  obtain ⟨xa, ma, ya, rfl⟩ : ∃ a m c, v30 = .slice a m c := by
    obtain ⟨a, c, h⟩ := own_len ho30
    exact ⟨a, _, c, h⟩
  have C3 := Lib.hid (hm30.home Z)
  have h99 : homeOf es (ws ++ [99]) Z = homeOf es ws Z := home_none (fun e he hh => by have := HOK.out.1.r e he; omega)
  rw [h99] at C3
  obtain ⟨H, hH⟩ : ∃ H, homeOf es ws Z = H := ⟨_, rfl⟩
  have HH := Lib.hid hH
  rw [hH] at C3
  have HZ30 := Lib.hid (show ZW w w30 (.slice e1 N e2) es (.slice e3 ws.length e4) ws from hz30)
  clear hown30 hu30 ho30 hu30' hz30 hm30 h99 hH HO28 HU28 hsz28 HZ HROW
  go_wp2_with fail
  refine C3.out.mono ?_
  rintro e w4 ⟨rfl, hz4, hb4⟩
  have HROW4 := Lib.hid (HROW30.out.keep (Upd.ofBelow hb4) (by simp))
  have HZ4 := Lib.hid (HZ30.out.next hb4)
  have C4 := Lib.hid (HZ4.out.home Z)
  rw [HH.out] at C4
  clear hz4 hb4 C3 HZ30 HROW30
  go_wp2_with fail
  refine C4.out.mono ?_
  rintro e w5 ⟨rfl, hz5, hb5⟩
  have HROW5 := Lib.hid (HROW4.out.keep (Upd.ofBelow hb5) (by simp))
  have HZ5 := Lib.hid hz5
  clear hz5 hb5 C4 HZ4 HROW4
  rcases Nat.eq_zero_or_pos N with hN0 | hN0
  · have hes : es = [] := List.eq_nil_of_length_eq_zero (HN.out.trans hN0)
    have hH0 : H = 0 := by rw [← HH.out, hes]; rfl
    have hp : panicOf es ws P = false := by rw [hes]; simp [panicOf]
    subst hN0
    have C5 := Lib.hid (HZ5.out.home Z)
    rw [HH.out, hH0] at C5
    clear hes hH0
    go_wp2_with fail
    refine C5.out.mono ?_
    rintro e w6 ⟨rfl, hz6, -⟩
    have C6 := Lib.hid (hz6.panic P hp0 (by omega))
    rw [hp] at C6
    clear hz6 C5 hp
    go_wp2_with fail
    refine C6.out.mono ?_
    rintro e w7 ⟨rfl, hz7, -⟩
    have HB7 := Lib.hid hz7.bel
    clear hz7 C6
    go_wp2_with fail
    refine (lives_any w7).mono ?_
    rintro e w8 ⟨rfl, hb8⟩
    have HF : Hid (TruePost w (.returned (.bool true)) w8) := Lib.hid ⟨rfl, HB7.out.trans (hb8.mono HB7.out.size)⟩
    clear hb8 HB7
    go_wp2_with fail
    go_ret
    exact HF.out
  · have CA := Lib.hid (fun w => around_any n N w n0 n1 (by omega))
    have k0 := around_nonneg n N (by omega)
    have k1 := around_lt n N (by omega)
    obtain ⟨K, hK⟩ : ∃ K : Nat, around n N = (K : Int) := ⟨(around n N).toNat, by omega⟩
    rw [hK] at CA k0 k1
    have hKN : K < N := by omega
    obtain ⟨y, hy⟩ : ∃ y, es[K]? = some y := ⟨es[K]'(by rw [HN.out]; exact hKN), by simp [HN.out, hKN]⟩
    obtain ⟨gb, off, rfl, hc⟩ : ∃ g off, e1 = some ⟨g, off, none⟩ ∧ ∀ (c : Nat) (u : Value), y.cells[c]? = some u → w5.cell? ⟨g, off + K * 3 + c, none⟩ = some u := by
      obtain ⟨a, cp, hv, -, hdata⟩ := HZ5.out.e.m
      rw [HN.out] at hv
      cases hv
      rcases hdata with h | ⟨b, off, ha, -, hc⟩
      · rw [h] at hy; simp at hy
      · exact ⟨b, off, ha, hc K y hy⟩
    have x0 : w5.cell? ⟨gb, off + K * 3, none⟩ = some (.int .i64 y.id) := hc 0 _ rfl
    have x1 : w5.cell? ⟨gb, off + K * 3 + 1, none⟩ = some (.int .i64 y.svc) := hc 1 _ rfl
    have x2 : w5.cell? ⟨gb, off + K * 3 + 2, none⟩ = some (.int .i64 y.zone) := hc 2 _ rfl
    have HY := Lib.hid (List.mem_of_getElem? hy)
    obtain ⟨yi, yv, yz⟩ := y
    dsimp only at x0 x1 x2
    clear hK hy hc n0 n1
    go_wp2_with fail
    refine (CA.out _).mono ?_
    rintro e w' ⟨rfl, rfl⟩
    clear CA
    go_upto_region 10 with fail
    obtain ⟨E, hE⟩ : ∃ E, w5.heap.size = E := ⟨_, rfl⟩
    obtain ⟨W, hW⟩ : ∃ W, w5.alloc (.cells #[.int .i64 yi, .int .i64 yv, .int .i64 yz] 35) = W := ⟨_, rfl⟩
    have huW : Upd [] w5 W := by rw [← hW]; exact Upd.alloc [] _ _
    have hbW : BlockAt W E 35 [.int .i64 yi, .int .i64 yv, .int .i64 yz] := by rw [← hW, ← hE]; exact BlockAt.new w5 _ _
    have HZW := Lib.hid (HZ5.out.upd huW)
    have HROWW := Lib.hid (HROW5.out.keep huW (by simp))
    have HB := Lib.hid hbW
    rw [hE, hW]
    clear hE hW huW hbW HZ5 HROW5 hN0 x0 x1 x2
    refine region_inv (MInv (fun u0 u1 u2 u3 u4 u5 u6 u7 => { tmps := #[.slice a1 zs.length c1, .slice a2 ys.length c2, .int .i64 zone, .int .i64 n, .int .i64 p, undef, undef, undef, undef, undef, .bool false, .slice (some ⟨gb, off, none⟩) N e2, .slice e3 ws.length e4, .int .i64 Z, .int .i64 P, .pointer (some ⟨E, 0, none⟩), u7, .slice a1 zs.length c1, .slice (some ⟨gb, off, none⟩) N e2, .slice a2 ys.length c2, .slice e3 ws.length e4, .int .i64 zone, .int .i64 Z, .int .i64 p, .int .i64 P, .slice (some ⟨gb, off, none⟩) N e2, .slice (some ⟨w2.heap.size, 0, none⟩) 0 0, .slice e3 ws.length e4, v28, .slice (some ⟨w28.heap.size, 0, none⟩) 1 1, .slice xa ma ya, .int .i64 Z, .int .i64 H, .slice (some ⟨gb, off, none⟩) N e2, .slice e3 ws.length e4, .int .i64 Z, .int .i64 H, .bool false, .slice (some ⟨gb, off, none⟩) N e2, .int .i64 N, .bool false, undef, undef, undef, undef, undef, undef, undef, undef, undef, undef, undef, undef, undef, undef, undef, .slice (some ⟨gb, off, none⟩) N e2, .int .i64 n, .slice (some ⟨gb, off, none⟩) N e2, .int .i64 N, .int .i64 K, .pointer (some ⟨gb, off + K * 3, none⟩), .agg #[.int .i64 yi, .int .i64 yv, .int .i64 yz], u0, u1, u2, u3, u4, u5, u6, undef, undef, undef, undef, undef, undef, undef, undef, undef, undef, undef, undef, undef, undef, undef, undef, undef, undef, undef, undef, undef, undef, undef, undef, undef, undef, undef, undef, undef], defers := [] }) W ws (.slice e3 ws.length e4) (.pointer (some ⟨E, 0, none⟩)) yi) (by kernel_rfl) ?_ ?_ ?_ ?_
    · kernel_rfl
    · exact ⟨undef, undef, undef, undef, undef, undef, undef, undef, rfl, Upd.drew [] W, by simp, by simp, by simp, by simp, by simp, by simp, by simp, by simp, by simp, by simp⟩
    · rintro L a w6 i o ho hL hall ⟨u0, u1, u2, u3, u4, u5, u6, u7, rfl, HM⟩
      rcases (show i = 0 ∨ i = 1 ∨ i = 2 ∨ i = 3 ∨ i = 4 ∨ i = 5 ∨ i = 6 ∨ i = 7 ∨ 8 ≤ i by omega) with rfl | rfl | rfl | rfl | rfl | rfl | rfl | rfl | h
      · cases ho
        refine ⟨rfl, ?_⟩
        go_simp
        exact ⟨_, _, _, _, _, _, _, _, rfl, (HM.next (Upd.alloc [] w6 _)).s0 hL rfl (OwnInts.fresh _ _ HM.up.size) (fun k hb e => by subst e; have := (BlockAt.new w6 3 []).symm.trans hb; simp at this)⟩
      · cases ho
        refine ⟨rfl, ?_⟩
        go_simp
        exact ⟨_, _, _, _, _, _, _, _, rfl, HM.s1 rfl⟩
      · cases ho
        refine ⟨rfl, ?_⟩
        have l0 := hall ⟨0, .data⟩ (by simp) rfl
        have h1 := HM.f1 (hall ⟨1, .data⟩ (by simp) rfl)
        obtain ⟨g, -, hown⟩ := HM.f0 l0 hL
        subst h1
        refine wp_append_ints (.tmp 63) (.tmp 64) rfl W.heap.size _ [] rfl hown e3 ws.length e4 ws rfl rfl (HROWW.out.keep HM.up (by simp)) (by simp; omega) HM.up.size rfl ?_
        intro v' w' ho hu
        exact ⟨_, _, _, _, _, _, _, _, rfl, HM.s2 l0 hL (by simpa using ho) hu⟩
      · cases ho
        refine ⟨rfl, ?_⟩
        go_simp
        exact ⟨_, _, _, _, _, _, _, _, rfl, HM.s3 rfl⟩
      · cases ho
        refine ⟨rfl, ?_⟩
        have h3 := HM.f3 (hall ⟨3, .data⟩ (by simp) rfl)
        subst h3
        have c0 := HM.up.cell (HB.out.cell 0 _ rfl) (by simp)
        go_simp
        exact ⟨_, _, _, _, _, _, _, _, rfl, HM.s4 rfl⟩
      · cases ho
        refine ⟨rfl, ?_⟩
        have h4 := HM.f4 (hall ⟨4, .data⟩ (by simp) rfl)
        subst h4
        have hn : ∀ k, L 0 = true → L 2 = false → u0 = .slice (some ⟨k, 0, none⟩) 0 0 → ¬ k = w6.heap.size := fun k l0 l2 e hk => by
          obtain ⟨g, e2, hown⟩ := HM.f0 l0 l2
          have := (hown.lt k (by rw [e]; rfl)).2
          omega
        go_simp
        exact ⟨_, _, _, _, _, _, _, _, rfl, (HM.next (Upd.alloc [] w6 _)).s5 rfl HM.up.size (BlockAt.new w6 3 [.int .i64 yi]) hn⟩
      · cases ho
        refine ⟨rfl, ?_⟩
        have l2 := hall ⟨2, .data⟩ (by simp) rfl
        have l5 := hall ⟨5, .data⟩ (by simp) rfl
        have hown := HM.f2 l2 hL
        obtain ⟨g, e5, -, hb, -⟩ := HM.f5 l5 hL
        subst e5
        refine wp_append_ints (.tmp 65) (.tmp 68) rfl W.heap.size _ ws rfl hown _ 1 1 [yi] rfl rfl (row_one hb) (by simp; omega) HM.up.size rfl ?_
        intro v' w' ho hu
        exact ⟨_, _, _, _, _, _, _, _, rfl, HM.s6 l2 hL ho hu⟩
      · cases ho
        refine ⟨rfl, ?_⟩
        go_simp
        exact ⟨_, _, _, _, _, _, _, _, rfl, HM.s7 (hall ⟨6, .data⟩ (by simp) rfl) rfl⟩
      · rw [Array.getElem?_eq_none (by simpa using h)] at ho
        cases ho
    · rintro L a w6 hall ⟨u0, u1, u2, u3, u4, u5, u6, u7, rfl, HM⟩
      have l : ∀ i, i < 8 → L i = true := fun i hi => hall i (by simpa using hi)
      have e7 := HM.f7 (l 7 (by omega))
      have ho := HM.f6 (l 6 (by omega))
      subst e7
      obtain ⟨x3, m3, y3, rfl⟩ : ∃ a m c, u7 = .slice a m c := by
        obtain ⟨a, c, h⟩ := own_len ho
        exact ⟨a, _, c, h⟩
      have hz6 := HZW.out.upd HM.up
      have HZ6 := Lib.hid hz6
      have hm6 : ZW w w6 (.slice (some ⟨gb, off, none⟩) N e2) es (.slice x3 m3 y3) (ws ++ [yi]) := ⟨hz6.e, ⟨ho.isIn (fun z hz => by
        rcases List.mem_append.1 hz with hz | hz
        · have := HOK.out.2.r z hz; omega
        · simp at hz; subst hz; have := HOK.out.1.r _ HY.out; dsimp only at this; omega), by simp; omega⟩, hz6.bel⟩
      have HM6 := Lib.hid hm6
      have c2 := HM.up.cell (HB.out.cell 2 _ rfl) (by simp)
      have HC2 := Lib.hid c2
      have CP := Lib.hid (hm6.panic P hp0 (by omega))
      have HPM := Lib.hid (fun (h : panicOf es (ws ++ [yi]) P = true) => panic_more h)
      obtain ⟨B1, hB1⟩ : ∃ B, panicOf es (ws ++ [yi]) P = B := ⟨_, rfl⟩
      rw [hB1] at CP HPM
      clear hB1 hz6 hm6 HM ho l hall HZW HROWW HB
      cases B1 with
      | true =>
        have hp2 := HPM.out rfl
        clear HPM c2
        go_wp2_with fail
        refine CP.out.mono ?_
        rintro e w7 ⟨rfl, hz7, hb7⟩
        have C7 := Lib.hid ((HZ6.out.next hb7).panic P hp0 (by omega))
        have HM7 := Lib.hid hz7
        have HC7 := Lib.hid ((Upd.ofBelow hb7).cell HC2.out (by simp))
        rw [hp2] at C7
        clear hz7 hb7 CP hp2 HZ6 HM6 HC2
        go_wp2_with fail
        refine C7.out.mono ?_
        rintro e w8 ⟨rfl, hz8, hb8⟩
        have HZ8 := Lib.hid hz8
        have HM8 := Lib.hid (HM7.out.next hb8)
        have c8 := (Upd.ofBelow hb8).cell HC7.out (by simp)
        clear hz8 hb8 C7 HM7 HC7
        by_cases hyz : yz = Z
        · have CM := Lib.hid (HM8.out.home Z)
          obtain ⟨H2, hH2⟩ : ∃ H2, homeOf es (ws ++ [yi]) Z = H2 := ⟨_, rfl⟩
          have hle : H ≤ H2 := by
            rw [← hH2, ← HH.out]
            exact home_more (x := ⟨yi, yv, yz⟩) (fun e he hh => by rw [same_id HZ8.out.e.nodup he HY.out hh]; exact hyz)
          rw [hH2] at CM
          subst hyz
          clear hH2
          go_wp2_with fail
          refine CM.out.mono ?_
          rintro e w9 ⟨rfl, hz9, hb9⟩
          have CW := Lib.hid ((HZ8.out.next hb9).home yz)
          rw [HH.out] at CW
          clear hz9 hb9 CM HM8 HZ8
          go_wp2_with fail
          refine CW.out.mono ?_
          rintro e w10 ⟨rfl, hz10, -⟩
          have HB10 := Lib.hid hz10.bel
          clear hz10 CW
          go_wp2_with fail
          refine (lives_any w10).mono ?_
          rintro e w11 ⟨rfl, hb11⟩
          have HF : Hid (TruePost w (.returned (.bool true)) w11) := Lib.hid ⟨rfl, HB10.out.trans (hb11.mono HB10.out.size)⟩
          clear hb11 HB10
          go_wp2_with fail
          go_ret
          exact HF.out
        · have HB10 := Lib.hid HZ8.out.bel
          go_wp2_with fail
          refine (lives_any w8).mono ?_
          rintro e w11 ⟨rfl, hb11⟩
          have HF : Hid (TruePost w (.returned (.bool true)) w11) := Lib.hid ⟨rfl, HB10.out.trans (hb11.mono HB10.out.size)⟩
          clear hb11 HB10
          go_wp2_with fail
          go_ret
          exact HF.out
      | false =>
        clear HPM c2
        go_wp2_with fail
        refine CP.out.mono ?_
        rintro e w8 ⟨rfl, hz8, hb8⟩
        have HZ8 := Lib.hid (HZ6.out.next hb8)
        have HM8 := Lib.hid hz8
        have c8 := (Upd.ofBelow hb8).cell HC2.out (by simp)
        clear hz8 hb8 CP HZ6 HM6 HC2
        by_cases hyz : yz = Z
        · have CM := Lib.hid (HM8.out.home Z)
          obtain ⟨H2, hH2⟩ : ∃ H2, homeOf es (ws ++ [yi]) Z = H2 := ⟨_, rfl⟩
          have hle : H ≤ H2 := by
            rw [← hH2, ← HH.out]
            exact home_more (x := ⟨yi, yv, yz⟩) (fun e he hh => by rw [same_id HZ8.out.e.nodup he HY.out hh]; exact hyz)
          rw [hH2] at CM
          subst hyz
          clear hH2
          go_wp2_with fail
          refine CM.out.mono ?_
          rintro e w9 ⟨rfl, hz9, hb9⟩
          have CW := Lib.hid ((HZ8.out.next hb9).home yz)
          rw [HH.out] at CW
          clear hz9 hb9 CM HM8 HZ8
          go_wp2_with fail
          refine CW.out.mono ?_
          rintro e w10 ⟨rfl, hz10, -⟩
          have HB10 := Lib.hid hz10.bel
          clear hz10 CW
          go_wp2_with fail
          refine (lives_any w10).mono ?_
          rintro e w11 ⟨rfl, hb11⟩
          have HF : Hid (TruePost w (.returned (.bool true)) w11) := Lib.hid ⟨rfl, HB10.out.trans (hb11.mono HB10.out.size)⟩
          clear hb11 HB10
          go_wp2_with fail
          go_ret
          exact HF.out
        · have HB10 := Lib.hid HZ8.out.bel
          go_wp2_with fail
          refine (lives_any w8).mono ?_
          rintro e w11 ⟨rfl, hb11⟩
          have HF : Hid (TruePost w (.returned (.bool true)) w11) := Lib.hid ⟨rfl, HB10.out.trans (hb11.mono HB10.out.size)⟩
          clear hb11 HB10
          go_wp2_with fail
          go_ret
          exact HF.out
end Go.Proofs.Ythblblkifkndiaa
