/- Layer 11: ZonesRow. -/
import Derived.Test.YthblblkifkndiaaZoneRow
namespace Go.Proofs.Ythblblkifkndiaa
open Go.RowKit
theorem EnsIn.elem {w : World} {a : Option Addr} {n c : Nat} {l : List En} (h : EnsIn w (.slice a n c) l) {k : Nat} {y : En} (hy : l[k]? = some y) : ∃ g off, a = some ⟨g, off, none⟩ ∧ ∀ (c : Nat) (u : Value), y.cells[c]? = some u → w.cell? ⟨g, off + k * 3 + c, none⟩ = some u := by
  obtain ⟨x, cp, hv, -, hdata⟩ := h
  cases hv
  rcases hdata with h | ⟨b, off, ha, -, hc⟩
  · rw [h] at hy; simp at hy
  · exact ⟨b, off, ha, hc k y hy⟩
theorem IntsIn.elem {w : World} {a : Option Addr} {n c : Nat} {l : List Int} (h : IntsIn w (.slice a n c) l) {k : Nat} {y : Int} (hy : l[k]? = some y) : ∃ g off, a = some ⟨g, off, none⟩ ∧ w.cell? ⟨g, off + k, none⟩ = some (.int .i64 y) := by
  rcases h.read with ⟨rfl, -⟩ | ⟨b, off, cap, hv, -, -, -, hc⟩
  · simp at hy
  · cases hv
    exact ⟨b, off, rfl, hc k y hy⟩
theorem take_rev {α : Type} {l : List α} {q k : Nat} {y : α} (hk : k + 1 + q = l.length) (hy : l[k]? = some y) : l.reverse.take (q + 1) = l.reverse.take q ++ [y] := by
  rw [List.take_add_one, List.getElem?_reverse (by omega), show l.length - 1 - q = k by omega, hy]
  rfl
theorem rev_well {ws : List Int} (id : Int) : id ∈ ws ↔ id ∈ ws.reverse ++ ws := by simp
set_option maxRecDepth 100000 in
set_option maxHeartbeats 4000000 in
theorem row_walk (a b : Value) (zs ys : List Int) (zone p d : Int) (w : World) (h1 : IntsIn w a zs) (h2 : IntsIn w b ys) (z0 : -9223372036854775808 ≤ zone) (z1 : zone ≤ 9223372036854775807) (p0 : -9223372036854775808 ≤ p) (p1 : p ≤ 9223372036854775807) (d0 : -9223372036854775808 ≤ d) (d1 : d ≤ 9223372036854775807) :
    Calls Try.prog 7 #[a, b, .int .i64 zone, .int .i64 p, .int .i64 d] w (TruePost w) := by
  have C1 := Lib.hid (ends_any a zs w h1)
  have H2 := Lib.hid h2
  have CP := Lib.hid (fun w => around_any p 101 w p0 p1 (by omega))
  have CD := Lib.hid (fun w => around_any d 100 w d0 d1 (by omega))
  have CZ := Lib.hid (fun w => around_any zone 4 w z0 z1 (by omega))
  have hp0 := around_nonneg p 101 (by omega)
  have hp1 := around_lt p 101 (by omega)
  have hd0 := around_nonneg d 100 (by omega)
  have hd1 := around_lt d 100 (by omega)
  obtain ⟨P, hP⟩ : ∃ P, around p 101 = P := ⟨_, rfl⟩
  obtain ⟨D, hD⟩ : ∃ D, around d 100 = D := ⟨_, rfl⟩
  obtain ⟨Z, hZ⟩ : ∃ Z, around zone 4 = Z := ⟨_, rfl⟩
  rw [hP] at CP hp0 hp1
  rw [hD] at CD hd0 hd1
  rw [hZ] at CZ
  obtain ⟨a1, c1, rfl, -⟩ : ∃ a1 c1, a = .slice a1 zs.length c1 ∧ True := by obtain ⟨x, y, h, -⟩ := h1; exact ⟨x, y, h, trivial⟩
  obtain ⟨a2, c2, rfl, -⟩ : ∃ a1 c1, b = .slice a1 ys.length c1 ∧ True := by obtain ⟨x, y, h, -⟩ := h2; exact ⟨x, y, h, trivial⟩
  have HD := Lib.hid (And.intro hd0 hd1)
  clear h1 h2 p0 p1 d0 d1 z0 z1 hP hD hZ hd0 hd1
  go_enter Try.func7, Try.ntmps7
  go_wp2_with fail
  refine C1.out.mono ?_
  rintro e w1 ⟨ev, es, rfl, ho1, hb1, hok1⟩
  have C2 := Lib.hid (well_any _ ys w1 (H2.out.keep (Upd.ofBelow hb1) (by simp)))
  have HE := Lib.hid (And.intro ho1 (And.intro hb1 hok1))
  obtain ⟨e1, e2, rfl⟩ := (show EIn w1 ev es from ⟨ho1.isIn (by have := hok1.len; omega), hok1.nodup, fun e he => by have := hok1.r e he; omega, by have := hok1.len; omega⟩).shape
  clear ho1 hb1 hok1 C1 H2
  go_wp2_with fail
  refine C2.out.mono ?_
  rintro e w2 ⟨wv, ws, rfl, ho2, hb2, hok2⟩
  have HZ := Lib.hid (zw_start HE.out.1 HE.out.2.1 HE.out.2.2 ho2 hb2 hok2)
  have HOK := Lib.hid (And.intro HE.out.2.2 hok2)
  obtain ⟨e3, e4, rfl, hrow⟩ := ho2.row
  have HROW := Lib.hid hrow
  have hwl : (ws.length : Int) ≤ 12 := hok2.len
  clear hrow
  clear ho2 hb2 hok2 C2 HE
  go_wp2_with fail
  refine (CZ.out _).mono ?_
  rintro e w3 ⟨rfl, rfl⟩
  go_wp2_with fail
  refine (CP.out _).mono ?_
  rintro e w3 ⟨rfl, rfl⟩
  go_wp2_with fail
  refine (CD.out _).mono ?_
  rintro e w3 ⟨rfl, rfl⟩
  clear CP CD CZ HD
  obtain ⟨N, hN⟩ : ∃ N, es.length = N := ⟨_, rfl⟩
  have HN := Lib.hid hN
  have hNl : (N : Int) ≤ 100 := by have := HZ.out.e.len; omega
  rw [hN] at HZ
  rw [hN]
  clear hN
  have ewN := IntWalk.i64_in ((N : Int) - 1) (by omega)
  have HI0 : Hid (OwnEns w2.heap.size w2 (.slice none 0 0) (es.reverse.take 0) ∧ Below w2.heap.size w2 w2) := Lib.hid ⟨World.ownsRow_nil _ _ _ _, Below.refl _ _⟩
  go_wp2_with fail
  go_loopw [16, 17] (fun bv i wr => ∃ (q : Nat) (I : Int) (ao : Option Addr) (cap : Nat), (q : Int) + I + 1 = N ∧ -1 ≤ I ∧ i = .int .i64 I ∧ bv = .slice ao q cap ∧ Hid (OwnEns w2.heap.size wr bv (es.reverse.take q) ∧ Below w2.heap.size w2 wr)) (fun _ i _ => (intOf i + 1).toNat)
  case atStart => exact ⟨0, (N : Int) - 1, none, 0, by omega, by omega, rfl, rfl, HI0⟩
  case round =>
    obtain ⟨q, I, ao, cap, hq, hI, rfl, rfl, HI⟩ := hrel
    clear HI0 ewN
    by_cases hI0 : 0 ≤ I
    · obtain ⟨k, rfl⟩ : ∃ k : Nat, I = (k : Int) := ⟨I.toNat, by omega⟩
      obtain ⟨y, hy⟩ : ∃ y, es[k]? = some y := ⟨es[k]'(by rw [HN.out]; omega), by simp⟩
      obtain ⟨g, off, rfl, hc⟩ := HZ.out.e.m.elem hy
      have x0 : wr.cell? ⟨g, off + k * 3, none⟩ = some (.int .i64 y.id) := (Upd.ofBelow HI.out.2).cell (hc 0 _ rfl) (by simp)
      have x1 : wr.cell? ⟨g, off + k * 3 + 1, none⟩ = some (.int .i64 y.svc) := (Upd.ofBelow HI.out.2).cell (hc 1 _ rfl) (by simp)
      have x2 : wr.cell? ⟨g, off + k * 3 + 2, none⟩ = some (.int .i64 y.zone) := (Upd.ofBelow HI.out.2).cell (hc 2 _ rfl) (by simp)
      have hsn := take_rev (l := es) (q := q) (k := k) (by rw [HN.out]; omega) hy
      have hrl : (es.reverse.take q).length = q := by rw [List.length_take, List.length_reverse, HN.out]; omega
      obtain ⟨yi, yv, yz⟩ := y
      dsimp only at x0 x1 x2
      obtain ⟨bl, hbl⟩ : ∃ bl, es.reverse.take q = bl := ⟨_, rfl⟩
      rw [hbl] at hsn hrl HI
      have HSN := Lib.hid (And.intro hsn hrl)
      have HOWN : Hid (wr.ownsRow w2.heap.size 35 3 (.slice ao q cap) q (cellsE bl)) := Lib.hid (by
        have := HI.out.1
        unfold OwnEns at this
        rwa [hrl] at this)
      have HBS := Lib.hid HI.out.2.size
      have ew1 := IntWalk.i64_in ((k : Int) - 1) (by omega)
      have k0 : (0 : Int) ≤ k := by omega
      have k1 : (k : Int) < N := by omega
      have HQ := Lib.hid hq
      have hq9 : (q : Int) ≤ 100 := by omega
      clear hy hc hsn hrl hbl hq hI hI0
      go_wp2_with (at_builtin; refine wpList_append_put wr rfl (.tmp 37) (.tmp 42) 23 rfl w2.heap.size 35 3 24 Try.infoEnd (by kernel_rfl) rfl (by decide) (.slice ao q cap) q (cellsE bl) rfl HOWN.out [.int .i64 yi, .int .i64 yv, .int .i64 yz] rfl rfl rfl (by unfold maxLen; omega) (by omega) HBS.out ?_)
      intro gg cap' w5 hown hu hgg
      have HI6 : Hid (OwnEns w2.heap.size w5 (.slice (some ⟨gg, 0, none⟩) (q + 1) cap') (es.reverse.take (q + 1)) ∧ Below w2.heap.size w2 w5) := Lib.hid ⟨by
        rw [HSN.out.1]
        unfold OwnEns
        rw [cellsE_snoc, List.length_append, HSN.out.2]
        exact hown, HI.out.2.trans (hu.below HBS.out (fun k hk => by simp at hk; exact (HI.out.1.lt k hk).1))⟩
      clear hown hu hgg HOWN x0 x1 x2
      go_wp2_with fail
      go_roundw
      case rel => exact ⟨q + 1, (k : Int) - 1, some ⟨gg, 0, none⟩, cap', by have := HQ.out; omega, by omega, rfl, rfl, HI6⟩
      case measure => simp [intOf] <;> omega
    · obtain rfl : I = -1 := by omega
      obtain rfl : q = N := by omega
      have hbk := HI.out
      rw [show es.reverse.take q = es.reverse by rw [← HN.out, ← List.length_reverse, List.take_length]] at hbk
      obtain ⟨W1, rfl⟩ : ∃ W, W = wr := ⟨wr, rfl⟩
      have HBK := Lib.hid hbk.1
      have HZ1 := Lib.hid (HZ.out.next hbk.2)
      have HROW1 := Lib.hid (HROW.out.keep (Upd.ofBelow hbk.2) (by simp))
      have ewM := IntWalk.i64_in ((ws.length : Int) - 1) (by omega)
      clear hbk HI HZ HROW hq hI hI0
      have HT0 : Hid (OwnInts W1.heap.size W1 (.slice none 0 0) (ws.reverse.take 0) ∧ Below W1.heap.size W1 W1) := Lib.hid ⟨OwnInts.nil _ _, Below.refl _ _⟩
      go_wp2_with fail
      go_loopw [18, 19] (fun tv i wr => ∃ (r : Nat) (I : Int) (ta : Option Addr) (tc : Nat), (r : Int) + I + 1 = ws.length ∧ -1 ≤ I ∧ i = .int .i64 I ∧ tv = .slice ta r tc ∧ Hid (OwnInts W1.heap.size wr tv (ws.reverse.take r) ∧ Below W1.heap.size W1 wr)) (fun _ i _ => (intOf i + 1).toNat)
      case atStart => exact ⟨0, (ws.length : Int) - 1, none, 0, by omega, by omega, rfl, rfl, HT0⟩
      case round =>
        obtain ⟨r, I, ta, tc, hr, hI, rfl, rfl, HT⟩ := hrel
        clear HT0 ewM
        by_cases hI0 : 0 ≤ I
        · obtain ⟨k, rfl⟩ : ∃ k : Nat, I = (k : Int) := ⟨I.toNat, by omega⟩
          obtain ⟨y, hy⟩ : ∃ y, ws[k]? = some y := ⟨ws[k]'(by omega), by simp⟩
          obtain ⟨g, off, rfl, hc⟩ := HZ1.out.v.m.elem hy
          have x0 : wr.cell? ⟨g, off + k, none⟩ = some (.int .i64 y) := (Upd.ofBelow HT.out.2).cell hc (by simp)
          have hsn := take_rev (l := ws) (q := r) (k := k) (by omega) hy
          have hrl : (ws.reverse.take r).length = r := by rw [List.length_take, List.length_reverse]; omega
          obtain ⟨bl, hbl⟩ : ∃ bl, ws.reverse.take r = bl := ⟨_, rfl⟩
          rw [hbl] at hsn hrl HT
          have HSN := Lib.hid (And.intro hsn hrl)
          have HOWN : Hid (wr.ownsRow W1.heap.size 3 1 (.slice ta r tc) r (bl.map (Value.int .i64))) := Lib.hid (by
            have := HT.out.1
            unfold OwnInts at this
            rwa [hrl] at this)
          have HBS := Lib.hid HT.out.2.size
          have ew1 := IntWalk.i64_in ((k : Int) - 1) (by omega)
          have k0 : (0 : Int) ≤ k := by omega
          have k1 : (k : Int) < ws.length := by omega
          have HQ := Lib.hid hr
          have hq9 : (r : Int) ≤ 100 := by omega
          clear hy hc hsn hrl hbl hr hI hI0
          go_wp2_with (at_builtin; refine wpList_append_put wr rfl (.tmp 51) (.tmp 56) 22 rfl W1.heap.size 3 1 8 Try.infoInt (by kernel_rfl) rfl (by decide) (.slice ta r tc) r (bl.map (Value.int .i64)) rfl HOWN.out [.int .i64 y] rfl rfl rfl (by unfold maxLen; omega) (by omega) HBS.out ?_)
          intro gg cap' w5 hown hu hgg
          have HI6 : Hid (OwnInts W1.heap.size w5 (.slice (some ⟨gg, 0, none⟩) (r + 1) cap') (ws.reverse.take (r + 1)) ∧ Below W1.heap.size W1 w5) := Lib.hid ⟨by
            rw [HSN.out.1]
            exact OwnInts.of hown (by simp [HSN.out.2]) (by simp), HT.out.2.trans (hu.below HBS.out (fun k hk => by simp at hk; exact (HT.out.1.lt k hk).1))⟩
          clear hown hu hgg HOWN x0
          go_wp2_with fail
          go_roundw
          case rel => exact ⟨r + 1, (k : Int) - 1, some ⟨gg, 0, none⟩, cap', by have := HQ.out; omega, by omega, rfl, rfl, HI6⟩
          case measure => simp [intOf] <;> omega
        · obtain rfl : I = -1 := by omega
          have hrw : r = ws.length := by omega
          have hT := HT.out
          rw [show ws.reverse.take r = ws.reverse by rw [hrw, ← List.length_reverse, List.take_length]] at hT
          have HOT : Hid (wr.ownsRow W1.heap.size 3 1 (.slice ta r tc) r (ws.reverse.map (Value.int .i64))) := Lib.hid (by
            have := hT.1
            unfold OwnInts at this
            rwa [List.length_reverse, ← hrw] at this)
          have HTB := Lib.hid hT
          have HR2 := Lib.hid (HROW1.out.keep (Upd.ofBelow hT.2) (by simp))
          have hbs := hT.2.size
          have hr12 : (r : Int) ≤ 12 := by omega
          have HRW := Lib.hid hrw
          clear hT HT hr hI hI0 hrw
          go_wp2_with (at_builtin; refine wpList_append_view wr rfl (.tmp 58) (.tmp 59) 22 rfl W1.heap.size 3 1 8 Try.infoInt (by kernel_rfl) rfl (by decide) (.slice ta r tc) r (ws.reverse.map (Value.int .i64)) rfl HOT.out e3 ws.length e4 (ws.map (Value.int .i64)) rfl HR2.out (int_cells _ _) (by unfold maxLen; omega) (by omega) hbs ?_)
          intro vt wt hownt hut
          have hot : OwnInts W1.heap.size wt vt (ws.reverse ++ ws) := OwnInts.of hownt (by simp [HRW.out]) (by simp)
          have hbt : Below W1.heap.size W1 wt := HTB.out.2.trans (hut.below HTB.out.2.size (fun k hk => (HTB.out.1.lt k (by simpa using hk)).1))
          have hzt := HZ1.out.next hbt
          have hbk : EnsIn wt (.slice ao q cap) es.reverse := by
            have := (HBK.out.isIn (by rw [List.length_reverse, HN.out]; omega)).below hbt
            exact this
          have hzr : ZW w wt (.slice ao q cap) es.reverse vt (ws.reverse ++ ws) := ⟨⟨hbk, by rw [List.map_reverse]; exact (List.reverse_perm _).nodup_iff.2 hzt.e.nodup, fun e he => hzt.e.ids e (by simpa using he), by rw [List.length_reverse, HN.out]; exact hNl⟩, ⟨hot.isIn (fun z hz => by have := HOK.out.2.r z (by simpa using hz); omega), by simp; omega⟩, hzt.bel⟩
          have HZT := Lib.hid hzt
          have HZR := Lib.hid hzr
          obtain ⟨t1, t2, t3, rfl⟩ : ∃ a m c, vt = .slice a m c := by
            obtain ⟨a, c, h⟩ := own_len hot
            exact ⟨a, _, c, h⟩
          have HHR : Hid (homeOf es.reverse (ws.reverse ++ ws) Z = homeOf es ws Z ∧ panicOf es.reverse (ws.reverse ++ ws) P = panicOf es ws P ∧ fitOf es.reverse (ws.reverse ++ ws) Z P D = fitOf es ws Z P D) := Lib.hid ⟨(home_row (List.reverse_perm es).symm rev_well).symm, (panic_row (List.reverse_perm es).symm rev_well).symm, (fit_row (List.reverse_perm es).symm rev_well).symm⟩
          have C1 := Lib.hid (hzt.home Z)
          obtain ⟨H, hH⟩ : ∃ H, homeOf es ws Z = H := ⟨_, rfl⟩
          rw [hH] at C1 HHR
          obtain ⟨B, hB⟩ : ∃ B, panicOf es ws P = B := ⟨_, rfl⟩
          rw [hB] at HHR
          have HBP := Lib.hid hB
          clear hownt hut hot hbt hzt hbk hzr HOT HTB HR2 hbs HRW hH hB HBK HZ1 HROW1
          go_wp2_with fail
          refine C1.out.mono ?_
          rintro e v1 ⟨rfl, hz1, hb1⟩
          have HZ1 := Lib.hid hz1
          have HR1 := Lib.hid (HZR.out.next hb1)
          have C2 := Lib.hid (HR1.out.home Z)
          rw [HHR.out.1] at C2
          clear hz1 hb1 C1 HZT HZR
          go_wp2_with fail
          refine C2.out.mono ?_
          rintro e v2 ⟨rfl, hr2, hb2⟩
          have HR2 := Lib.hid hr2
          have HZ2 := Lib.hid (HZ1.out.next hb2)
          have C3 := Lib.hid (HZ2.out.panic P hp0 (by omega))
          rw [HBP.out] at C3
          clear hr2 hb2 C2 HZ1 HR1
          go_wp2_with fail
          refine C3.out.mono ?_
          rintro e v3 ⟨rfl, hz3, hb3⟩
          have HZ3 := Lib.hid hz3
          have HR3 := Lib.hid (HR2.out.next hb3)
          have C4 := Lib.hid (HR3.out.panic P hp0 (by omega))
          rw [HHR.out.2.1] at C4
          clear hz3 hb3 C3 HZ2 HR2
          go_wp2_with fail
          refine C4.out.mono ?_
          rintro e v4 ⟨rfl, hr4, hb4⟩
          have HR4 := Lib.hid hr4
          have HZ4 := Lib.hid (HZ3.out.next hb4)
          have C5 := Lib.hid (HZ4.out.among Z P D hp0 (by omega))
          clear hr4 hb4 C4 HZ3 HR3
          go_wp2_with fail
          refine C5.out.mono ?_
          rintro e v5 ⟨s5v, s5, rfl, hs5, ho5, hz5, hb5⟩
          have HS := Lib.hid (And.intro hs5 (And.intro ho5 (hz5.e.idsI hs5)))
          have HR5 := Lib.hid (HR4.out.next hb5)
          have C6 := Lib.hid (HR5.out.among Z P D hp0 (by omega))
          rw [HHR.out.2.2] at C6
          obtain ⟨f1, f2, rfl⟩ := own_len ho5
          clear hs5 ho5 hz5 hb5 C5 HZ4 HR4
          go_wp2_with fail
          refine C6.out.mono ?_
          rintro e v6 ⟨s6v, s6, rfl, hs6, ho6, hr6, hb6⟩
          obtain rfl := ids_unique (ids_row (List.reverse_perm es) hs6) HS.out.1
          have C7 := Lib.hid (same_rows HS.out.2.1 hb6 ho6 HS.out.2.2.1 HS.out.2.2.2)
          have HB6 := Lib.hid hr6.bel
          obtain ⟨f3, f4, rfl⟩ := own_len ho6
          clear hs6 ho6 hr6 hb6 C6 HR5
          go_wp2_with fail
          refine C7.out.mono ?_
          rintro e v7 ⟨rfl, hu7⟩
          have HB7 := Lib.hid (HB6.out.trans (hu7.below HB6.out.size (by simp)))
          clear hu7 C7 HB6
          go_wp2_with fail
          refine (lives_any v7).mono ?_
          rintro e v8 ⟨rfl, hb8⟩
          have HF : Hid (TruePost w (.returned (.bool true)) v8) := Lib.hid ⟨rfl, HB7.out.trans (hb8.mono HB7.out.size)⟩
          clear hb8 HB7
          go_wp2_with fail
          go_ret
          exact HF.out
end Go.Proofs.Ythblblkifkndiaa
