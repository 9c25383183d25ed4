/- Layer 11: ZonesSpill. -/
import Derived.Test.YthblblkifkndiaaZoneSpill
namespace Go.Proofs.Ythblblkifkndiaa
open Go.RowKit
/-- The rows while they are made. -/
structure SB (w W1 W : World) (a b : Nat) (ev ov tv : Value) : Prop where
  e : OwnEns w.heap.size W ev (esA a ++ esB b)
  o : OwnInts w.heap.size W ov (ownL a)
  t : OwnInts W1.heap.size W tv (othL b)
  lt : ∀ k, ov.ownBlock = some k → k < W1.heap.size
  bel : Below w.heap.size w W
  le : W1.heap.size ≤ W.heap.size
theorem SB.next {w W1 W W' : World} {a b : Nat} {ev ov tv : Value} (h : SB w W1 W a b ev ov tv) (u : Upd [] W W') : SB w W1 W' a b ev ov tv :=
  ⟨u.owns h.e (by simp), u.owns h.o (by simp), u.owns h.t (by simp), h.lt, h.bel.trans (u.below h.bel.size (by simp)), Nat.le_trans h.le u.size⟩
set_option maxRecDepth 100000 in
set_option maxHeartbeats 4000000 in
theorem spill_walk (here there draw : Int) (w : World) (h0 : -9223372036854775808 ≤ here) (h1 : here ≤ 9223372036854775807) (t0 : -9223372036854775808 ≤ there) (t1 : there ≤ 9223372036854775807) (d0 : -9223372036854775808 ≤ draw) (d1 : draw ≤ 9223372036854775807) :
    Calls Try.prog 8 #[.int .i64 here, .int .i64 there, .int .i64 draw] w (TruePost w) := by
  have CA := Lib.hid (fun w => around_any here 8 w h0 h1 (by omega))
  have CB := Lib.hid (fun w => around_any there 8 w t0 t1 (by omega))
  have CD := Lib.hid (fun w => around_any draw 100 w d0 d1 (by omega))
  have a0 := around_nonneg here 8 (by omega)
  have a1 := around_lt here 8 (by omega)
  have b0 := around_nonneg there 8 (by omega)
  have b1 := around_lt there 8 (by omega)
  have hd0 := around_nonneg draw 100 (by omega)
  have hd1 := around_lt draw 100 (by omega)
  obtain ⟨A0, hA⟩ : ∃ A : Int, around here 8 = A := ⟨_, rfl⟩
  obtain ⟨B0, hB⟩ : ∃ B : Int, around there 8 = B := ⟨_, rfl⟩
  obtain ⟨D, hD⟩ : ∃ D, around draw 100 = D := ⟨_, rfl⟩
  rw [hA] at CA a0 a1
  rw [hB] at CB b0 b1
  rw [hD] at CD hd0 hd1
  obtain ⟨A, hA2⟩ : ∃ A : Nat, 1 + A0 = (A : Int) := ⟨(1 + A0).toNat, by omega⟩
  obtain ⟨B, hB2⟩ : ∃ B : Nat, 1 + B0 = (B : Int) := ⟨(1 + B0).toNat, by omega⟩
  have ewA : IntKind.i64.wrap (1 + A0) = (A : Int) := by rw [hA2]; exact IntWalk.i64_in _ (by omega)
  have ewB : IntKind.i64.wrap (1 + B0) = (B : Int) := by rw [hB2]; exact IntWalk.i64_in _ (by omega)
  have A1 : 1 ≤ A := by omega
  have A8 : A ≤ 8 := by omega
  have B1 : 1 ≤ B := by omega
  have B8 : B ≤ 8 := by omega
  have HSP := Lib.hid (spills A1 A8 B1 B8)
  have HD := Lib.hid (And.intro hd0 hd1)
  clear h0 h1 t0 t1 d0 d1 hA hB hD a0 a1 b0 b1 hA2 hB2 hd0 hd1
  go_enter Try.func8, Try.ntmps8
  go_wp2_with fail
  refine (CA.out _).mono ?_
  rintro e w' ⟨rfl, rfl⟩
  go_wp2_with fail
  refine (CB.out _).mono ?_
  rintro e w' ⟨rfl, rfl⟩
  clear CA CB
  have HI0 : Hid (OwnEns w.heap.size w (.slice none 0 0) (esA 0) ∧ OwnInts w.heap.size w (.slice none 0 0) (ownL 0) ∧ Below w.heap.size w w) := Lib.hid ⟨World.ownsRow_nil _ _ _ _, OwnInts.nil _ _, Below.refl _ _⟩
  go_wp2_with fail
  clear ewA ewB
  go_loopw [9, 10, 12] (fun ev ov i wr => ∃ (q : Nat) (ea oa : Option Addr) (ec oc : Nat), q ≤ A ∧ i = .int .i64 q ∧ ev = .slice ea q ec ∧ ov = .slice oa q oc ∧ Hid (OwnEns w.heap.size wr ev (esA q) ∧ OwnInts w.heap.size wr ov (ownL q) ∧ Below w.heap.size w wr)) (fun _ _ i _ => A - (intOf i).toNat)
  case atStart => exact ⟨0, none, none, 0, 0, by omega, rfl, rfl, rfl, HI0⟩
  case round =>
    obtain ⟨q, ea, oa, ec, oc, hq, rfl, rfl, rfl, HI⟩ := hrel
    clear HI0
    by_cases hqA : q < A
    · have q0 : (0 : Int) ≤ q := by omega
      have q1 : (q : Int) < A := by omega
      have ew1 := IntWalk.i64_in (1 + (q : Int)) (by omega)
      have HOE : Hid (wr.ownsRow w.heap.size 35 3 (.slice ea q ec) q (cellsE (esA q))) := Lib.hid (by
        have := HI.out.1
        unfold OwnEns at this
        rwa [esA_len] at this)
      have HBS := Lib.hid HI.out.2.2.size
      have hq8 : q ≤ 8 := by omega
      clear hq
      go_wp2_with (at_builtin; refine wpList_append_put wr rfl (.tmp 27) (.tmp 31) 23 rfl w.heap.size 35 3 24 Try.infoEnd (by kernel_rfl) rfl (by decide) (.slice ea q ec) q (cellsE (esA q)) rfl HOE.out [.int .i64 (1 + (q : Int)), .int .i64 0, .int .i64 1] rfl rfl rfl (by unfold maxLen; omega) (by omega) HBS.out ?_)
      intro gg cap' w5 hown hu hgg
      have he5 : OwnEns w.heap.size w5 (.slice (some ⟨gg, 0, none⟩) (q + 1) cap') (esA (q + 1)) := by
        rw [esA_succ]
        unfold OwnEns
        rw [cellsE_snoc, List.length_append, esA_len]
        exact hown
      have ho5 : OwnInts w.heap.size w5 (.slice oa q oc) (ownL q) := hu.owns HI.out.2.1 (own_apart HI.out.2.1 HOE.out (by decide))
      have hb5 : Below w.heap.size w w5 := HI.out.2.2.trans (hu.below HBS.out (fun k hk => by simp at hk; exact (HOE.out.lt k hk).1))
      have H5 := Lib.hid (And.intro he5 (And.intro ho5 hb5))
      have HOI : Hid (w5.ownsRow w.heap.size 3 1 (.slice oa q oc) q ((ownL q).map (Value.int .i64))) := Lib.hid (by
        have := ho5
        unfold OwnInts at this
        rwa [ownL_len] at this)
      have hbs5 := hb5.size
      clear he5 ho5 hb5 hown hu hgg HOE HBS HI
      go_wp2_with (at_builtin; refine wpList_append_put w5 rfl (.tmp 33) (.tmp 36) 22 rfl w.heap.size 3 1 8 Try.infoInt (by kernel_rfl) rfl (by decide) (.slice oa q oc) q ((ownL q).map (Value.int .i64)) rfl HOI.out [.int .i64 (1 + (q : Int))] rfl rfl rfl (by unfold maxLen; omega) (by omega) hbs5 ?_)
      intro gg2 cap2 w6 hown6 hu6 hgg6
      have ho6 : OwnInts w.heap.size w6 (.slice (some ⟨gg2, 0, none⟩) (q + 1) cap2) (ownL (q + 1)) := by
        rw [ownL_succ]
        exact OwnInts.of hown6 (by simp [ownL_len]) (by simp)
      have H6 : Hid (OwnEns w.heap.size w6 (.slice (some ⟨gg, 0, none⟩) (q + 1) cap') (esA (q + 1)) ∧ OwnInts w.heap.size w6 (.slice (some ⟨gg2, 0, none⟩) (q + 1) cap2) (ownL (q + 1)) ∧ Below w.heap.size w w6) := Lib.hid
        ⟨hu6.owns H5.out.1 (own_apart H5.out.1 HOI.out (by decide)), ho6, H5.out.2.2.trans (hu6.below hbs5 (fun k hk => by simp at hk; exact (HOI.out.lt k hk).1))⟩
      clear ho6 hown6 hu6 hgg6 HOI H5 hbs5
      go_wp2_with fail
      go_roundw
      case rel => exact ⟨q + 1, some ⟨gg, 0, none⟩, some ⟨gg2, 0, none⟩, cap', cap2, by omega, by go_num, rfl, rfl, H6⟩
      case measure => simp [intOf] <;> omega
    · obtain rfl : q = A := by omega
      obtain ⟨W1, rfl⟩ : ∃ W, W = wr := ⟨wr, rfl⟩
      have hlt : ∀ k, (Value.slice oa q oc).ownBlock = some k → k < W1.heap.size := fun k hk => (HI.out.2.1.lt k hk).2
      have HT0 : Hid (SB w W1 W1 q 0 (.slice ea q ec) (.slice oa q oc) (.slice none 0 0)) := Lib.hid ⟨by simpa [esB] using HI.out.1, HI.out.2.1, OwnInts.nil _ _, hlt, HI.out.2.2, Nat.le_refl _⟩
      have HW1 := Lib.hid HI.out.2.2.size
      clear HI hlt hq hqA
      go_wp2_with fail
      go_loopw [9, 11, 13] (fun ev tv i wr => ∃ (r : Nat) (ea ta : Option Addr) (ec tc : Nat), r ≤ B ∧ i = .int .i64 r ∧ ev = .slice ea (q + r) ec ∧ tv = .slice ta r tc ∧ Hid (SB w W1 wr q r ev (.slice oa q oc) tv)) (fun _ _ i _ => B - (intOf i).toNat)
      case atStart => exact ⟨0, ea, none, ec, 0, by omega, rfl, rfl, rfl, HT0⟩
      case round =>
        obtain ⟨r, ea, ta, ec, tc, hr, rfl, rfl, rfl, HI⟩ := hrel
        clear HT0
        by_cases hrB : r < B
        · have q0 : (0 : Int) ≤ r := by omega
          have q1 : (r : Int) < B := by omega
          have ew1 := IntWalk.i64_in (11 + (r : Int)) (by omega)
          have ew2 := IntWalk.i64_in (2 + (r : Int) % 2) (by omega)
          have HOE : Hid (wr.ownsRow w.heap.size 35 3 (.slice ea (q + r) ec) (q + r) (cellsE (esA q ++ esB r))) := Lib.hid (by
            have := HI.out.e
            unfold OwnEns at this
            rwa [List.length_append, esA_len, esB_len] at this)
          have HBS := Lib.hid HI.out.bel.size
          have hq8 : q + r ≤ 16 := by omega
          clear hr
          go_wp2_with (at_builtin; refine wpList_append_put wr rfl (.tmp 43) (.tmp 50) 23 rfl w.heap.size 35 3 24 Try.infoEnd (by kernel_rfl) rfl (by decide) (.slice ea (q + r) ec) (q + r) (cellsE (esA q ++ esB r)) rfl HOE.out [.int .i64 (11 + (r : Int)), .int .i64 0, .int .i64 (2 + (r : Int) % 2)] rfl rfl rfl (by unfold maxLen; omega) (by omega) HBS.out ?_)
          intro gg cap' w5 hown hu hgg
          have he5 : OwnEns w.heap.size w5 (.slice (some ⟨gg, 0, none⟩) (q + r + 1) cap') (esA q ++ esB (r + 1)) := by
            rw [esB_succ, ← List.append_assoc]
            unfold OwnEns
            rw [cellsE_snoc, List.length_append, List.length_append, esA_len, esB_len]
            exact hown
          have ho5 : OwnInts w.heap.size w5 (.slice oa q oc) (ownL q) := hu.owns HI.out.o (own_apart HI.out.o HOE.out (by decide))
          have ht5 : OwnInts W1.heap.size w5 (.slice ta r tc) (othL r) := hu.owns HI.out.t (own_apart HI.out.t HOE.out (by decide))
          have hb5 : Below w.heap.size w w5 := HI.out.bel.trans (hu.below HBS.out (fun k hk => by simp at hk; exact (HOE.out.lt k hk).1))
          have hle5 : W1.heap.size ≤ w5.heap.size := Nat.le_trans HI.out.le hu.size
          have H5 := Lib.hid (And.intro he5 (And.intro ho5 (And.intro ht5 (And.intro hb5 HI.out.lt))))
          have HOI : Hid (w5.ownsRow W1.heap.size 3 1 (.slice ta r tc) r ((othL r).map (Value.int .i64))) := Lib.hid (by
            have := ht5
            unfold OwnInts at this
            rwa [othL_len] at this)
          clear he5 ho5 ht5 hb5 hown hu hgg HOE HBS HI
          go_wp2_with (at_builtin; refine wpList_append_put w5 rfl (.tmp 52) (.tmp 55) 22 rfl W1.heap.size 3 1 8 Try.infoInt (by kernel_rfl) rfl (by decide) (.slice ta r tc) r ((othL r).map (Value.int .i64)) rfl HOI.out [.int .i64 (11 + (r : Int))] rfl rfl rfl (by unfold maxLen; omega) (by omega) hle5 ?_)
          intro gg2 cap2 w6 hown6 hu6 hgg6
          have ht6 : OwnInts W1.heap.size w6 (.slice (some ⟨gg2, 0, none⟩) (r + 1) cap2) (othL (r + 1)) := by
            rw [othL_succ]
            exact OwnInts.of hown6 (by simp [othL_len]) (by simp)
          have H6 : Hid (SB w W1 w6 q (r + 1) (.slice (some ⟨gg, 0, none⟩) (q + (r + 1)) cap') (.slice oa q oc) (.slice (some ⟨gg2, 0, none⟩) (r + 1) cap2)) := Lib.hid
            ⟨hu6.owns H5.out.1 (own_apart H5.out.1 HOI.out (by decide)), hu6.owns H5.out.2.1 (fun k hk hk2 => by
              have h1 := H5.out.2.2.2.2 k hk
              have h2 := (HOI.out.lt k (by simpa using hk2)).1
              omega), ht6, H5.out.2.2.2.2, H5.out.2.2.2.1.trans (hu6.below H5.out.2.2.2.1.size (fun k hk => by
              simp at hk
              have h2 := (HOI.out.lt k hk).1
              have := HW1.out
              omega)), Nat.le_trans hle5 hu6.size⟩
          clear ht6 hown6 hu6 hgg6 HOI H5 hle5
          go_wp2_with fail
          go_roundw
          case rel => exact ⟨r + 1, some ⟨gg, 0, none⟩, some ⟨gg2, 0, none⟩, cap', cap2, by omega, by go_num, rfl, rfl, H6⟩
          case measure => simp [intOf] <;> omega
        · obtain rfl : r = B := by omega
          clear hr hrB
          have hw2 := HI.out.le
          obtain ⟨W2, rfl⟩ : ∃ W, W = wr := ⟨wr, rfl⟩
          go_wp2_with fail
          refine (CD.out _).mono ?_
          rintro e w' ⟨rfl, rfl⟩
          clear CD
          have HO1 := Lib.hid (OwnInts.fresh W2.heap.size W2 (Nat.le_refl _))
          have hu3 := Upd.alloc [] W2 (.cells #[] 3)
          have HI3 := Lib.hid (HI.out.next hu3)
          obtain ⟨o1, o2, hov, hro⟩ := HI3.out.o.row
          rw [ownL_len] at hov hro
          cases hov
          have HRO := Lib.hid hro
          have hsz1 : W2.heap.size ≤ (W2.alloc (.cells #[] 3)).heap.size := by simp
          clear hro hu3
          go_wp2_with (at_builtin; refine wpList_append_view (W2.alloc (.cells #[] 3)) rfl (.tmp 59) (.tmp 60) 22 rfl W2.heap.size 3 1 8 Try.infoInt (by kernel_rfl) rfl (by decide) (.slice (some ⟨W2.heap.size, 0, none⟩) 0 0) 0 [] rfl HO1.out oa q oc ((ownL q).map (Value.int .i64)) rfl HRO.out (int_cells _ _) (by unfold maxLen; omega) (by omega) hsz1 ?_)
          intro v4 w4 hown4 hu4
          have ho4 : OwnInts W2.heap.size w4 v4 (ownL q) := OwnInts.of hown4 (by simp [ownL_len]) (by simp)
          have hu4' : Upd [] W2 w4 := (Upd.alloc [] W2 _).trans' hu4 (fun i hi => by simp [Value.ownBlock] at hi; subst hi; exact .inr (Nat.le_refl _))
          have HO4 := Lib.hid (show w4.ownsRow W2.heap.size 3 1 v4 q ((ownL q).map (Value.int .i64)) by have := ho4; unfold OwnInts at this; rwa [ownL_len] at this)
          have hsz4 := hu4'.size
          have HI4 := Lib.hid (HI.out.next hu4')
          have HU4 := Lib.hid hu4'
          obtain ⟨o3, o4, hot, hrt⟩ := HI4.out.t.row
          rw [othL_len] at hot hrt
          cases hot
          have HRT := Lib.hid hrt
          clear hown4 hu4 ho4 hu4' hrt HO1 HI3 HRO hsz1
          go_wp2_with (at_builtin; refine wpList_append_view w4 rfl (.tmp 61) (.tmp 62) 22 rfl W2.heap.size 3 1 8 Try.infoInt (by kernel_rfl) rfl (by decide) v4 q ((ownL q).map (Value.int .i64)) rfl HO4.out ta r tc ((othL r).map (Value.int .i64)) rfl HRT.out (int_cells _ _) (by unfold maxLen; omega) (by omega) hsz4 ?_)
          intro v5 w5 hown5 hu5
          have ho5 : OwnInts W2.heap.size w5 v5 (ownL q ++ othL r) := OwnInts.of hown5 (by simp [ownL_len, othL_len]) (by simp)
          have hu5' : Upd [] W2 w5 := HU4.out.trans' hu5 (fun i hi => .inr (HO4.out.lt i (by simpa using hi)).1)
          have hI5 := HI.out.next hu5'
          have hal : (ownL q ++ othL r).length = q + r := by rw [List.length_append, ownL_len, othL_len]
          obtain ⟨ag, ac, rfl, hac, -, hcell⟩ := ho5.some (by rw [hal]; omega)
          have hr1 : I64s (ownL q ++ othL r) := fun z hz => by have := HSP.out.r z hz; omega
          have hsp : SP w w5 q r (.slice ea (q + r) ec) (.slice oa q oc) (.slice ta r tc) (.slice (some ⟨ag, 0, none⟩) (q + r) ac) (.slice (some ⟨ag, 1, none⟩) (q + r - 1) (ac - 1)) := by
            refine ⟨hI5.bel, ⟨hI5.e.isIn (by rw [List.length_append, esA_len, esB_len]; omega), HSP.out.nodup, HSP.out.ids, by rw [List.length_append, esA_len, esB_len]; omega⟩, hI5.o.isIn (fun z hz => hr1 z (List.mem_append_left _ hz)), hI5.t.isIn (fun z hz => hr1 z (List.mem_append_right _ hz)), ?_, intsIn_tail hcell (by rw [List.length_tail, hal]) (by rw [hal]; omega) hr1, HSP.out, A8, B8⟩
            have := ho5.isIn hr1
            rwa [hal] at this
          have HS := Lib.hid hsp
          rw [hal]
          rw [hal] at hac
          have hac1 : ¬ ac = 1 := by omega
          have hq1 : (1 : Int) ≤ ((q + r : Nat) : Int) := by omega
          obtain ⟨M, hM⟩ : ∃ M, q + r = M := ⟨_, rfl⟩
          rw [hM] at HS hac hq1
          rw [hM]
          clear hown5 hu5 ho5 hu5' hI5 hal hcell hr1 hsp HO4 HI4 HU4 hsz4 HRT HI
          obtain ⟨J, hJ⟩ : ∃ J : Nat, q = J + 1 := ⟨q - 1, by omega⟩
          have hqJ : (q : Int) - 1 = J := by omega
          obtain ⟨R, hR⟩ : ∃ R, 100 * (J : Int) / q = R := ⟨_, rfl⟩
          have hRr : 0 ≤ R ∧ R ≤ 10000 := by
            rw [← hR]
            exact ⟨Int.ediv_nonneg (by omega) (by omega), Int.le_trans (Int.ediv_le_self _ (by omega)) (by omega)⟩
          have ewJ : IntKind.i64.wrap ((q : Int) - 1) = (J : Int) := by rw [hqJ]; exact IntWalk.i64_in _ (by omega)
          have ewC := IntWalk.i64_in (100 * (J : Int)) (by omega)
          have ewR : IntKind.i64.wrap ((100 * (J : Int)).tdiv q) = R := by rw [tdiv_nonneg _ _ (by omega), hR]; exact IntWalk.i64_in _ (by omega)
          have hq0 : ¬ (q : Int) = 0 := by omega
          have h4 : homeOf (esA q ++ esB r) (ownL q ++ othL r).tail 1 = R := by rw [HSP.out.h4, hqJ, hR]
          have L1 := Lib.hid (fun W (h : SP w W q r (.slice ea M ec) (.slice oa q oc) (.slice ta r tc) (.slice (some ⟨ag, 0, none⟩) M ac) (.slice (some ⟨ag, 1, none⟩) (M - 1) (ac - 1))) => h.home h.i3 h.len.2.2.1 h.s.h1)
          have L2 := Lib.hid (fun W (h : SP w W q r (.slice ea M ec) (.slice oa q oc) (.slice ta r tc) (.slice (some ⟨ag, 0, none⟩) M ac) (.slice (some ⟨ag, 1, none⟩) (M - 1) (ac - 1))) => h.home h.i2 h.len.2.1 h.s.h2)
          have L3 := Lib.hid (fun W (h : SP w W q r (.slice ea M ec) (.slice oa q oc) (.slice ta r tc) (.slice (some ⟨ag, 0, none⟩) M ac) (.slice (some ⟨ag, 1, none⟩) (M - 1) (ac - 1))) => h.home h.i1 h.len.1 h.s.h3)
          have L4 := Lib.hid (fun W (h : SP w W q r (.slice ea M ec) (.slice oa q oc) (.slice ta r tc) (.slice (some ⟨ag, 0, none⟩) M ac) (.slice (some ⟨ag, 1, none⟩) (M - 1) (ac - 1))) => h.home h.i4 h.len.2.2.2 h4)
          have G1 := Lib.hid (fun W (h : SP w W q r (.slice ea M ec) (.slice oa q oc) (.slice ta r tc) (.slice (some ⟨ag, 0, none⟩) M ac) (.slice (some ⟨ag, 1, none⟩) (M - 1) (ac - 1))) => h.among (p := 100) (d := D) h.i3 h.len.2.2.1 (by omega) (by omega) (h.s.i1 HD.out.1 HD.out.2) h.r.1)
          have G2 := Lib.hid (fun W (h : SP w W q r (.slice ea M ec) (.slice oa q oc) (.slice ta r tc) (.slice (some ⟨ag, 0, none⟩) M ac) (.slice (some ⟨ag, 1, none⟩) (M - 1) (ac - 1))) => h.among (p := 0) (d := D) h.i2 h.len.2.1 (by omega) (by omega) (h.s.i2 HD.out.1) h.r.2.1)
          have G3 := Lib.hid (fun W (h : SP w W q r (.slice ea M ec) (.slice oa q oc) (.slice ta r tc) (.slice (some ⟨ag, 0, none⟩) M ac) (.slice (some ⟨ag, 1, none⟩) (M - 1) (ac - 1))) => h.among (v := .slice none 0 0) (l := []) (p := 1) (d := D) (intsIn_nil _ _ _) (by simp) (by omega) (by omega) h.s.i3 h.r.2.2)
          have M1 := Lib.hid (fun W v (h : SP w W q r (.slice ea M ec) (.slice oa q oc) (.slice ta r tc) (.slice (some ⟨ag, 0, none⟩) M ac) (.slice (some ⟨ag, 1, none⟩) (M - 1) (ac - 1))) (hv : IntsIn W v (ownL q)) => h.same hv h.i1 h.len.1)
          have M2 := Lib.hid (fun W v (h : SP w W q r (.slice ea M ec) (.slice oa q oc) (.slice ta r tc) (.slice (some ⟨ag, 0, none⟩) M ac) (.slice (some ⟨ag, 1, none⟩) (M - 1) (ac - 1))) (hv : IntsIn W v (othL r)) => h.same hv h.i2 h.len.2.1)
          have M3 := Lib.hid (fun W v (h : SP w W q r (.slice ea M ec) (.slice oa q oc) (.slice ta r tc) (.slice (some ⟨ag, 0, none⟩) M ac) (.slice (some ⟨ag, 1, none⟩) (M - 1) (ac - 1))) (hv : IntsIn W v (ownL q ++ othL r)) => h.same hv h.i3 h.len.2.2.1)
          have LL := Lib.hid (fun W (h : SP w W q r (.slice ea M ec) (.slice oa q oc) (.slice ta r tc) (.slice (some ⟨ag, 0, none⟩) M ac) (.slice (some ⟨ag, 1, none⟩) (M - 1) (ac - 1))) => h.lives)
          have hs := HS.out.next ((Upd.drew [] w5).below (Nat.le_refl _) (by simp))
          obtain ⟨Q, hQ⟩ : ∃ Q : Int, (q : Int) = Q := ⟨_, rfl⟩
          have hQ0 : (Q == 0) = false := by simp; omega
          rw [hQ] at ewJ ewR hq0
          rw [hQ]
          clear hqJ hR h4 hJ HS HD HSP hRr hQ
          go_upto_region 18 with fail
          go_region_held3 (fun W => SP w W q r (.slice ea M ec) (.slice oa q oc) (.slice ta r tc) (.slice (some ⟨ag, 0, none⟩) M ac) (.slice (some ⟨ag, 1, none⟩) (M - 1) (ac - 1)))
            (assumption)
            (first
              | (go_at_call 12; with_reducible refine (L1.out _ ?_).mono ?_; (first | assumption); rintro e w' ⟨rfl, k⟩)
              | (go_at_call 12; with_reducible refine (L2.out _ ?_).mono ?_; (first | assumption); rintro e w' ⟨rfl, k⟩)
              | (go_at_call 12; with_reducible refine (L3.out _ ?_).mono ?_; (first | assumption); rintro e w' ⟨rfl, k⟩)
              | (go_at_call 12; with_reducible refine (L4.out _ ?_).mono ?_; (first | assumption); rintro e w' ⟨rfl, k⟩)
              | (go_at_call 15; with_reducible refine (G1.out _ ?_).mono ?_; (first | assumption); rintro e w' ⟨x, n, c, rfl, hi, k⟩)
              | (go_at_call 15; with_reducible refine (G2.out _ ?_).mono ?_; (first | assumption); rintro e w' ⟨x, n, c, rfl, hi, k⟩)
              | (go_at_call 15; with_reducible refine (G3.out _ ?_).mono ?_; (first | assumption); rintro e w' ⟨x, n, c, rfl, hi, k⟩)
              | (go_at_call 14; with_reducible refine (M1.out _ _ ?_ ?_).mono ?_; (first | assumption); (first | assumption); rintro e w' ⟨rfl, k⟩)
              | (go_at_call 14; with_reducible refine (M2.out _ _ ?_ ?_).mono ?_; (first | assumption); (first | assumption); rintro e w' ⟨rfl, k⟩)
              | (go_at_call 14; with_reducible refine (M3.out _ _ ?_ ?_).mono ?_; (first | assumption); (first | assumption); rintro e w' ⟨rfl, k⟩)
              | (go_at_call 19; with_reducible refine (LL.out _ ?_).mono ?_; (first | assumption); rintro e w' ⟨rfl, k⟩))
          all_goals go_wp2_with fail
          all_goals go_ret
          all_goals exact ⟨rfl, k.bel⟩
end Go.Proofs.Ythblblkifkndiaa
