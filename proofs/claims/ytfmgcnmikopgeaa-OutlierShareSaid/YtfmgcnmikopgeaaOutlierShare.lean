/- Layer 14: the walk of OutlierShare. -/
import Derived.Test.YtfmgcnmikopgeaaOutU
import Derived.Deep.DeepCutAuto
namespace Go.Proofs.Ytfmgcnmikopgeaa
open Go.RowKit
set_option maxRecDepth 100000 in
set_option maxHeartbeats 4000000 in
theorem share_walk (n : Int) (lv : Value) (zs : List Int) (w : World) (hn1 : -9223372036854775808 ≤ n) (hn2 : n ≤ 9223372036854775807) (hl : IntsIn w lv zs) :
    Calls Try.prog 5 #[.int .i64 n, lv] w (TruePost w) := by
  have CW := Lib.hid (watch_any n w hn1 hn2)
  have HKK := Lib.hid (watchN_ok n)
  obtain ⟨t, ht⟩ : ∃ t, watchN n = t := ⟨_, rfl⟩
  unfold WatchPost at CW
  rw [ht] at CW HKK
  have HLV := Lib.hid hl
  obtain ⟨la, lc, rfl, -, -, -⟩ := hl
  obtain ⟨ln, hln⟩ : ∃ n, zs.length = n := ⟨_, rfl⟩
  rw [hln] at HLV ⊢
  clear hn1 hn2 ht hln
  go_enter Try.func5, Try.ntmps5
  go_wp2_with fail
  refine CW.out.mono ?_
  rintro e w1 ⟨rfl, hb1⟩
  have HW2 : Hid (∃ W X, W = w1.alloc (.cells #[.int .i64 t.errors, .int .i64 t.window, .int .i64 t.dev, .int .i64 t.slow, .int .i64 t.share, .int .i64 t.base, .int .i64 t.top] 24) ∧ X = w1.heap.size ∧ BlockAt W X 24 t.cells ∧ Below w.heap.size w W) := Lib.hid
    ⟨_, _, rfl, rfl, BlockAt.new w1 24 t.cells, hb1.alloc hb1.size _⟩
  unfold Wt.val
  clear hb1 CW
  go_upto_region 2 with fail
  obtain ⟨W2, X, hW2, hX, hbx, hb2⟩ := HW2.out
  rw [← hX]
  rw [← hW2]
  have HS0 : Hid (BlockAt W2.drew X 24 t.cells ∧ Below w.heap.size w W2.drew) := Lib.hid ⟨hbx.drew, hb2.trans ((Upd.drew [] W2).below hb2.size (by simp))⟩
  have CE := Lib.hid (fun (W : World) (h : Hid (BlockAt W X 24 t.cells ∧ Below w.heap.size w W)) => ends_at W h)
  have CN := Lib.hid (fun (W : World) (g : Nat) (h : Hid (BlockAt W X 24 t.cells ∧ Below w.heap.size w W)) hi => new_at W g h hi)
  have LW := Lib.hid (fun (W : World) (h : Hid (BlockAt W X 24 t.cells ∧ Below w.heap.size w W)) => load_watch h.out.1)
  obtain ⟨vt, hvt⟩ : ∃ v, t.val = v := ⟨_, rfl⟩
  rw [hvt] at CN LW
  clear HW2 hW2 hX hbx hb2 hvt
  refine wp_region_held_drew (S := fun W' => Hid (BlockAt W' X 24 t.cells ∧ Below w.heap.size w W')) (by kernel_rfl) HS0 (fun hHeld => ?_)
  refine wpAnyH_take (i := 0) (v := vt) rfl (by kernel_rfl) (by kernel_rfl) (by kernel_rfl) (fun _ _ _ h => h) (Or.inl ⟨by rfl, ?ys0⟩) (by assumption) ?rs0
  case ys0 =>
    intro W hSw
    apply LW.out W hSw <;> rfl
  try simp only [List.getElem_toArray, List.getElem_cons_zero, List.getElem_cons_succ, Act.put, List.setIfInBounds_toArray, List.set_cons_zero, List.set_cons_succ]
  refine wpAnyH_ready (rs := [1]) (by kernel_rfl) (by simp) ?_
  refine AllReadyH.cons rfl (fun K hK => ?_) AllReadyH.nil
  go_simp
  go_at_call 9
  refine (CE.out _ hHeld).mono ?_
  rintro e w' ⟨g, rfl, hin, k⟩
  have HIN := Lib.hid hin
  refine hK.out _ _ k (fun hHeld2 => ?_)
  clear hin
  clear hK K hHeld
  have hHeld := hHeld2
  clear hHeld2
  try simp only [List.getElem_toArray, List.getElem_cons_zero, List.getElem_cons_succ, Act.put, List.setIfInBounds_toArray, List.set_cons_zero, List.set_cons_succ]
  refine wpAnyH_ready (rs := [2]) (by kernel_rfl) (by simp) ?_
  refine AllReadyH.cons rfl (fun K hK => ?_) AllReadyH.nil
  go_simp
  go_at_call 8
  refine (CN.out _ g hHeld HIN.out).mono ?_
  rintro e w' ⟨b, m, B, rfl, hg, k⟩
  have HG := Lib.hid hg
  refine hK.out _ _ k (fun hHeld2 => ?_)
  clear hg
  clear hK K hHeld
  have hHeld := hHeld2
  clear hHeld2
  try simp only [List.getElem_toArray, List.getElem_cons_zero, List.getElem_cons_succ, Act.put, List.setIfInBounds_toArray, List.set_cons_zero, List.set_cons_succ]
  refine wpAnyH_take (i := 3) (v := ?vs3) rfl (by kernel_rfl) (by kernel_rfl) (by kernel_rfl) (fun _ _ _ h => h) (Or.inl ⟨by rfl, ?ys3⟩) (by assumption) ?rs3
  case ys3 =>
    intro W hSw
    go_simp
    all_goals with_reducible rfl
  try simp only [List.getElem_toArray, List.getElem_cons_zero, List.getElem_cons_succ, Act.put, List.setIfInBounds_toArray, List.set_cons_zero, List.set_cons_succ]
  refine wpAnyH_done (by kernel_rfl) ?_ _
  have HR0 : Hid (∃ W, W = w' ∧ GAt w.heap.size W b t 0 m 4 B (fun _ => zeroE) ∧ Below w.heap.size w W ∧ BlockAt W X 24 t.cells) := Lib.hid ⟨w', rfl, HG.out, hHeld.out.2, hHeld.out.1⟩
  clear HG HIN CE CN LW HS0
  have HR1 : Hid (RS w w'.drew X b m B t 0 (fun _ => zeroE) (.slice none 0 0) []) := Lib.hid (by
    obtain ⟨W, rfl, h1, h2, h3⟩ := HR0.out
    exact RS.next ⟨h1, h2, h3, World.ownsRow_nil _ _ _ _⟩ (Upd.drew [] _))
  have CE2 := Lib.hid (fun (W : World) (h : Hid (RS w W X b m B t 0 (fun _ => zeroE) (.slice none 0 0) [])) => RS.ends h)
  have hs0 := HKK.out.s0
  have hs1 := HKK.out.s1
  have HSH := Lib.hid (show 4 * t.share / 100 = t.share * 4 / 100 by rw [Int.mul_comm])
  have ewS := IntWalk.i64_in (t.share * 4) (by omega)
  have CD := Lib.hid (fun w => down_any (t.share * 4) 100 w (by omega) (by omega) (by omega) (by omega))
  clear hHeld HR0 k hs0 hs1
  go_upto_region 5 with fail
  refine wp_region_held_drew (S := fun W' => Hid (RS w W' X b m B t 0 (fun _ => zeroE) (.slice none 0 0) [])) (by kernel_rfl) HR1 (fun hHeld => ?_)
  refine wpAnyH_take (i := 0) (v := ?vm0) rfl (by kernel_rfl) (by kernel_rfl) (by kernel_rfl) (fun _ _ _ h => h) (Or.inl ⟨by rfl, ?ym0⟩) (by assumption) ?rm0
  case ym0 =>
    intro W hSw
    go_simp
    all_goals with_reducible rfl
  try simp only [List.getElem_toArray, List.getElem_cons_zero, List.getElem_cons_succ, Act.put, List.setIfInBounds_toArray, List.set_cons_zero, List.set_cons_succ]
  refine wpAnyH_take (i := 1) (v := ?vm1) rfl (by kernel_rfl) (by kernel_rfl) (by kernel_rfl) (fun _ _ _ h => h) (Or.inl ⟨by rfl, ?ym1⟩) (by assumption) ?rm1
  case ym1 =>
    intro W hSw
    have hc := hSw.out.x.cell 4 _ rfl
    go_simp
    all_goals with_reducible rfl
  try simp only [List.getElem_toArray, List.getElem_cons_zero, List.getElem_cons_succ, Act.put, List.setIfInBounds_toArray, List.set_cons_zero, List.set_cons_succ]
  refine wpAnyH_ready (rs := [2]) (by kernel_rfl) (by simp) ?_
  refine AllReadyH.cons rfl (fun K hK => ?_) AllReadyH.nil
  go_simp
  go_at_call 9
  refine (CE2.out _ hHeld).mono ?_
  rintro e w' ⟨g2, rfl, k⟩
  refine hK.out _ _ k (fun hHeld2 => ?_)
  clear hK K hHeld
  have hHeld := hHeld2
  clear hHeld2
  try simp only [List.getElem_toArray, List.getElem_cons_zero, List.getElem_cons_succ, Act.put, List.setIfInBounds_toArray, List.set_cons_zero, List.set_cons_succ]
  refine wpAnyH_take (i := 3) (v := ?vm3) rfl (by kernel_rfl) (by kernel_rfl) (by kernel_rfl) (fun _ _ _ h => h) (Or.inl ⟨by rfl, ?ym3⟩) (by assumption) ?rm3
  case ym3 =>
    intro W hSw
    go_simp
    all_goals with_reducible rfl
  try simp only [List.getElem_toArray, List.getElem_cons_zero, List.getElem_cons_succ, Act.put, List.setIfInBounds_toArray, List.set_cons_zero, List.set_cons_succ]
  refine wpAnyH_take (i := 4) (v := ?vm4) rfl (by kernel_rfl) (by kernel_rfl) (by kernel_rfl) (fun _ _ _ h => h) (Or.inl ⟨by rfl, ?ym4⟩) (by assumption) ?rm4
  case ym4 =>
    intro W hSw
    go_simp
    all_goals with_reducible rfl
  try simp only [List.getElem_toArray, List.getElem_cons_zero, List.getElem_cons_succ, Act.put, List.setIfInBounds_toArray, List.set_cons_zero, List.set_cons_succ]
  refine wpAnyH_ready (rs := [5]) (by kernel_rfl) (by simp) ?_
  refine AllReadyH.cons rfl (fun K hK => ?_) AllReadyH.nil
  go_simp
  go_at_call 18
  refine (CD.out _).mono ?_
  rintro e w' ⟨rfl, rfl⟩
  refine hK.out _ _ hHeld (fun hHeld2 => ?_)
  clear hK K hHeld
  have hHeld := hHeld2
  clear hHeld2
  try simp only [List.getElem_toArray, List.getElem_cons_zero, List.getElem_cons_succ, Act.put, List.setIfInBounds_toArray, List.set_cons_zero, List.set_cons_succ]
  refine wpAnyH_take (i := 6) (v := ?vm6) rfl (by kernel_rfl) (by kernel_rfl) (by kernel_rfl) (fun _ _ _ h => h) (Or.inl ⟨by rfl, ?ym6⟩) (by assumption) ?rm6
  case ym6 =>
    intro W hSw
    go_simp
    all_goals with_reducible rfl
  try simp only [List.getElem_toArray, List.getElem_cons_zero, List.getElem_cons_succ, Act.put, List.setIfInBounds_toArray, List.set_cons_zero, List.set_cons_succ]
  refine wpAnyH_done (by kernel_rfl) ?_ _
  obtain ⟨MO, hMO⟩ : ∃ x, t.share * 4 / 100 = x := ⟨_, rfl⟩
  have HMO := Lib.hid (show 4 * t.share / 100 = MO by rw [HSH.out]; exact hMO)
  rw [hMO]
  clear hMO HSH
  go_wp2_with fail
  have CA := Lib.hid (acts_any (.slice la ln lc) zs w' (HLV.out.keep (Upd.ofBelow hHeld.out.st) (by simp)))
  refine CA.out.mono ?_
  rintro e w3 ⟨av, l, rfl, ha, hb3, hl40, hok⟩
  obtain ⟨ao, cap, rfl⟩ := acts_len ha
  have HR3 : Hid (RS w w3 X b m B t 0 (fun _ => zeroE) (.slice ao l.length cap) l) := Lib.hid (by
    have h := hHeld.out
    exact ⟨h.g.next (Upd.ofBelow hb3), h.st.trans (hb3.mono h.st.size), h.x.keep (Upd.ofBelow hb3) (by simp), ownsRow_mono ha h.st.size⟩)
  have HOK := Lib.hid hok
  obtain ⟨nl, hnl⟩ : ∃ n, l.length = n := ⟨_, rfl⟩
  have HNL := Lib.hid hnl
  rw [hnl] at HR3 hl40 ⊢
  have hl40' : (nl : Int) ≤ 40 := by omega
  clear ha hb3 hok hnl CA hHeld HLV hl40 HR1 CE2 CD ewS
  have HI0 := Lib.hid (ShareI.zero t HKK.out.s0)
  go_wp2_with fail
  go_loopw [9, 10, 11, 12, 13, 14] (fun nv iv _ _ _ _ wr => ∃ (q : Nat) (now frm : Int) (S : Nat → Es), q ≤ nl ∧ iv = .int .i64 q ∧ nv = .int .i64 now ∧ 0 ≤ now ∧ now ≤ 3 * q ∧ 0 ≤ frm ∧ frm ≤ now ∧ Hid (ShareI t now (q : Int) S) ∧ Hid (RS w wr X b m B t frm S (.slice ao nl cap) l)) (fun _ i _ _ _ _ _ => nl - (intOf i).toNat)
  case atStart => exact ⟨0, 0, 0, _, by omega, rfl, rfl, by omega, by omega, by omega, by omega, HI0, HR3⟩
  case round =>
    obtain ⟨q, now, frm, S, hq, rfl, rfl, hn0, hn1, hf0, hf1, HI, HR⟩ := hrel
    clear HI0 HR3
    by_cases hqn : q < nl
    · obtain ⟨a, ha⟩ : ∃ a, l[q]? = some a := ⟨l[q]'(by have := HNL.out; omega), List.getElem?_eq_getElem _⟩
      have hok := HOK.out a (List.mem_of_getElem? ha)
      obtain ⟨ga, rfl, hc⟩ := act_at HR.out.a ha
      have c0 := hc 0 _ rfl
      have c1 := hc 1 _ rfl
      have c2 := hc 2 _ rfl
      have c3 := hc 3 _ rfl
      have c4 := hc 4 _ rfl
      have c5 := hc 5 _ rfl
      have q0 : (0 : Int) ≤ q := by omega
      have q1 : (q : Int) < nl := by omega
      obtain ⟨La, To, Id, Wl, Tk, Is, Il, Ic⟩ := a
      dsimp only at c0 c1 c2 c3 c4 c5
      rw [Nat.add_zero] at c0
      have o0 := hok.later
      have o3 := hok.took
      have o1 := hok.todo
      dsimp only at o0 o1 o3
      obtain ⟨T, hT⟩ : ∃ k : Nat, Tk = (k : Int) := ⟨Tk.toNat, by omega⟩
      rw [hT] at c4 o3
      have ewn := IntWalk.i64_in (now + La) (by omega)
      clear ha hok hc hT
      go_upto_region 12 with fail
      have HW4 : Hid (∃ W A, W = wr.alloc (.cells #[.int .i64 La, .int .i64 To, .int .i64 Id, .bool Wl, .int .i64 T, .slice Is Il Ic] 32) ∧ A = wr.heap.size ∧ BlockAt W A 32 [.int .i64 La, .int .i64 To, .int .i64 Id, .bool Wl, .int .i64 T, .slice Is Il Ic] ∧ RS w W X b m B t frm S (.slice (some ⟨ga, 0, none⟩) nl cap) l) := Lib.hid
        ⟨_, _, rfl, rfl, BlockAt.new wr 32 [.int .i64 La, .int .i64 To, .int .i64 Id, .bool Wl, .int .i64 T, .slice Is Il Ic], HR.out.next (Upd.alloc [] wr _)⟩
      obtain ⟨W4, A, hW4, hA, hba, hr4⟩ := HW4.out
      rw [← hA]
      rw [← hW4]
      have d0 := hba.cell 0 _ rfl
      have d1 := hba.cell 1 _ rfl
      have d2 := hba.cell 2 _ rfl
      have d3 := hba.cell 3 _ rfl
      have d4 := hba.cell 4 _ rfl
      obtain ⟨nx, hnx⟩ : ∃ x, now + La = x := ⟨_, rfl⟩
      have hx0 : 0 ≤ nx ∧ now ≤ nx ∧ nx ≤ 3 * q + 3 := by omega
      have HX := Lib.hid hx0
      rw [hnx] at ewn
      have HIL := Lib.hid (HI.out.later (show now ≤ nx by omega) (Int.le_refl _))
      have CNT := Lib.hid (hr4.note HKK.out.ok (c := (q : Int)) (now := nx) (k := Id) (took := T) (by omega) HI.out.ok (by omega) (by omega) (by omega) Wl)
      have CT := Lib.hid (hr4.tick HKK.out (c := (q : Int)) (now := nx) (by omega) (by omega) HI.out.ok (by omega) (by omega) hf0 (by omega))
      have HR4 := Lib.hid hr4
      clear HW4 hW4 hA hba hr4 c0 c1 c2 c3 c4 c5 hx0
      go_upto_if 46 with fail
      go_cut [] (fun wx => ∃ S1 frm1, Hid (ShareI t nx ((q + 1 : Nat) : Int) S1 ∧ RS w wx X b m B t frm1 S1 (.slice (some ⟨ga, 0, none⟩) nl cap) l ∧ 0 ≤ frm1 ∧ frm1 ≤ nx))
      case first =>
        rcases (show To = 2 ∨ To = 3 ∨ To < 2 by omega) with rfl | rfl | h2
        · go_wp2_with fail
          refine CT.out.mono ?_
          rintro e w6 ⟨ao2, ac2, bo2, bc2, S2, frm2, out2, rfl, hti, hr6⟩
          have HM : Hid (∃ S1 frm1, Hid (ShareI t nx ((q + 1 : Nat) : Int) S1 ∧ RS w w6 X b m B t frm1 S1 (.slice (some ⟨ga, 0, none⟩) nl cap) l ∧ 0 ≤ frm1 ∧ frm1 ≤ nx)) := Lib.hid ⟨S2, frm2, Lib.hid ⟨by have := HIL.out.tick HKK.out HX.out.1 (by omega) hti; rw [show ((q + 1 : Nat) : Int) = (q : Int) + 1 by omega]; exact this, hr6, hti.frm hf0 (by have := HX.out; omega)⟩⟩
          clear hti hr6 CT CNT
          go_wp2_with fail
          go_meet
          exact HM.out
        · have HM : Hid (∃ S1 frm1, Hid (ShareI t nx ((q + 1 : Nat) : Int) S1 ∧ RS w W4 X b m B t frm1 S1 (.slice (some ⟨ga, 0, none⟩) nl cap) l ∧ 0 ≤ frm1 ∧ frm1 ≤ nx)) := Lib.hid ⟨S, frm, Lib.hid ⟨HIL.out.later (Int.le_refl _) (by omega), HR4.out, hf0, by have := HX.out; omega⟩⟩
          go_wp2_with fail
          go_meet
          exact HM.out
        · have h3 : (To == 2) = false := by rw [beq_eq_false_iff_ne]; omega
          have h4 : decide (To < 2) = true := by simpa using h2
          clear h2
          go_wp2_with fail
          refine CNT.out.mono ?_
          rintro e w6 ⟨S2, is2, rfl, hni, hr6⟩
          have HM : Hid (∃ S1 frm1, Hid (ShareI t nx ((q + 1 : Nat) : Int) S1 ∧ RS w w6 X b m B t frm1 S1 (.slice (some ⟨ga, 0, none⟩) nl cap) l ∧ 0 ≤ frm1 ∧ frm1 ≤ nx)) := Lib.hid ⟨S2, frm, Lib.hid ⟨by have := HIL.out.note HKK.out HX.out.1 (by omega) (by omega) hni; rw [show ((q + 1 : Nat) : Int) = (q : Int) + 1 by omega]; exact this, hr6, hf0, by have := HX.out; omega⟩⟩
          clear hni hr6 CT CNT
          go_wp2_with fail
          go_meet
          exact HM.out
      case rest =>
        obtain ⟨S1, frm1, HJ⟩ := hcut
        clear CT CNT HR4 HIL HI HR d0 d1 d2 d3 d4
        have hsi := HJ.out.1
        have hlen := len_well S1 4
        have hcap := hsi.cap
        have CWL := Lib.hid (well_any w.heap.size b t frm1 m 4 B S1 wc HJ.out.2.1.g (by decide))
        unfold SomePost at CWL
        obtain ⟨ids, hids⟩ : ∃ ids, idsOf 4 (fun i => !(S1 i).ej) = ids := ⟨_, rfl⟩
        have HMEM : Hid (∀ j, j < 4 → decide (((j : Nat) : Int) + 1 ∈ ids) = !(S1 j).ej) := Lib.hid (fun j hj => by rw [← hids]; exact well_mem S1 hj)
        have HRNG : Hid (∀ z ∈ ids, -9223372036854775808 ≤ z ∧ z ≤ 9223372036854775807) := Lib.hid (fun z hz => by
          rw [← hids] at hz
          obtain ⟨i, h1, -, h3⟩ := idsOf_mem.1 hz
          omega)
        rw [hids] at CWL hlen
        obtain ⟨li, hli⟩ : ∃ k, ids.length = k := ⟨_, rfl⟩
        have HLI := Lib.hid hli
        rw [hli] at hlen
        obtain ⟨oN, hoN⟩ : ∃ k, outN 4 S1 = k := ⟨_, rfl⟩
        rw [hoN] at hlen hcap
        rw [HMO.out] at hcap
        have li0 : (li : Int) ≤ 4 := by omega
        have hgt : decide (4 - (li : Int) > MO) = false := by simp; omega
        have ewl := IntWalk.i64_in (4 - (li : Int)) (by omega)
        have HUN := Lib.hid hsi.un
        have HTI : Hid (∀ j, j < 4 → 0 ≤ (S1 j).times) := Lib.hid (fun j hj => (hsi.ok j hj).t0)
        have HSI := Lib.hid hsi
        have HR5 := Lib.hid HJ.out.2.1
        have HF := Lib.hid HJ.out.2.2
        clear hsi hlen hcap hids hli hoN HJ
        go_wp2_with fail
        refine CWL.out.mono ?_
        rintro e w5 ⟨v5, rfl, h5, hb5⟩
        have HV5 := Lib.hid (h5.isIn HRNG.out)
        have HR6 := Lib.hid (HR5.out.next (Upd.ofBelow hb5))
        obtain ⟨vo, vc, rfl⟩ := own_len h5
        rw [HLI.out] at HV5 ⊢
        clear h5 hb5 CWL HR5 HRNG
        go_wp2_with fail
        refine (ends_any w5).mono ?_
        rintro e w6 ⟨rfl, -, hb6⟩
        have HW6 : Hid (IntsIn w6 (.slice vo li vc) ids ∧ RS w w6 X b m B t frm1 S1 (.slice (some ⟨ga, 0, none⟩) nl cap) l) := Lib.hid ⟨HV5.out.keep (Upd.ofBelow hb6) (by simp), HR6.out.next (Upd.ofBelow hb6)⟩
        clear hb6 HV5 HR6
        go_wp2_with fail
        go_loopw [13, 14] (fun iv _ wr => ∃ j : Nat, j ≤ 4 ∧ iv = .int .i64 ((j : Int) + 1) ∧ Hid (IntsIn wr (.slice vo li vc) ids ∧ RS w wr X b m B t frm1 S1 (.slice (some ⟨ga, 0, none⟩) nl cap) l)) (fun iv _ _ => 5 - (intOf iv).toNat)
        case atStart => exact ⟨0, by omega, rfl, HW6⟩
        case round =>
          obtain ⟨j, hj, rfl, HWj⟩ := hrel
          clear HW6
          by_cases hj4 : j < 4
          · have CH := Lib.hid (has_any (.slice vo li vc) ids ((j : Int) + 1) wr HWj.out.1 (by rw [HLI.out]; omega))
            rw [HMEM.out j hj4] at CH
            obtain ⟨ie, hie⟩ : ∃ x, (!(S1 j).ej) = x := ⟨_, rfl⟩
            obtain ⟨u, hu⟩ : ∃ u, (S1 j).untl = u := ⟨_, rfl⟩
            obtain ⟨tm, htm⟩ : ∃ u, (S1 j).times = u := ⟨_, rfl⟩
            have hun : (u == 0) = ie ∧ u ≤ nx + t.top := by
              have ht0 := HKK.out.t0
              have hb0 := HKK.out.b0
              have hx := HX.out
              rcases HUN.out j hj4 with ⟨h1, h2, h3⟩ | ⟨h1, h2⟩
              · rw [hu] at h2 h3
                rw [h1] at hie
                refine ⟨?_, h3⟩
                rw [← hie]
                exact beq_eq_false_iff_ne.2 (by omega)
              · rw [hu] at h2
                rw [h1] at hie
                refine ⟨?_, by omega⟩
                rw [← hie, h2]; rfl
            have htm0 := HTI.out j hj4
            rw [htm] at htm0
            have hu0 := hun.1
            have hgu : decide (u > nx + t.top) = false := by simp; omega
            have hlt : decide (tm < 0) = false := by simp; omega
            have ewt := IntWalk.i64_in (nx + t.top) (by have := HX.out; have := HKK.out.t0; have := HKK.out.t1; have := HKK.out.b0; omega)
            have CU := Lib.hid (fun (W : World) (h : Hid (RS w W X b m B t frm1 S1 (.slice (some ⟨ga, 0, none⟩) nl cap) l)) => RS.untl h hj4 hu)
            have CTM := Lib.hid (fun (W : World) (h : Hid (RS w W X b m B t frm1 S1 (.slice (some ⟨ga, 0, none⟩) nl cap) l)) => RS.times h hj4 htm)
            rw [hie] at CH
            have j0 : (0 : Int) ≤ j := by omega
            have j1 : (j : Int) + 1 ≤ 4 := by omega
            have HRd : Hid (RS w wr.drew X b m B t frm1 S1 (.slice (some ⟨ga, 0, none⟩) nl cap) l) := Lib.hid (HWj.out.2.next (Upd.drew [] wr))
            have HVd : Hid (IntsIn wr.drew (.slice vo li vc) ids) := Lib.hid (HWj.out.1.keep (Upd.drew [] wr) (by simp))
            have HJ4 := Lib.hid hj4
            clear hie hu htm hun htm0 hj hj4 HWj
            go_wp2_with fail
            refine CH.out.mono ?_
            rintro e w' ⟨rfl, rfl⟩
            clear CH
            go_upto_region 24 with fail
            refine wp_region_held_drew (S := fun W' => Hid (RS w W' X b m B t frm1 S1 (.slice (some ⟨ga, 0, none⟩) nl cap) l)) (by kernel_rfl) HRd (fun hHeld => ?_)
            refine wpAnyH_take (i := 0) (v := ?vz0) rfl (by kernel_rfl) (by kernel_rfl) (by kernel_rfl) (fun _ _ _ h => h) (Or.inl ⟨by rfl, ?yz0⟩) (by assumption) ?rz0
            case yz0 =>
              intro W hSw
              go_simp
              all_goals with_reducible rfl
            try simp only [List.getElem_toArray, List.getElem_cons_zero, List.getElem_cons_succ, Act.put, List.setIfInBounds_toArray, List.set_cons_zero, List.set_cons_succ]
            refine wpAnyH_take (i := 1) (v := ?vz1) rfl (by kernel_rfl) (by kernel_rfl) (by kernel_rfl) (fun _ _ _ h => h) (Or.inl ⟨by rfl, ?yz1⟩) (by assumption) ?rz1
            case yz1 =>
              intro W hSw
              go_simp
              all_goals with_reducible rfl
            try simp only [List.getElem_toArray, List.getElem_cons_zero, List.getElem_cons_succ, Act.put, List.setIfInBounds_toArray, List.set_cons_zero, List.set_cons_succ]
            refine wpAnyH_take (i := 2) (v := ?vz2) rfl (by kernel_rfl) (by kernel_rfl) (by kernel_rfl) (fun _ _ _ h => h) (Or.inl ⟨by rfl, ?yz2⟩) (by assumption) ?rz2
            case yz2 =>
              intro W hSw
              go_simp
              all_goals with_reducible rfl
            try simp only [List.getElem_toArray, List.getElem_cons_zero, List.getElem_cons_succ, Act.put, List.setIfInBounds_toArray, List.set_cons_zero, List.set_cons_succ]
            refine wpAnyH_ready (rs := [3]) (by kernel_rfl) (by simp) ?_
            refine AllReadyH.cons rfl (fun K hK => ?_) AllReadyH.nil
            go_simp
            go_at_call 17
            refine (CU.out _ hHeld).mono ?_
            rintro e w' ⟨rfl, rfl⟩
            refine hK.out _ _ hHeld (fun hHeld2 => ?_)
            clear hK K hHeld
            have hHeld := hHeld2
            clear hHeld2
            try simp only [List.getElem_toArray, List.getElem_cons_zero, List.getElem_cons_succ, Act.put, List.setIfInBounds_toArray, List.set_cons_zero, List.set_cons_succ]
            refine wpAnyH_take (i := 4) (v := ?vz4) rfl (by kernel_rfl) (by kernel_rfl) (by kernel_rfl) (fun _ _ _ h => h) (Or.inl ⟨by rfl, ?yz4⟩) (by assumption) ?rz4
            case yz4 =>
              intro W hSw
              go_simp
              all_goals with_reducible rfl
            try simp only [List.getElem_toArray, List.getElem_cons_zero, List.getElem_cons_succ, Act.put, List.setIfInBounds_toArray, List.set_cons_zero, List.set_cons_succ]
            refine wpAnyH_take (i := 5) (v := ?vz5) rfl (by kernel_rfl) (by kernel_rfl) (by kernel_rfl) (fun _ _ _ h => h) (Or.inl ⟨by rfl, ?yz5⟩) (by assumption) ?rz5
            case yz5 =>
              intro W hSw
              go_simp
              all_goals with_reducible rfl
            try simp only [List.getElem_toArray, List.getElem_cons_zero, List.getElem_cons_succ, Act.put, List.setIfInBounds_toArray, List.set_cons_zero, List.set_cons_succ]
            refine wpAnyH_take (i := 6) (v := ?vz6) rfl (by kernel_rfl) (by kernel_rfl) (by kernel_rfl) (fun _ _ _ h => h) (Or.inl ⟨by rfl, ?yz6⟩) (by assumption) ?rz6
            case yz6 =>
              intro W hSw
              go_simp
              all_goals with_reducible rfl
            try simp only [List.getElem_toArray, List.getElem_cons_zero, List.getElem_cons_succ, Act.put, List.setIfInBounds_toArray, List.set_cons_zero, List.set_cons_succ]
            refine wpAnyH_take (i := 7) (v := ?vz7) rfl (by kernel_rfl) (by kernel_rfl) (by kernel_rfl) (fun _ _ _ h => h) (Or.inl ⟨by rfl, ?yz7⟩) (by assumption) ?rz7
            case yz7 =>
              intro W hSw
              go_simp
              all_goals with_reducible rfl
            try simp only [List.getElem_toArray, List.getElem_cons_zero, List.getElem_cons_succ, Act.put, List.setIfInBounds_toArray, List.set_cons_zero, List.set_cons_succ]
            refine wpAnyH_take (i := 8) (v := ?vz8) rfl (by kernel_rfl) (by kernel_rfl) (by kernel_rfl) (fun _ _ _ h => h) (Or.inl ⟨by rfl, ?yz8⟩) (by assumption) ?rz8
            case yz8 =>
              intro W hSw
              go_simp
              all_goals with_reducible rfl
            try simp only [List.getElem_toArray, List.getElem_cons_zero, List.getElem_cons_succ, Act.put, List.setIfInBounds_toArray, List.set_cons_zero, List.set_cons_succ]
            refine wpAnyH_take (i := 10) (v := ?vz10) rfl (by kernel_rfl) (by kernel_rfl) (by kernel_rfl) (fun _ _ _ h => h) (Or.inl ⟨by rfl, ?yz10⟩) (by assumption) ?rz10
            case yz10 =>
              intro W hSw
              go_simp
              all_goals with_reducible rfl
            try simp only [List.getElem_toArray, List.getElem_cons_zero, List.getElem_cons_succ, Act.put, List.setIfInBounds_toArray, List.set_cons_zero, List.set_cons_succ]
            refine wpAnyH_take (i := 11) (v := ?vz11) rfl (by kernel_rfl) (by kernel_rfl) (by kernel_rfl) (fun _ _ _ h => h) (Or.inl ⟨by rfl, ?yz11⟩) (by assumption) ?rz11
            case yz11 =>
              intro W hSw
              go_simp
              all_goals with_reducible rfl
            try simp only [List.getElem_toArray, List.getElem_cons_zero, List.getElem_cons_succ, Act.put, List.setIfInBounds_toArray, List.set_cons_zero, List.set_cons_succ]
            refine wpAnyH_take (i := 12) (v := ?vz12) rfl (by kernel_rfl) (by kernel_rfl) (by kernel_rfl) (fun _ _ _ h => h) (Or.inl ⟨by rfl, ?yz12⟩) (by assumption) ?rz12
            case yz12 =>
              intro W hSw
              have hc := hSw.out.x.cell 6 _ rfl
              go_simp
              all_goals with_reducible rfl
            try simp only [List.getElem_toArray, List.getElem_cons_zero, List.getElem_cons_succ, Act.put, List.setIfInBounds_toArray, List.set_cons_zero, List.set_cons_succ]
            refine wpAnyH_take (i := 13) (v := ?vz13) rfl (by kernel_rfl) (by kernel_rfl) (by kernel_rfl) (fun _ _ _ h => h) (Or.inl ⟨by rfl, ?yz13⟩) (by assumption) ?rz13
            case yz13 =>
              intro W hSw
              go_simp
              all_goals with_reducible rfl
            try simp only [List.getElem_toArray, List.getElem_cons_zero, List.getElem_cons_succ, Act.put, List.setIfInBounds_toArray, List.set_cons_zero, List.set_cons_succ]
            refine wpAnyH_ready (rs := [9]) (by kernel_rfl) (by simp) ?_
            refine AllReadyH.cons rfl (fun K hK => ?_) AllReadyH.nil
            go_simp
            go_at_call 17
            refine (CU.out _ hHeld).mono ?_
            rintro e w' ⟨rfl, rfl⟩
            refine hK.out _ _ hHeld (fun hHeld2 => ?_)
            clear hK K hHeld
            have hHeld := hHeld2
            clear hHeld2
            try simp only [List.getElem_toArray, List.getElem_cons_zero, List.getElem_cons_succ, Act.put, List.setIfInBounds_toArray, List.set_cons_zero, List.set_cons_succ]
            refine wpAnyH_take (i := 14) (v := ?vz14) rfl (by kernel_rfl) (by kernel_rfl) (by kernel_rfl) (fun _ _ _ h => h) (Or.inl ⟨by rfl, ?yz14⟩) (by assumption) ?rz14
            case yz14 =>
              intro W hSw
              go_simp
              all_goals with_reducible rfl
            try simp only [List.getElem_toArray, List.getElem_cons_zero, List.getElem_cons_succ, Act.put, List.setIfInBounds_toArray, List.set_cons_zero, List.set_cons_succ]
            refine wpAnyH_take (i := 15) (v := ?vz15) rfl (by kernel_rfl) (by kernel_rfl) (by kernel_rfl) (fun _ _ _ h => h) (Or.inl ⟨by rfl, ?yz15⟩) (by assumption) ?rz15
            case yz15 =>
              intro W hSw
              go_simp
              all_goals with_reducible rfl
            try simp only [List.getElem_toArray, List.getElem_cons_zero, List.getElem_cons_succ, Act.put, List.setIfInBounds_toArray, List.set_cons_zero, List.set_cons_succ]
            refine wpAnyH_take (i := 16) (v := ?vz16) rfl (by kernel_rfl) (by kernel_rfl) (by kernel_rfl) (fun _ _ _ h => h) (Or.inl ⟨by rfl, ?yz16⟩) (by assumption) ?rz16
            case yz16 =>
              intro W hSw
              go_simp
              all_goals with_reducible rfl
            try simp only [List.getElem_toArray, List.getElem_cons_zero, List.getElem_cons_succ, Act.put, List.setIfInBounds_toArray, List.set_cons_zero, List.set_cons_succ]
            refine wpAnyH_take (i := 17) (v := ?vz17) rfl (by kernel_rfl) (by kernel_rfl) (by kernel_rfl) (fun _ _ _ h => h) (Or.inl ⟨by rfl, ?yz17⟩) (by assumption) ?rz17
            case yz17 =>
              intro W hSw
              go_simp
              all_goals with_reducible rfl
            try simp only [List.getElem_toArray, List.getElem_cons_zero, List.getElem_cons_succ, Act.put, List.setIfInBounds_toArray, List.set_cons_zero, List.set_cons_succ]
            refine wpAnyH_take (i := 18) (v := ?vz18) rfl (by kernel_rfl) (by kernel_rfl) (by kernel_rfl) (fun _ _ _ h => h) (Or.inl ⟨by rfl, ?yz18⟩) (by assumption) ?rz18
            case yz18 =>
              intro W hSw
              go_simp
              all_goals with_reducible rfl
            try simp only [List.getElem_toArray, List.getElem_cons_zero, List.getElem_cons_succ, Act.put, List.setIfInBounds_toArray, List.set_cons_zero, List.set_cons_succ]
            refine wpAnyH_ready (rs := [19]) (by kernel_rfl) (by simp) ?_
            refine AllReadyH.cons rfl (fun K hK => ?_) AllReadyH.nil
            go_simp
            go_at_call 20
            refine (CTM.out _ hHeld).mono ?_
            rintro e w' ⟨rfl, rfl⟩
            refine hK.out _ _ hHeld (fun hHeld2 => ?_)
            clear hK K hHeld
            have hHeld := hHeld2
            clear hHeld2
            try simp only [List.getElem_toArray, List.getElem_cons_zero, List.getElem_cons_succ, Act.put, List.setIfInBounds_toArray, List.set_cons_zero, List.set_cons_succ]
            refine wpAnyH_take (i := 20) (v := ?vz20) rfl (by kernel_rfl) (by kernel_rfl) (by kernel_rfl) (fun _ _ _ h => h) (Or.inl ⟨by rfl, ?yz20⟩) (by assumption) ?rz20
            case yz20 =>
              intro W hSw
              go_simp
              all_goals with_reducible rfl
            try simp only [List.getElem_toArray, List.getElem_cons_zero, List.getElem_cons_succ, Act.put, List.setIfInBounds_toArray, List.set_cons_zero, List.set_cons_succ]
            refine wpAnyH_take (i := 21) (v := ?vz21) rfl (by kernel_rfl) (by kernel_rfl) (by kernel_rfl) (fun _ _ _ h => h) (Or.inl ⟨by rfl, ?yz21⟩) (by assumption) ?rz21
            case yz21 =>
              intro W hSw
              go_simp
              all_goals with_reducible rfl
            try simp only [List.getElem_toArray, List.getElem_cons_zero, List.getElem_cons_succ, Act.put, List.setIfInBounds_toArray, List.set_cons_zero, List.set_cons_succ]
            refine wpAnyH_done (by kernel_rfl) ?_ _
            have HN6 : Hid (IntsIn wr.drew (.slice vo li vc) ids ∧ RS w wr.drew X b m B t frm1 S1 (.slice (some ⟨ga, 0, none⟩) nl cap) l) := Lib.hid ⟨HVd.out, hHeld.out⟩
            clear hHeld HRd HVd CU CTM
            go_wp2_with fail
            go_roundw
            case rel => exact ⟨j + 1, by have := HJ4.out; omega, by go_num, HN6⟩
            case measure => have := HJ4.out; simp [intOf] <;> omega
          · obtain rfl : j = 4 := by omega
            have HR9 := Lib.hid HWj.out.2
            clear hj hj4 HWj
            go_wp2_with fail
            go_roundw
            case rel => exact ⟨q + 1, nx, frm1, S1, by omega, by go_num, rfl, HX.out.1, by have := HX.out; omega, HF.out.1, HF.out.2, HSI, HR9⟩
            case measure => simp [intOf] <;> omega
    · obtain rfl : q = nl := by omega
      have HST := Lib.hid HR.out.st
      clear hqn hq HR HI HOK
      go_wp2_with fail
      refine (lives_any _).mono ?_
      rintro e w8 ⟨rfl, hb8⟩
      have HB8 := Lib.hid (HST.out.trans (hb8.mono HST.out.size))
      clear hb8
      go_wp2_with fail
      go_ret
      exact ⟨rfl, HB8.out⟩
end Go.Proofs.Ytfmgcnmikopgeaa
