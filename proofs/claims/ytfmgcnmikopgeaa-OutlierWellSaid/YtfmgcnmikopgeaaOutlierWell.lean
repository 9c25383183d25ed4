/- Layer 14: the walk of OutlierWell. -/
import Derived.Test.YtfmgcnmikopgeaaOutU
namespace Go.Proofs.Ytfmgcnmikopgeaa
open Go.RowKit
set_option maxRecDepth 100000 in
set_option maxHeartbeats 4000000 in
theorem well_walk (n : Int) (lv : Value) (zs : List Int) (w : World) (hn1 : -9223372036854775808 ≤ n) (hn2 : n ≤ 9223372036854775807) (hl : IntsIn w lv zs) :
    Calls Try.prog 3 #[.int .i64 n, lv] w (TruePost w) := by
  have CW := Lib.hid (watch_any n w hn1 hn2)
  have HKK := Lib.hid (watchN_ok n)
  obtain ⟨t, ht⟩ : ∃ t, watchN n = t := ⟨_, rfl⟩
  unfold WatchPost at CW
  rw [ht] at CW HKK
  have HLV := Lib.hid hl
  obtain ⟨la, lc, rfl, -, -, -⟩ := hl
  obtain ⟨ln, hln⟩ : ∃ n, zs.length = n := ⟨_, rfl⟩
  rw [hln] at HLV ⊢
  clear hn1 hn2 ht hln
  go_enter Try.func3, Try.ntmps3
  go_wp2_with fail
  refine CW.out.mono ?_
  rintro e w1 ⟨rfl, hb1⟩
  have HW2 : Hid (∃ W X, W = w1.alloc (.cells #[.int .i64 t.errors, .int .i64 t.window, .int .i64 t.dev, .int .i64 t.slow, .int .i64 t.share, .int .i64 t.base, .int .i64 t.top] 24) ∧ X = w1.heap.size ∧ BlockAt W X 24 t.cells ∧ Below w.heap.size w W) := Lib.hid
    ⟨_, _, rfl, rfl, BlockAt.new w1 24 t.cells, hb1.alloc hb1.size _⟩
  unfold Wt.val
  clear hb1 CW
  go_upto_region 2 with fail
  obtain ⟨W2, X, hW2, hX, hbx, hb2⟩ := HW2.out
  rw [← hX]
  rw [← hW2]
  have HS0 : Hid (BlockAt W2.drew X 24 t.cells ∧ Below w.heap.size w W2.drew) := Lib.hid ⟨hbx.drew, hb2.trans ((Upd.drew [] W2).below hb2.size (by simp))⟩
  have CE := Lib.hid (fun (W : World) (h : Hid (BlockAt W X 24 t.cells ∧ Below w.heap.size w W)) => ends_at W h)
  have CN := Lib.hid (fun (W : World) (g : Nat) (h : Hid (BlockAt W X 24 t.cells ∧ Below w.heap.size w W)) hi => new_at W g h hi)
  have LW := Lib.hid (fun (W : World) (h : Hid (BlockAt W X 24 t.cells ∧ Below w.heap.size w W)) => load_watch h.out.1)
  obtain ⟨vt, hvt⟩ : ∃ v, t.val = v := ⟨_, rfl⟩
  rw [hvt] at CN LW
  clear HW2 hW2 hX hbx hb2 hvt
  refine wp_region_held_drew (S := fun W' => Hid (BlockAt W' X 24 t.cells ∧ Below w.heap.size w W')) (by kernel_rfl) HS0 (fun hHeld => ?_)
  refine wpAnyH_take (i := 0) (v := vt) rfl (by kernel_rfl) (by kernel_rfl) (by kernel_rfl) (fun _ _ _ h => h) (Or.inl ⟨by rfl, ?ys0⟩) (by assumption) ?rs0
  case ys0 =>
    intro W hSw
    apply LW.out W hSw <;> rfl
  try simp only [List.getElem_toArray, List.getElem_cons_zero, List.getElem_cons_succ, Act.put, List.setIfInBounds_toArray, List.set_cons_zero, List.set_cons_succ]
  refine wpAnyH_ready (rs := [1]) (by kernel_rfl) (by simp) ?_
  refine AllReadyH.cons rfl (fun K hK => ?_) AllReadyH.nil
  go_simp
  go_at_call 9
  refine (CE.out _ hHeld).mono ?_
  rintro e w' ⟨g, rfl, hin, k⟩
  have HIN := Lib.hid hin
  refine hK.out _ _ k (fun hHeld2 => ?_)
  clear hin
  clear hK K hHeld
  have hHeld := hHeld2
  clear hHeld2
  try simp only [List.getElem_toArray, List.getElem_cons_zero, List.getElem_cons_succ, Act.put, List.setIfInBounds_toArray, List.set_cons_zero, List.set_cons_succ]
  refine wpAnyH_ready (rs := [2]) (by kernel_rfl) (by simp) ?_
  refine AllReadyH.cons rfl (fun K hK => ?_) AllReadyH.nil
  go_simp
  go_at_call 8
  refine (CN.out _ g hHeld HIN.out).mono ?_
  rintro e w' ⟨b, m, B, rfl, hg, k⟩
  have HG := Lib.hid hg
  refine hK.out _ _ k (fun hHeld2 => ?_)
  clear hg
  clear hK K hHeld
  have hHeld := hHeld2
  clear hHeld2
  try simp only [List.getElem_toArray, List.getElem_cons_zero, List.getElem_cons_succ, Act.put, List.setIfInBounds_toArray, List.set_cons_zero, List.set_cons_succ]
  refine wpAnyH_take (i := 3) (v := ?vs3) rfl (by kernel_rfl) (by kernel_rfl) (by kernel_rfl) (fun _ _ _ h => h) (Or.inl ⟨by rfl, ?ys3⟩) (by assumption) ?rs3
  case ys3 =>
    intro W hSw
    go_simp
    all_goals with_reducible rfl
  try simp only [List.getElem_toArray, List.getElem_cons_zero, List.getElem_cons_succ, Act.put, List.setIfInBounds_toArray, List.set_cons_zero, List.set_cons_succ]
  refine wpAnyH_done (by kernel_rfl) ?_ _
  have HR0 : Hid (∃ W, W = w' ∧ GAt w.heap.size W b t 0 m 4 B (fun _ => zeroE) ∧ Below w.heap.size w W ∧ BlockAt W X 24 t.cells) := Lib.hid ⟨w', rfl, HG.out, hHeld.out.2, hHeld.out.1⟩
  clear HG HIN CE CN LW HS0
  go_wp2_with fail
  have CA := Lib.hid (acts_any (.slice la ln lc) zs w' (HLV.out.keep (Upd.ofBelow hHeld.out.2) (by simp)))
  refine CA.out.mono ?_
  rintro e w3 ⟨av, l, rfl, ha, hb3, hl40, hok⟩
  obtain ⟨ao, cap, rfl⟩ := acts_len ha
  have HR3 : Hid (RS w w3 X b m B t 0 (fun _ => zeroE) (.slice ao l.length cap) l) := Lib.hid (by
    obtain ⟨W, rfl, h1, h2, h3⟩ := HR0.out
    exact ⟨h1.next (Upd.ofBelow hb3), h2.trans (hb3.mono h2.size), h3.keep (Upd.ofBelow hb3) (by simp), ownsRow_mono ha h2.size⟩)
  have HOK := Lib.hid hok
  obtain ⟨nl, hnl⟩ : ∃ n, l.length = n := ⟨_, rfl⟩
  have HNL := Lib.hid hnl
  rw [hnl] at HR3 hl40 ⊢
  have hl40' : (nl : Int) ≤ 40 := by omega
  clear ha hb3 hok hnl CA HR0 hHeld HLV hl40 k
  have HI0 := Lib.hid WellI.zero
  go_wp2_with fail
  go_loopw [8, 9, 10, 11, 12] (fun nv iv _ _ _ wr => ∃ (q : Nat) (now frm : Int) (S : Nat → Es), q ≤ nl ∧ iv = .int .i64 q ∧ nv = .int .i64 now ∧ 0 ≤ now ∧ now ≤ 3 * q ∧ 0 ≤ frm ∧ frm ≤ now ∧ Hid (WellI (2 * (q : Int)) S) ∧ Hid (RS w wr X b m B t frm S (.slice ao nl cap) l)) (fun _ i _ _ _ _ => nl - (intOf i).toNat)
  case atStart => exact ⟨0, 0, 0, _, by omega, rfl, rfl, by omega, by omega, by omega, by omega, HI0, HR3⟩
  case round =>
    obtain ⟨q, now, frm, S, hq, rfl, rfl, hn0, hn1, hf0, hf1, HI, HR⟩ := hrel
    clear HI0 HR3
    by_cases hqn : q < nl
    · obtain ⟨a, ha⟩ : ∃ a, l[q]? = some a := ⟨l[q]'(by have := HNL.out; omega), List.getElem?_eq_getElem _⟩
      have hok := HOK.out a (List.mem_of_getElem? ha)
      obtain ⟨ga, rfl, hc⟩ := act_at HR.out.a ha
      have c0 := hc 0 _ rfl
      have c1 := hc 1 _ rfl
      have c2 := hc 2 _ rfl
      have c3 := hc 3 _ rfl
      have c4 := hc 4 _ rfl
      have c5 := hc 5 _ rfl
      have q0 : (0 : Int) ≤ q := by omega
      have q1 : (q : Int) < nl := by omega
      obtain ⟨La, To, Id, Wl, Tk, Is, Il, Ic⟩ := a
      dsimp only at c0 c1 c2 c3 c4 c5
      rw [Nat.add_zero] at c0
      have o0 := hok.later
      have o3 := hok.took
      dsimp only at o0 o3
      have CK := Lib.hid (fun w => around_any Tk 9 w (by omega) (by omega) (by omega))
      have t0 := around_nonneg Tk 9 (by omega)
      have t1 := around_lt Tk 9 (by omega)
      obtain ⟨T, hT⟩ : ∃ k : Nat, around Tk 9 = (k : Int) := ⟨(around Tk 9).toNat, by omega⟩
      rw [hT] at CK t0 t1
      have ewn := IntWalk.i64_in (now + La) (by omega)
      clear ha hok hc hT
      go_upto_region 11 with fail
      have HW4 : Hid (∃ W A, W = wr.alloc (.cells #[.int .i64 La, .int .i64 To, .int .i64 Id, .bool Wl, .int .i64 Tk, .slice Is Il Ic] 32) ∧ A = wr.heap.size ∧ BlockAt W A 32 [.int .i64 La, .int .i64 To, .int .i64 Id, .bool Wl, .int .i64 Tk, .slice Is Il Ic] ∧ RS w W X b m B t frm S (.slice (some ⟨ga, 0, none⟩) nl cap) l) := Lib.hid
        ⟨_, _, rfl, rfl, BlockAt.new wr 32 [.int .i64 La, .int .i64 To, .int .i64 Id, .bool Wl, .int .i64 Tk, .slice Is Il Ic], HR.out.next (Upd.alloc [] wr _)⟩
      obtain ⟨W4, A, hW4, hA, hba, hr4⟩ := HW4.out
      rw [← hA]
      rw [← hW4]
      have d0 := hba.cell 0 _ rfl
      have d2 := hba.cell 2 _ rfl
      have d4 := hba.cell 4 _ rfl
      obtain ⟨nx, hnx⟩ : ∃ x, now + La = x := ⟨_, rfl⟩
      have hx0 : 0 ≤ nx ∧ now ≤ nx ∧ nx ≤ 3 * q + 3 := by omega
      have HX := Lib.hid hx0
      rw [hnx] at ewn
      have CNT := Lib.hid ((hr4.next (Upd.drew [] W4)).note HKK.out.ok (c := 2 * (q : Int)) (now := nx) (k := Id) (took := T) (by omega) HI.out.ok (by omega) (by omega) (by omega) true)
      clear HW4 hW4 hA hba hr4 c0 c1 c2 c3 c4 c5 hx0
      go_wp2_with fail
      refine wp_region_still_tail 7 (by kernel_rfl) (by kernel_rfl) ?_
      simp only [List.take_succ_cons, List.take_zero, List.drop_succ_cons, List.drop_zero]
      repeat still_step
      still_call ((CK.out _).mono (fun _ _ h => ⟨h.1, h.2.symm⟩))
      refine wpStill_nil ?_
      change wpList _ _ _ _ _ W4.drew
      go_wp2_with fail
      refine CNT.out.mono ?_
      rintro e w5 ⟨S1, is, rfl, hni, hr5⟩
      obtain ⟨hi1, rfl⟩ := HI.out.note (by omega) (by omega) hni
      have HI1 := Lib.hid hi1
      have CT := Lib.hid (hr5.tick HKK.out (c := 2 * (q : Int) + 1) (now := nx) (by omega) (by omega) hi1.ok HX.out.1 (by have := HX.out; omega) hf0 (by have := HX.out; omega))
      clear hni hr5 hi1 CNT CK HR HI
      go_wp2_with fail
      refine CT.out.mono ?_
      rintro e w6 ⟨ao2, ac2, bo2, bc2, S2, frm2, out2, rfl, hti, hr6⟩
      obtain ⟨hi2, rfl⟩ := HI1.out.tick HKK.out (by omega) hti
      rw [HI1.out.ids nx]
      obtain ⟨hg0, hg1⟩ := hti.frm hf0 (by have := HX.out; omega)
      have HI2 : Hid (WellI (2 * ((q + 1 : Nat) : Int)) S2) := Lib.hid (by rw [show (2 * ((q + 1 : Nat) : Int)) = 2 * (q : Int) + 1 + 1 by omega]; exact hi2)
      have HR6 := Lib.hid hr6
      clear hi2 hti hr6 HI1 CT
      go_wp2_with fail
      go_roundw
      case rel => exact ⟨q + 1, nx, frm2, S2, by omega, by go_num, rfl, HX.out.1, by have := HX.out; omega, hg0, hg1, HI2, HR6⟩
      case measure => simp [intOf] <;> omega
    · obtain rfl : q = nl := by omega
      have CWL := Lib.hid (well_any w.heap.size b t frm m 4 B S wr HR.out.g (by decide))
      unfold SomePost at CWL
      rw [HI.out.all] at CWL
      have hst := HR.out.st
      have HST := Lib.hid hst
      clear hst hqn hq HR HI HOK
      go_wp2_with fail
      refine CWL.out.mono ?_
      rintro e w5 ⟨v5, rfl, h5, hb5⟩
      have HV5 := Lib.hid (h5.isIn (show ∀ z ∈ rise 4, -9223372036854775808 ≤ z ∧ z ≤ 9223372036854775807 by decide))
      have HB5 := Lib.hid (HST.out.trans (hb5.mono HST.out.size))
      clear h5 hb5 CWL
      go_wp2_with fail
      refine (ends_any w5).mono ?_
      rintro e w6 ⟨rfl, h6, hb6⟩
      have CSI := Lib.hid (sameInts_any v5 (.slice (some ⟨w5.heap.size, 0, none⟩) 4 4) (rise 4) w6 (HV5.out.keep (Upd.ofBelow hb6) (by simp)) h6 (by decide))
      have HB6 := Lib.hid (HB5.out.trans (hb6.mono HB5.out.size))
      clear h6 hb6
      go_wp2_with fail
      refine CSI.out.mono ?_
      rintro e w7 ⟨rfl, hu7⟩
      have HB7 := Lib.hid (HB6.out.trans (hu7.below HB6.out.size (by simp)))
      clear hu7 CSI
      go_wp2_with fail
      refine (lives_any w7).mono ?_
      rintro e w8 ⟨rfl, hb8⟩
      have HB8 := Lib.hid (HB7.out.trans (hb8.mono HB7.out.size))
      clear hb8
      go_wp2_with fail
      go_ret
      exact ⟨rfl, HB8.out⟩
end Go.Proofs.Ytfmgcnmikopgeaa
