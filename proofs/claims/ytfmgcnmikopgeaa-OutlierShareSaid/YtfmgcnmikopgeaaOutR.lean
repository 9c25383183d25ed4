/- Layer 14: the end of a window walked. -/
import Derived.Test.YtfmgcnmikopgeaaOutQ
import Derived.Laws.MakeOwn
import Derived.StillTailTactics
import Derived.Deep.RegionHeld3
namespace Go.Proofs.Ytfmgcnmikopgeaa
open Go.RowKit
def EndPost (base b : Nat) (t : Wt) (m N : Nat) (B : Nat → Nat) (S : Nat → Es) (now : Int) (w : World) (e : Ending) (w' : World) : Prop :=
  ∃ ov S' out, e = .returned ov ∧ EndIs N t now S S' out ∧ OwnInts w.heap.size w' ov out ∧ GPost base b t now m N B S' w w'
theorem make_pairs (lo : Nat) (n : Nat) (W : World) (hn : (n : Int) ≤ 1000) (hlo : lo ≤ W.heap.size) : ∃ w', (Instr.makeSlice 66 (.int .i64 0) (.int .i64 (n : Int))).run Try.prog W = .ok (.slice (some ⟨W.heap.size, 0, none⟩) 0 n) w' ∧ PairsOwn lo w' (.slice (some ⟨W.heap.size, 0, none⟩) 0 n) [] ∧ Upd [] W w' := by
  obtain ⟨i, hi, hz, hz1, hz2⟩ := info_parts Try.infoPair
  obtain ⟨w', h1, h2, h3⟩ := run_make_own (P := Try.prog) W lo 66 67 i _ 2 Try.underlying66 hi hz hz1 .i64 .i64 n (by rw [hz2]; omega) (by unfold maxLen; omega) hlo
  exact ⟨w', h1, h2, (Upd.grown h3).mono (by simp)⟩
set_option maxRecDepth 100000 in
set_option maxHeartbeats 8000000 in
theorem end_any (base b : Nat) (t : Wt) (frm : Int) (m N : Nat) (B : Nat → Nat) (S : Nat → Es) (now c : Int) (w : World) (h : GAt base w b t frm m N B S) (ht : WtOk t) (hN : (N : Int) ≤ 20) (hbw : base ≤ w.heap.size) (hd0 : 0 ≤ t.dev) (hd1 : t.dev ≤ 1000) (hc : c ≤ 900) (hS : ∀ i, i < N → EsOk c (S i)) (hn0 : 0 ≤ now) (hn1 : now ≤ 1000000000) :
    Calls Try.prog 29 #[.pointer (some ⟨b, 0, none⟩), .int .i64 now] w (EndPost base b t m N B S now w) := by
  have HT := Lib.hid (And.intro ht (And.intro hbw (And.intro hd0 (And.intro hd1 (And.intro hc hS)))))
  have HG0 := Lib.hid h
  have CC := Lib.hid (some_any base b t frm m N B S w h (by omega) 36 #[] (cleanP S) (fun _ _ => rfl) (fun W i hb hi => cleanF_any (S i) (B i) W (h.endsAt hb hi)))
  clear h ht hbw hd0 hd1 hc hS
  go_enter Try.func29, Try.ntmps29
  go_wp2_with fail
  refine CC.out.mono ?_
  rintro e w1 ⟨cv, rfl, hown1, hbel1⟩
  have HC1 := Lib.hid (And.intro hown1 hbel1)
  have CA := Lib.hid (some_any base b t frm m N B S w1 (HG0.out.next (Upd.ofBelow hbel1)) (by omega) 37 #[] (askP S) (fun _ _ => rfl) (fun W i hb hi => askedF_any (S i) (B i) W ((HG0.out.next (Upd.ofBelow hbel1)).endsAt hb hi)))
  clear hown1 hbel1 CC
  go_wp2_with fail
  refine CA.out.mono ?_
  rintro e w2 ⟨av, rfl, hown2, hbel2⟩
  obtain ⟨n, hn⟩ : ∃ n, (idsOf N (askP S)).length = n := ⟨_, rfl⟩
  have hnN : (n : Int) ≤ 20 := by have := idsOf_len N (askP S); omega
  have HN := Lib.hid hn
  obtain ⟨ao, acap, rfl⟩ := own_len hown2
  rw [hn] at hown2 ⊢
  obtain ⟨w3, hmk, hp3, hu3⟩ := make_pairs w2.heap.size n w2 (by omega) (Nat.le_refl _)
  have HE3 : Hid (EW base w b t frm m N B w2.heap.size (.slice ao n acap) cv (.slice (some ⟨w2.heap.size, 0, none⟩) 0 n) (idsOf N (askP S)) (idsOf N (cleanP S)) (pairsS S ((askL N S).take 0)) S w3) := Lib.hid (by
    have hs1 := HC1.out.2.size
    have hs2 := hbel2.size
    have u2 := Upd.ofBelow hbel2
    have u1 := Upd.ofBelow HC1.out.2
    have hbw := HT.out.2.1
    refine ⟨((HG0.out.next u1).next u2).next hu3, ((GStep.ofBelow HC1.out.2 hbw).trans (.ofBelow hbel2 (by omega))).trans (.of hu3 (by omega) (by simp)), ?_, ?_, hp3, fun k hk => (hown2.lt k hk).2, fun k hk => ?_, by omega, hu3.size, hbw⟩
    · exact hu3.owns (ownsRow_mono hown2 (by omega)) (by simp)
    · exact hu3.owns (u2.owns HC1.out.1 (by simp)) (by simp)
    · have := (HC1.out.1.lt k hk).2; omega)
  obtain ⟨L1, hL1⟩ : ∃ L, w2.heap.size = L := ⟨_, rfl⟩
  rw [hL1] at HE3 hmk
  clear hown2 hbel2 hp3 hu3 hn CA HC1 HG0
  go_wp2_with fail
  clear hmk hL1
  go_loopw [7, 9, 26] (fun uv _ iv wr => ∃ q : Nat, q ≤ n ∧ iv = .int .i64 q ∧ Hid (EW base w b t frm m N B L1 (.slice ao n acap) cv uv (idsOf N (askP S)) (idsOf N (cleanP S)) (pairsS S ((askL N S).take q)) S wr)) (fun _ _ i _ => n - (intOf i).toNat)
  case atStart => exact ⟨0, by omega, rfl, HE3⟩
  case round =>
    obtain ⟨q, hq, rfl, HE⟩ := hrel
    clear HE3
    by_cases hqn : q < n
    · obtain ⟨i, hi⟩ := filter_idx_of HN.out hqn
      obtain ⟨hiN, hask, hid, hnot⟩ := filter_idx hi
      obtain ⟨g, rfl, hcell⟩ := own_at HE.out.a hid
      have hG := HE.out.g
      have c8 := hG.blk.cell 8 _ rfl
      have hlk := (hG.next (Upd.drew [] wr)).look ((i : Int) + 1)
      rw [ptrOf_in hiN] at hlk
      have he := hG.ends i hiN
      have d4 := he.cell 4 _ rfl
      have d5 := he.cell 5 _ rfl
      have q0 : (0 : Int) ≤ q := by omega
      have q1 : (q : Int) < n := by omega
      have htk : (pairsS S ((askL N S).take q)).length = q := by
        have := HN.out
        rw [idsOf_filter, List.length_map] at this
        unfold pairsS askL
        rw [List.length_map, List.length_take]
        omega
      have HP := HE.out.p
      unfold PairsOwn at HP
      rw [htk] at HP
      have HPW := Lib.hid (And.intro HP (show L1 ≤ wr.heap.size from HE.out.ll.2.1))
      have HSN : Hid (pairsS S ((askL N S).take (q + 1)) = pairsS S ((askL N S).take q) ++ [((S i).well, (S i).att)] ∧ (pairsS S ((askL N S).take (q + 1))).length = q + 1) := Lib.hid (by
        have h1 : pairsS S ((askL N S).take (q + 1)) = pairsS S ((askL N S).take q) ++ [((S i).well, (S i).att)] := by
          unfold askL
          rw [take_snoc_nat hi]
          unfold pairsS
          rw [List.map_append]
          rfl
        exact ⟨h1, by rw [h1, List.length_append, htk]; rfl⟩)
      obtain ⟨wl, hwl⟩ : ∃ x, (S i).well = x := ⟨_, rfl⟩
      obtain ⟨at0, hat⟩ : ∃ x, (S i).att = x := ⟨_, rfl⟩
      rw [hwl] at d5 HSN
      rw [hat] at d4 HSN
      obtain ⟨E, hE⟩ : ∃ E, B i = E := ⟨_, rfl⟩
      rw [hE] at d4 d5 hlk
      have HF : Hid (∀ W, Hid (GAt base W b t frm m N B S) → W.cell? ⟨b, 8, none⟩ = some (.map (some m)) ∧ (Instr.lookup 46 (.map (some m)) (.int .i64 ((i : Int) + 1)) false).run Try.prog W = .ok (.pointer (some ⟨E, 0, none⟩)) W ∧ W.cell? ⟨E, 4, none⟩ = some (.int .i64 at0) ∧ W.cell? ⟨E, 5, none⟩ = some (.int .i64 wl)) := Lib.hid fun W hW => by
        have hg := hW.out
        have h1 := hg.look ((i : Int) + 1)
        rw [ptrOf_in hiN, hE] at h1
        have h2 := hg.ends i hiN
        have h4 := h2.cell 4 _ rfl
        have h5 := h2.cell 5 _ rfl
        rw [hE, hat] at h4
        rw [hE, hwl] at h5
        exact ⟨hg.blk.cell 8 _ rfl, h1, h4, h5⟩
      obtain ⟨i0, hi0, hz0, hz1, hz2⟩ := info_parts Try.infoPair
      have HCN : Hid (∀ j u, [Value.int .i64 wl, .int .i64 at0][j]? = some u → (wr.drew.alloc (.cells #[.int .i64 wl, .int .i64 at0] 67)).cell? ((⟨wr.heap.size, 0, none⟩ : Addr).add j) = some u) := Lib.hid (cells_new wr.drew 67 [.int .i64 wl, .int .i64 at0])
      clear hi hiN hask hid hnot hG he htk HP hq hwl hat hE c8 hlk d4 d5
      go_upto_region 7 with fail
      clear hcell
      refine wp_region_held_drew (S := fun W => Hid (GAt base W b t frm m N B S)) (by kernel_rfl) (Lib.hid (HE.out.g.next (Upd.drew [] wr))) (fun hHeld => ?_)
      refine wpAnyH_take (i := 0) (v := ?va0) rfl (by kernel_rfl) (by kernel_rfl) (by kernel_rfl) (fun _ _ _ h => h) (Or.inl ⟨by rfl, ?ya0⟩) (by assumption) ?ra0
      case ya0 =>
        intro W hSw
        go_simp
        all_goals with_reducible rfl
      try simp only [List.getElem_toArray, List.getElem_cons_zero, List.getElem_cons_succ, Act.put, List.setIfInBounds_toArray, List.set_cons_zero, List.set_cons_succ]
      refine wpAnyH_take (i := 1) (v := ?va1) rfl (by kernel_rfl) (by kernel_rfl) (by kernel_rfl) (fun _ _ _ h => h) (Or.inl ⟨by rfl, ?ya1⟩) (by assumption) ?ra1
      case ya1 =>
        intro W hSw
        go_simp
        all_goals with_reducible rfl
      try simp only [List.getElem_toArray, List.getElem_cons_zero, List.getElem_cons_succ, Act.put, List.setIfInBounds_toArray, List.set_cons_zero, List.set_cons_succ]
      refine wpAnyH_take (i := 2) (v := ?va2) rfl (by kernel_rfl) (by kernel_rfl) (by kernel_rfl) (fun _ _ _ h => h) (Or.inl ⟨by rfl, ?ya2⟩) (by assumption) ?ra2
      case ya2 =>
        intro W hSw
        go_simp
        all_goals with_reducible rfl
      try simp only [List.getElem_toArray, List.getElem_cons_zero, List.getElem_cons_succ, Act.put, List.setIfInBounds_toArray, List.set_cons_zero, List.set_cons_succ]
      refine wpAnyH_take (i := 3) (v := ?va3) rfl (by kernel_rfl) (by kernel_rfl) (by kernel_rfl) (fun _ _ _ h => h) (Or.inl ⟨by rfl, ?ya3⟩) (by assumption) ?ra3
      case ya3 =>
        intro W hSw
        go_simp
        all_goals with_reducible rfl
      try simp only [List.getElem_toArray, List.getElem_cons_zero, List.getElem_cons_succ, Act.put, List.setIfInBounds_toArray, List.set_cons_zero, List.set_cons_succ]
      refine wpAnyH_take (i := 4) (v := ?va4) rfl (by kernel_rfl) (by kernel_rfl) (by kernel_rfl) (fun _ _ _ h => h) (Or.inl ⟨by rfl, ?ya4⟩) (by assumption) ?ra4
      case ya4 =>
        intro W hSw
        obtain ⟨x1, x2, x3, x4⟩ := HF.out W hSw
        go_simp
        all_goals with_reducible rfl
      try simp only [List.getElem_toArray, List.getElem_cons_zero, List.getElem_cons_succ, Act.put, List.setIfInBounds_toArray, List.set_cons_zero, List.set_cons_succ]
      refine wpAnyH_take (i := 5) (v := ?va5) rfl (by kernel_rfl) (by kernel_rfl) (by kernel_rfl) (fun _ _ _ h => h) (Or.inl ⟨by rfl, ?ya5⟩) (by assumption) ?ra5
      case ya5 =>
        intro W hSw
        go_simp
        all_goals with_reducible rfl
      try simp only [List.getElem_toArray, List.getElem_cons_zero, List.getElem_cons_succ, Act.put, List.setIfInBounds_toArray, List.set_cons_zero, List.set_cons_succ]
      refine wpAnyH_take (i := 6) (v := ?va6) rfl (by kernel_rfl) (by kernel_rfl) (by kernel_rfl) (fun _ _ _ h => h) (Or.inl ⟨by rfl, ?ya6⟩) (by assumption) ?ra6
      case ya6 =>
        intro W hSw
        obtain ⟨x1, x2, x3, x4⟩ := HF.out W hSw
        go_simp
        all_goals with_reducible rfl
      try simp only [List.getElem_toArray, List.getElem_cons_zero, List.getElem_cons_succ, Act.put, List.setIfInBounds_toArray, List.set_cons_zero, List.set_cons_succ]
      refine wpAnyH_take (i := 7) (v := ?va7) rfl (by kernel_rfl) (by kernel_rfl) (by kernel_rfl) (fun _ _ _ h => h) (Or.inl ⟨by rfl, ?ya7⟩) (by assumption) ?ra7
      case ya7 =>
        intro W hSw
        go_simp
        all_goals with_reducible rfl
      try simp only [List.getElem_toArray, List.getElem_cons_zero, List.getElem_cons_succ, Act.put, List.setIfInBounds_toArray, List.set_cons_zero, List.set_cons_succ]
      refine wpAnyH_take (i := 8) (v := ?va8) rfl (by kernel_rfl) (by kernel_rfl) (by kernel_rfl) (fun _ _ _ h => h) (Or.inl ⟨by rfl, ?ya8⟩) (by assumption) ?ra8
      case ya8 =>
        intro W hSw
        go_simp
        all_goals with_reducible rfl
      try simp only [List.getElem_toArray, List.getElem_cons_zero, List.getElem_cons_succ, Act.put, List.setIfInBounds_toArray, List.set_cons_zero, List.set_cons_succ]
      refine wpAnyH_take (i := 9) (v := ?va9) rfl (by kernel_rfl) (by kernel_rfl) (by kernel_rfl) (fun _ _ _ h => h) (Or.inl ⟨by rfl, ?ya9⟩) (by assumption) ?ra9
      case ya9 =>
        intro W hSw
        go_simp
        all_goals with_reducible rfl
      try simp only [List.getElem_toArray, List.getElem_cons_zero, List.getElem_cons_succ, Act.put, List.setIfInBounds_toArray, List.set_cons_zero, List.set_cons_succ]
      refine wpAnyH_take (i := 10) (v := ?va10) rfl (by kernel_rfl) (by kernel_rfl) (by kernel_rfl) (fun _ _ _ h => h) (Or.inl ⟨by rfl, ?ya10⟩) (by assumption) ?ra10
      case ya10 =>
        intro W hSw
        obtain ⟨x1, x2, x3, x4⟩ := HF.out W hSw
        go_simp
        all_goals with_reducible rfl
      try simp only [List.getElem_toArray, List.getElem_cons_zero, List.getElem_cons_succ, Act.put, List.setIfInBounds_toArray, List.set_cons_zero, List.set_cons_succ]
      refine wpAnyH_take (i := 11) (v := ?va11) rfl (by kernel_rfl) (by kernel_rfl) (by kernel_rfl) (fun _ _ _ h => h) (Or.inl ⟨by rfl, ?ya11⟩) (by assumption) ?ra11
      case ya11 =>
        intro W hSw
        go_simp
        all_goals with_reducible rfl
      try simp only [List.getElem_toArray, List.getElem_cons_zero, List.getElem_cons_succ, Act.put, List.setIfInBounds_toArray, List.set_cons_zero, List.set_cons_succ]
      refine wpAnyH_take (i := 12) (v := ?va12) rfl (by kernel_rfl) (by kernel_rfl) (by kernel_rfl) (fun _ _ _ h => h) (Or.inl ⟨by rfl, ?ya12⟩) (by assumption) ?ra12
      case ya12 =>
        intro W hSw
        go_simp
        all_goals with_reducible rfl
      try simp only [List.getElem_toArray, List.getElem_cons_zero, List.getElem_cons_succ, Act.put, List.setIfInBounds_toArray, List.set_cons_zero, List.set_cons_succ]
      refine wpAnyH_take (i := 13) (v := ?va13) rfl (by kernel_rfl) (by kernel_rfl) (by kernel_rfl) (fun _ _ _ h => h) (Or.inl ⟨by rfl, ?ya13⟩) (by assumption) ?ra13
      case ya13 =>
        intro W hSw
        go_simp
        all_goals with_reducible rfl
      try simp only [List.getElem_toArray, List.getElem_cons_zero, List.getElem_cons_succ, Act.put, List.setIfInBounds_toArray, List.set_cons_zero, List.set_cons_succ]
      refine wpAnyH_take (i := 14) (v := ?va14) rfl (by kernel_rfl) (by kernel_rfl) (by kernel_rfl) (fun _ _ _ h => h) (Or.inl ⟨by rfl, ?ya14⟩) (by assumption) ?ra14
      case ya14 =>
        intro W hSw
        obtain ⟨x1, x2, x3, x4⟩ := HF.out W hSw
        go_simp
        all_goals with_reducible rfl
      try simp only [List.getElem_toArray, List.getElem_cons_zero, List.getElem_cons_succ, Act.put, List.setIfInBounds_toArray, List.set_cons_zero, List.set_cons_succ]
      refine wpAnyH_take (i := 15) (v := ?va15) rfl (by kernel_rfl) (by kernel_rfl) (by kernel_rfl) (fun _ _ _ h => h) (Or.inl ⟨by rfl, ?ya15⟩) (by assumption) ?ra15
      case ya15 =>
        intro W hSw
        go_simp
        all_goals with_reducible rfl
      try simp only [List.getElem_toArray, List.getElem_cons_zero, List.getElem_cons_succ, Act.put, List.setIfInBounds_toArray, List.set_cons_zero, List.set_cons_succ]
      refine wpAnyH_take (i := 16) (v := ?va16) rfl (by kernel_rfl) (by kernel_rfl) (by kernel_rfl) (fun _ _ _ h => h) (Or.inl ⟨by rfl, ?ya16⟩) (by assumption) ?ra16
      case ya16 =>
        intro W hSw
        obtain ⟨x1, x2, x3, x4⟩ := HF.out W hSw
        go_simp
        all_goals with_reducible rfl
      try simp only [List.getElem_toArray, List.getElem_cons_zero, List.getElem_cons_succ, Act.put, List.setIfInBounds_toArray, List.set_cons_zero, List.set_cons_succ]
      refine wpAnyH_take (i := 17) (v := ?va17) rfl (by kernel_rfl) (by kernel_rfl) (by kernel_rfl) (fun _ _ _ h => h) (Or.inl ⟨by rfl, ?ya17⟩) (by assumption) ?ra17
      case ya17 =>
        intro W hSw
        go_simp
        all_goals with_reducible rfl
      try simp only [List.getElem_toArray, List.getElem_cons_zero, List.getElem_cons_succ, Act.put, List.setIfInBounds_toArray, List.set_cons_zero, List.set_cons_succ]
      refine wpAnyH_take (i := 18) (v := ?va18) rfl (by kernel_rfl) (by kernel_rfl) (by kernel_rfl) (fun _ _ _ h => h) (Or.inl ⟨by rfl, ?ya18⟩) (by assumption) ?ra18
      case ya18 =>
        intro W hSw
        go_simp
        all_goals with_reducible rfl
      try simp only [List.getElem_toArray, List.getElem_cons_zero, List.getElem_cons_succ, Act.put, List.setIfInBounds_toArray, List.set_cons_zero, List.set_cons_succ]
      refine wpAnyH_take (i := 19) (v := ?va19) rfl (by kernel_rfl) (by kernel_rfl) (by kernel_rfl) (fun _ _ _ h => h) (Or.inl ⟨by rfl, ?ya19⟩) (by assumption) ?ra19
      case ya19 =>
        intro W hSw
        go_simp
        all_goals with_reducible rfl
      try simp only [List.getElem_toArray, List.getElem_cons_zero, List.getElem_cons_succ, Act.put, List.setIfInBounds_toArray, List.set_cons_zero, List.set_cons_succ]
      refine wpAnyH_take (i := 20) (v := ?va20) rfl (by kernel_rfl) (by kernel_rfl) (by kernel_rfl) (fun _ _ _ h => h) (Or.inl ⟨by rfl, ?ya20⟩) (by assumption) ?ra20
      case ya20 =>
        intro W hSw
        obtain ⟨x1, x2, x3, x4⟩ := HF.out W hSw
        go_simp
        all_goals with_reducible rfl
      try simp only [List.getElem_toArray, List.getElem_cons_zero, List.getElem_cons_succ, Act.put, List.setIfInBounds_toArray, List.set_cons_zero, List.set_cons_succ]
      refine wpAnyH_take (i := 21) (v := ?va21) rfl (by kernel_rfl) (by kernel_rfl) (by kernel_rfl) (fun _ _ _ h => h) (Or.inl ⟨by rfl, ?ya21⟩) (by assumption) ?ra21
      case ya21 =>
        intro W hSw
        go_simp
        all_goals with_reducible rfl
      try simp only [List.getElem_toArray, List.getElem_cons_zero, List.getElem_cons_succ, Act.put, List.setIfInBounds_toArray, List.set_cons_zero, List.set_cons_succ]
      refine wpAnyH_ready (rs := [22]) (by kernel_rfl) (by simp) ?_
      refine AllReadyH.cons rfl (fun K hK => ?_) AllReadyH.nil
      go_simp
      refine hK.out _ _ (Lib.hid (hHeld.out.next (Upd.alloc [] _ _))) (fun hHeld2 => ?_)
      clear hK K hHeld
      have hHeld := hHeld2
      clear hHeld2
      try simp only [List.getElem_toArray, List.getElem_cons_zero, List.getElem_cons_succ, Act.put, List.setIfInBounds_toArray, List.set_cons_zero, List.set_cons_succ]
      refine wpAnyH_ready (rs := [23]) (by kernel_rfl) (by simp) ?_
      refine AllReadyH.cons rfl (fun K hK => ?_) AllReadyH.nil
      refine step_append_own rfl (.tmp 30) (.tmp 52) 66 rfl L1 67 i0 _ 2 16 Try.underlying66 hi0 hz0 hz1 hz2 rfl (by decide) u7 q (cellsP (pairsS S ((askL N S).take q))) (by simp [Act.eval]) (((Upd.drew [] wr).owns HPW.out.1 (by simp)).alloc _) ⟨wr.heap.size, 0, none⟩ 1 1 [.int .i64 wl, .int .i64 at0] (by simp [Act.eval]) (by decide) rfl (HCN.out) (by simp [Value.oneCell']) (by unfold maxLen; omega) (by omega) (by have := HPW.out.2; simp; omega) ?_
      intro g' cap' w1 hown1 hu1 hg1
      have HE1 : Hid (EW base w b t frm m N B L1 (.slice (some ⟨g, 0, none⟩) n acap) cv (.slice (some ⟨g', 0, none⟩) (q + 1) cap') (idsOf N (askP S)) (idsOf N (cleanP S)) (pairsS S ((askL N S).take (q + 1))) S w1) := Lib.hid (((HE.out.next (Upd.drew [] wr)).next (Upd.alloc [] _ _)).pairs (by unfold PairsOwn; rw [HSN.out.2, HSN.out.1, cellsP_append]; exact hown1) hu1)
      clear hown1 hu1 hg1
      refine hK.out _ _ (Lib.hid HE1.out.g) (fun hHeld2 => ?_)
      clear hK K hHeld
      have hHeld := hHeld2
      clear hHeld2
      try simp only [List.getElem_toArray, List.getElem_cons_zero, List.getElem_cons_succ, Act.put, List.setIfInBounds_toArray, List.set_cons_zero, List.set_cons_succ]
      refine wpAnyH_take (i := 24) (v := ?va24) rfl (by kernel_rfl) (by kernel_rfl) (by kernel_rfl) (fun _ _ _ h => h) (Or.inl ⟨by rfl, ?ya24⟩) (by assumption) ?ra24
      case ya24 =>
        intro W hSw
        go_simp
        all_goals with_reducible rfl
      try simp only [List.getElem_toArray, List.getElem_cons_zero, List.getElem_cons_succ, Act.put, List.setIfInBounds_toArray, List.set_cons_zero, List.set_cons_succ]
      refine wpAnyH_done (by kernel_rfl) ?_ _
      go_wp2_with fail
      go_roundw
      case rel => exact ⟨q + 1, by omega, by go_num, HE1⟩
      case measure => simp [intOf] <;> omega
    · obtain rfl : q = n := by omega
      have HPS : Hid (pairsS S ((askL N S).take q) = pairsS S (askL N S) ∧ (pairsS S (askL N S)).length ≤ 20) := Lib.hid (by
        have h1 := HN.out
        rw [idsOf_filter, List.length_map] at h1
        have h2 : (askL N S).length = q := h1
        refine ⟨by rw [List.take_of_length_le (by omega)], ?_⟩
        unfold pairsS
        rw [List.length_map]; omega)
      have HE2 : Hid (∃ S1 out, EW2 base w b t frm m N B L1 wr.heap.size (.slice ao q acap) cv u7 (idsOf N (askP S)) (idsOf N (cleanP S)) (pairsS S (askL N S)) S1 (.slice none 0 0) out wr ∧ EjTo t now S S1 ((askL N S).take 0) ∧ (outN N S1 : Int) ≤ capN N t S ∧ (Calm N t S → out = [] ∧ S1 = S) ∧ out.length ≤ 0) := Lib.hid
        ⟨S, [], by have := HE.out.two; rw [HPS.out.1] at this; exact this, by rw [List.take_zero]; exact EjTo.start t now S, by unfold capN; omega, fun _ => ⟨rfl, rfl⟩, Nat.le_refl _⟩
      have HQL := Lib.hid HPS.out.2
      obtain ⟨L2, hL2⟩ : ∃ L, wr.heap.size = L := ⟨_, rfl⟩
      rw [hL2] at HE2
      clear hqn hq HE HPS hL2
      go_wp2_with fail
      go_loopw [4, 11, 12, 57] (fun ov _ _ iv wr => ∃ k : Nat, k ≤ q ∧ iv = .int .i64 k ∧ Hid (∃ S1 out, EW2 base w b t frm m N B L1 L2 (.slice ao q acap) cv u7 (idsOf N (askP S)) (idsOf N (cleanP S)) (pairsS S (askL N S)) S1 ov out wr ∧ EjTo t now S S1 ((askL N S).take k) ∧ (outN N S1 : Int) ≤ capN N t S ∧ (Calm N t S → out = [] ∧ S1 = S) ∧ out.length ≤ k)) (fun _ _ _ i _ => q - (intOf i).toNat)
      case atStart => exact ⟨0, by omega, rfl, HE2⟩
      case round =>
        obtain ⟨k, hk, rfl, HE⟩ := hrel
        clear HE2
        by_cases hkq : k < q
        · obtain ⟨S1, out, hew, hej, hrm, hcl, hol⟩ := HE.out
          obtain ⟨i, hi⟩ := filter_idx_of HN.out hkq
          obtain ⟨hiN, hask, hid, hnot⟩ := filter_idx hi
          obtain ⟨g, rfl, hcell⟩ := own_at hew.e.a hid
          have c8 := hew.e.g.blk.cell 8 _ rfl
          have hlk := hew.e.g.look ((i : Int) + 1)
          rw [ptrOf_in hiN] at hlk
          have q0 : (0 : Int) ≤ k := by omega
          have q1 : (k : Int) < q := by omega
          have hS1 : S1 i = S i := hej.at hnot
          have hok := HT.out.2.2.2.2.2 i hiN
          have hask' : (S i).ej = false ∧ 5 ≤ (S i).att := by unfold askP at hask; simpa using hask
          have HW := Lib.hid hew
          have CR := Lib.hid (room_any base b t frm m N B S1 wr hew.e.g (by omega) HT.out.1.s0 HT.out.1.s1)
          have HI := Lib.hid (And.intro hiN (And.intro hS1 (And.intro hok (And.intro hask' (And.intro hej (And.intro hrm (And.intro hcl (And.intro hnot hol))))))))
          have HTK : Hid ((askL N S).take (k + 1) = (askL N S).take k ++ [i]) := Lib.hid (take_snoc_nat hi)
          obtain ⟨r, hr⟩ : ∃ r, roomB N t S1 = r := ⟨_, rfl⟩
          unfold RoomPost at CR
          rw [hr] at CR
          have HR := Lib.hid hr
          clear hew hej hrm hcl hi hid hask hS1 hok hask' hr hnot hol
          go_wp2_with fail
          refine CR.out.mono ?_
          rintro e w4 ⟨rfl, hb4⟩
          have HW4 := Lib.hid (HW.out.next (Upd.ofBelow hb4))
          clear hb4 CR HW c8 hlk hcell
          cases r with
          | false =>
            go_wp2_with fail
            go_roundw
            case rel => exact ⟨k + 1, by omega, by go_num, Lib.hid ⟨S1, out, HW4.out, by rw [HTK.out]; exact HI.out.2.2.2.2.1.same i, HI.out.2.2.2.2.2.1, HI.out.2.2.2.2.2.2.1, Nat.le_succ_of_le HI.out.2.2.2.2.2.2.2.2⟩⟩
            case measure => simp [intOf] <;> omega
          | true =>
            have hok := HI.out.2.2.1
            have hS1 := HI.out.2.1
            have hask := HI.out.2.2.2.1
            have CB := Lib.hid (bad_any base b t frm m N B S1 i u7 (pairsS S (askL N S)) w4 HW4.out.e.g hiN (HW4.out.e.p.isIn HQL.out (pairsS_ok HT.out.2.2.2.2.1 HT.out.2.2.2.2.2)) HT.out.2.2.1 HT.out.2.2.2.1
              (by rw [hS1]; have := hok.w0; have := hok.a1; have := HT.out.2.2.2.2.1; exact ⟨by dsimp only; omega, hok.w1, by dsimp only; omega, by dsimp only; omega⟩) (by rw [hS1]; exact hok.w0) (by rw [hS1]; exact hok.n) (by rw [hS1]; have := hok.w1; have := hok.a1; have := HT.out.2.2.2.2.1; omega))
            clear hok hS1 hask
            go_wp2_with fail
            refine CB.out.mono ?_
            rintro e w5 ⟨bv, rfl, hcb, hb5⟩
            have HW5 := Lib.hid (HW4.out.next (Upd.ofBelow hb5))
            have HCB := Lib.hid hcb
            clear hb5 hcb CB HW4
            cases bv with
            | false =>
              go_wp2_with fail
              go_roundw
              case rel => exact ⟨k + 1, by omega, by go_num, Lib.hid ⟨S1, out, HW5.out, by rw [HTK.out]; exact HI.out.2.2.2.2.1.same i, HI.out.2.2.2.2.2.1, HI.out.2.2.2.2.2.2.1, Nat.le_succ_of_le HI.out.2.2.2.2.2.2.2.2⟩⟩
              case measure => simp [intOf] <;> omega
            | true =>
              have hok := HI.out.2.2.1
              have hS1 := HI.out.2.1
              have CE := Lib.hid (eject_any base b t frm m N B S1 i now w5 HW5.out.e.g HT.out.1 hiN (by have := HW5.out.e.ll; omega) (by rw [hS1]; exact hok.t0) (by rw [hS1]; have := hok.t1; have := HT.out.2.2.2.2.1; omega) hn0 hn1)
              clear hok hS1
              go_wp2_with fail
              refine CE.out.mono ?_
              rintro e w6 ⟨rfl, hp6⟩
              have HW6 := Lib.hid (HW5.out.guard hp6)
              clear hp6 CE HW5
              have HO6 := Lib.hid HW6.out.o
              have HOL := Lib.hid (And.intro HI.out.2.2.2.2.2.2.2.2 HW6.out.ll.2)
              obtain ⟨no, hno⟩ : ∃ n, out.length = n := ⟨_, rfl⟩
              unfold OwnInts at HO6
              rw [hno] at HO6 HOL
              have HNO := Lib.hid hno
              clear hno
              go_wp2_with (at_builtin; refine wpList_append_one w6 rfl (.tmp 79) (.tmp 81) 22 rfl L2 3 1 8 Try.infoInt (by kernel_rfl) rfl (by decide) u4 no (out.map (Value.int .i64)) rfl HO6.out [Value.int .i64 ((i : Int) + 1)] rfl rfl rfl (by have := HOL.out.1; unfold maxLen; omega) (by have := HOL.out.1; omega) HOL.out.2 ?_)
              intro v' w7 hown7 hu7
              have HF : Hid (∃ S1 out, EW2 base w b t frm m N B L1 L2 (.slice (some ⟨g, 0, none⟩) q acap) cv u7 (idsOf N (askP S)) (idsOf N (cleanP S)) (pairsS S (askL N S)) S1 v' out w7 ∧ EjTo t now S S1 ((askL N S).take (k + 1)) ∧ (outN N S1 : Int) ≤ capN N t S ∧ (Calm N t S → out = [] ∧ S1 = S) ∧ out.length ≤ k + 1) := Lib.hid (by
                obtain ⟨-, hS1, hok, hask, hej, hrm, hcl, hnot, hol⟩ := HI.out
                refine ⟨upd S1 i (ejectE t now (S1 i)), out ++ [(i : Int) + 1], HW6.out.app (by unfold OwnInts; rw [List.length_append, HNO.out, List.map_append]; exact hown7) hu7, by rw [HTK.out]; exact hej.more hnot hask.1, ?_, fun hcalm => ?_, by rw [List.length_append]; simp; omega⟩
                · have h1 := outN_upd N S1 i (ejectE t now (S1 i))
                  have h2 := HR.out
                  unfold roomB at h2
                  have h3 := of_decide_eq_true h2
                  unfold capN
                  omega
                · have h1 := hcalm i hiN hask.1
                  rw [← hS1] at h1
                  have := HCB.out h1 (pairsS_calm hcalm)
                  cases this)
              clear hown7 hu7 HI HR HCB HE HW6 HO6
              go_wp2_with fail
              go_roundw
              case rel => exact ⟨k + 1, by omega, by go_num, HF⟩
              case measure => simp [intOf] <;> omega
        · obtain rfl : k = q := by omega
          obtain ⟨S1, out, hew, hej, hrm, hcl, hol⟩ := HE.out
          have hall : (askL N S).take k = askL N S := by
            have h1 := HN.out
            rw [idsOf_filter, List.length_map] at h1
            exact List.take_of_length_le (by unfold askL; omega)
          rw [hall] at hej
          have HEI := Lib.hid (EndIs.of hej hrm hcl)
          have HTM : Hid (∀ i, i < N → 0 ≤ (S1 i).times ∧ (S1 i).times ≤ 1000) := Lib.hid fun i hi => by
            have hok := HT.out.2.2.2.2.2 i hi
            have := hok.t0
            have := hok.t1
            have := HT.out.2.2.2.2.1
            rcases hej i with e | ⟨-, -, e⟩
            · rw [e]; omega
            · rw [e]; show 0 ≤ (S i).times + 1 ∧ (S i).times + 1 ≤ 1000; omega
          obtain ⟨co, ccap, rfl⟩ := own_len hew.e.c
          obtain ⟨nc, hnc⟩ : ∃ n, (idsOf N (cleanP S)).length = n := ⟨_, rfl⟩
          have hncN : (nc : Int) ≤ 20 := by have := idsOf_len N (cleanP S); omega
          have HNC := Lib.hid hnc
          rw [hnc] at hew ⊢
          have HL3 : Hid (EW2 base w b t frm m N B L1 L2 (.slice ao k acap) (.slice co nc ccap) u7 (idsOf N (askP S)) (idsOf N (cleanP S)) (pairsS S (askL N S)) (timS S1 ((cleanL N S).take 0)) u4 out wr) := Lib.hid (by rw [List.take_zero, timS_nil]; exact hew)
          clear hew hej hrm hcl hall hnc HE hkq hk
          go_wp2_with fail
          go_loopw [14, 86] (fun _ iv wr => ∃ q : Nat, q ≤ nc ∧ iv = .int .i64 q ∧ Hid (EW2 base w b t frm m N B L1 L2 (.slice ao k acap) (.slice co nc ccap) u7 (idsOf N (askP S)) (idsOf N (cleanP S)) (pairsS S (askL N S)) (timS S1 ((cleanL N S).take q)) u4 out wr)) (fun _ i _ => nc - (intOf i).toNat)
          case atStart => exact ⟨0, by omega, rfl, HL3⟩
          case round =>
            obtain ⟨q, hq, rfl, HL⟩ := hrel
            clear HL3
            by_cases hqn : q < nc
            · obtain ⟨i, hi⟩ := filter_idx_of HNC.out hqn
              obtain ⟨hiN, hask, hid, hnot⟩ := filter_idx hi
              obtain ⟨g, rfl, hcell⟩ := own_at HL.out.e.c hid
              have hG := HL.out.e.g
              have c8 := hG.blk.cell 8 _ rfl
              have hlk := (hG.next (Upd.drew [] wr)).look ((i : Int) + 1)
              rw [ptrOf_in hiN] at hlk
              have he := hG.ends i hiN
              have d1 := he.cell 1 _ rfl
              have f1 := he.free 1
              have q0 : (0 : Int) ≤ q := by omega
              have q1 : (q : Int) < nc := by omega
              obtain ⟨s0, hs0⟩ : ∃ s, timS S1 ((cleanL N S).take q) i = s := ⟨_, rfl⟩
              obtain ⟨E, hE⟩ : ∃ E, B i = E := ⟨_, rfl⟩
              rw [hs0, hE] at he
              rw [hs0, hE] at d1
              rw [hE] at f1 hlk
              obtain ⟨tm, htm⟩ : ∃ x, s0.times = x := ⟨_, rfl⟩
              rw [htm] at d1
              obtain ⟨M, hM⟩ : ∃ x, max (tm - 1) 0 = x := ⟨_, rfl⟩
              have htb : 0 ≤ tm ∧ tm ≤ 1000 := by
                have h1 := HTM.out i hiN
                have h2 : timS S1 ((cleanL N S).take q) i = S1 i := by unfold timS; exact if_neg hnot
                rw [h2] at hs0
                rw [← htm, ← hs0]; exact h1
              have ewt := IntWalk.i64_in (tm - 1) (by omega)
              have HNX : Hid (EW2 base w b t frm m N B L1 L2 (.slice ao k acap) (.slice (some ⟨g, 0, none⟩) nc ccap) u7 (idsOf N (askP S)) (idsOf N (cleanP S)) (pairsS S (askL N S)) (timS S1 ((cleanL N S).take (q + 1))) u4 out (wr.drew.setCell ⟨E, 1, none⟩ (.int .i64 M))) := Lib.hid (by
                have hu : Upd [B i] wr.drew (wr.drew.setCell ⟨E, 1, none⟩ (.int .i64 M)) := by rw [hE]; exact Upd.setCell' _ _ _ (by simp)
                have h1 := HL.out.next (Upd.drew [] wr)
                have hcl : s0.cells.set 1 (.int .i64 M) = (tmE s0).cells := by rw [← hM, ← htm]; rfl
                have hb := he.drew.set 1 (.int .i64 M)
                rw [hcl, ← hs0] at hb
                have hg := h1.e.g.write (s' := tmE (timS S1 ((cleanL N S).take q) i)) hiN hu (by rw [hE]; exact hb) (.inr rfl)
                unfold cleanL at hg ⊢
                rw [timS_snoc hnot, ← take_snoc_nat hi] at hg
                exact h1.guard ⟨hg, .of hu (by have := h1.e.ll; omega) (by simp; exact h1.e.g.freeE hiN)⟩)
              clear hi hiN hask hid hnot HL hG he hs0 hE htm htb hq
              go_wp2_with fail
              go_still_tail 19, (by kernel_rfl)
              change wpList _ _ _ _ _ wr.drew
              go_wp2_with fail
              go_roundw
              case rel => exact ⟨q + 1, by omega, by go_num, HNX⟩
              case measure => simp [intOf] <;> omega
            · obtain rfl : q = nc := by omega
              have hall : (cleanL N S).take q = cleanL N S := by
                have h1 := HNC.out
                rw [idsOf_filter, List.length_map] at h1
                exact List.take_of_length_le (by unfold cleanL; omega)
              rw [hall] at HL
              obtain ⟨S2, hS2⟩ : ∃ S2, timS S1 (cleanL N S) = S2 := ⟨_, rfl⟩
              rw [hS2] at HL HEI
              obtain ⟨es, clock, hm⟩ := HL.out.e.g.map
              have c8 := HL.out.e.g.blk.cell 8 _ rfl
              have hrg := range_at (P := Try.prog) tMapEnd hm.at_
              have HI0 : Hid (∃ W I, W = wr.alloc (.mapIter (some m) clock #[] clock) ∧ I = wr.heap.size ∧ IterAt W I m clock #[] ∧ EW2 base w b t frm m N B L1 L2 (.slice ao k acap) (.slice co q ccap) u7 (idsOf N (askP S)) (idsOf N (cleanP S)) (pairsS S (askL N S)) (winS S2 (seenF es #[] (fun _ => true))) u4 out W ∧ EntsAt W m N B es clock ∧ w.heap.size ≤ I) := Lib.hid
                ⟨_, _, rfl, rfl, heap_alloc_new wr _, by rw [seenF_none, winS_nil]; exact HL.out.next (Upd.alloc [] wr _), hm.keep (Upd.alloc [] wr _) (by simp), HL.out.e.st.size⟩
              clear hall hS2 hm HL hqn hq
              go_wp2_with fail
              obtain ⟨W1, I, hW1, hI, HI1⟩ := HI0.out
              rw [← hW1]
              rw [← hI]
              have HI := Lib.hid (And.intro HI1.1 (And.intro HI1.2.1 HI1.2.2.1))
              have HIL := Lib.hid HI1.2.2.2
              clear HI0 hW1 hI HI1 hrg c8
              go_loopw [16] (fun _ wr => ∃ seen : Array Nat, Hid (IterAt wr I m clock seen ∧ EW2 base w b t frm m N B L1 L2 (.slice ao k acap) (.slice co q ccap) u7 (idsOf N (askP S)) (idsOf N (cleanP S)) (pairsS S (askL N S)) (winS S2 (seenF es seen (fun _ => true))) u4 out wr ∧ EntsAt wr m N B es clock)) (fun _ wr => (leftOf es.toArray (wr.iterSeen I)).size)
              case atStart => exact ⟨#[], HI⟩
              case round =>
                obtain ⟨seen, HJ⟩ := hrel
                clear HI
                obtain ⟨hit, hew, hents⟩ := HJ.out
                rcases next_at (P := Try.prog) hit hents.at_ hents.old with ⟨h0, hrun⟩ | ⟨e, he, w8, hit2, hu2, hsz2, hrun⟩
                · have hl : es.length = N := by have := congrArg List.length hents.is; simpa [entL] using this
                  have hsn : seenF es seen (fun _ => true) = List.range N := by rw [seenF_all h0, hl]; exact List.filter_eq_self.2 (fun _ _ => rfl)
                  rw [hsn] at hew
                  have f7 := hew.e.g.blk.free 7
                  have c7 := hew.e.g.blk.cell 7 _ rfl
                  have hu : Upd [b] wr (wr.setCell ⟨b, 7, none⟩ (.int .i64 now)) := Upd.setCell' _ _ _ (by simp)
                  have hb := hew.e.g.blk.set 7 (.int .i64 now)
                  have HF : Hid (EndPost base b t m N B S now w (.returned u4) (wr.setCell ⟨b, 7, none⟩ (.int .i64 now))) := Lib.hid
                    ⟨u4, _, out, rfl, HEI.out, hu.owns (ownsRow_mono hew.o (by have := hew.ll; have := hew.e.ll; omega)) (fun k hk => by
                      obtain ⟨cs, hbb⟩ := own_block hew.o hk
                      simp
                      exact btype_ne hbb hew.e.g.blk (by decide)), hew.e.g.from hu hb, hew.e.st.trans (.of hu (by have := hew.e.ll; omega) (by simp; exact ⟨hew.e.g.low.1, .block hew.e.g.blk (by decide) (by decide) (by decide) (by decide)⟩))⟩
                  clear hit hew hents h0 hl hsn hu hb HEI HJ
                  go_wp2_with fail
                  go_ret
                  exact HF.out
                · obtain ⟨i, hi, hperm⟩ := seenF_push (p := fun _ => true) hents.nodup he
                  rw [if_pos rfl] at hperm
                  have hlist : (entL N B)[i]? = some (e.key, e.val) := by rw [← hents.is, List.getElem?_map, hi]; rfl
                  obtain ⟨hiN, hkv⟩ : i < N ∧ (Value.int .i64 ((i : Int) + 1), Value.pointer (some ⟨B i, 0, none⟩)) = (e.key, e.val) := by
                    unfold entL at hlist
                    rw [List.getElem?_map] at hlist
                    cases hr : (List.range N)[i]? with
                    | none => rw [hr] at hlist; cases hlist
                    | some j =>
                      obtain ⟨h1, h2⟩ := List.getElem?_eq_some_iff.1 hr
                      rw [List.getElem_range] at h2
                      subst h2
                      rw [hr] at hlist
                      exact ⟨by simpa using h1, Option.some.inj hlist⟩
                  rw [Prod.mk.injEq] at hkv
                  have hents2 := hents.keep hu2 (by simp; exact iter_map hit hents.at_)
                  have hen := entry_at (P := Try.prog) hit2 hents2.at_ (List.mem_of_getElem? hi) hents.nodup
                  rw [← hkv.1, ← hkv.2] at hrun hen
                  have hew2 := hew.iter hit hu2 HIL.out
                  have hE := hew2.e.g.ends i hiN
                  have d4 := hE.cell 4 _ rfl
                  have d5 := hE.cell 5 _ rfl
                  have d6 := hE.cell 6 _ rfl
                  have f4 := hE.free 4
                  have f5 := hE.free 5
                  have f6 := hE.free 6
                  have HN9 : Hid (IterAt (((w8.setCell ⟨B i, 4, none⟩ (.int .i64 0)).setCell ⟨B i, 5, none⟩ (.int .i64 0)).setCell ⟨B i, 6, none⟩ (.pointer none)) I m clock (seen.push e.born) ∧ EW2 base w b t frm m N B L1 L2 (.slice ao k acap) (.slice co q ccap) u7 (idsOf N (askP S)) (idsOf N (cleanP S)) (pairsS S (askL N S)) (winS S2 (seenF es (seen.push e.born) (fun _ => true))) u4 out (((w8.setCell ⟨B i, 4, none⟩ (.int .i64 0)).setCell ⟨B i, 5, none⟩ (.int .i64 0)).setCell ⟨B i, 6, none⟩ (.pointer none)) ∧ EntsAt (((w8.setCell ⟨B i, 4, none⟩ (.int .i64 0)).setCell ⟨B i, 5, none⟩ (.int .i64 0)).setCell ⟨B i, 6, none⟩ (.pointer none)) m N B es clock) := Lib.hid (by
                    have hu : Upd [B i] w8 (((w8.setCell ⟨B i, 4, none⟩ (.int .i64 0)).setCell ⟨B i, 5, none⟩ (.int .i64 0)).setCell ⟨B i, 6, none⟩ (.pointer none)) := ((Upd.setCell' _ _ _ (by simp)).trans (Upd.setCell' _ _ _ (by simp))).trans (Upd.setCell' _ _ _ (by simp))
                    have hb := ((hE.set 4 (.int .i64 0)).set 5 (.int .i64 0)).set 6 (.pointer none)
                    have hg := hew2.e.g.write (s' := wz (winS S2 (seenF es seen (fun _ => true)) i)) hiN hu hb (.inl rfl)
                    rw [winS_more hperm] at hg
                    exact ⟨hit2.keep hu (by simp; exact fun hh => iter_block hit2 hE hh.symm), hew2.guard ⟨hg, .of hu (by have := hew2.ll; have := hew2.e.ll; omega) (by simp; exact hew2.e.g.freeE hiN)⟩, hents2.keep hu (by simp; exact fun hh => bmap_ne hE hents2.at_ hh.symm)⟩)
                  have HSE := Lib.hid (show (leftOf es.toArray (seen.push e.born)).size < (leftOf es.toArray seen).size ∧ wr.iterSeen I = seen from ⟨left_shrinks es.toArray seen e he, by unfold World.iterSeen; unfold IterAt at hit; rw [hit]⟩)
                  have hseen : (((w8.setCell ⟨B i, 4, none⟩ (.int .i64 0)).setCell ⟨B i, 5, none⟩ (.int .i64 0)).setCell ⟨B i, 6, none⟩ (.pointer none)).iterSeen I = seen.push e.born := by have := HN9.out.1; unfold IterAt at this; unfold World.iterSeen; rw [this]
                  have HSN := Lib.hid hseen
                  clear hkv hlist hiN hperm he hi hents hents2 hew hew2 hit hit2 hu2 hE hsz2 hseen HJ HEI
                  go_wp2_with fail
                  go_roundw
                  case rel => exact ⟨seen.push e.born, HN9⟩
                  case measure => rw [HSN.out, HSE.out.2]; exact HSE.out.1
end Go.Proofs.Ytfmgcnmikopgeaa
