/- Layer 23: Between; one row of one flow; the walk of AdmitRuns. -/
import Derived.Test.YtklbnldkfohkpaaGateF
namespace Go.Proofs.Ytklbnldkfohkpaa
open Go.RowKit
def lowOf (n : Int) : Int := 1 + around n 1000 % 4
def highOf (n : Int) : Int := 1 + around n 1000 % 4 + around n 1000 / 4 % 10
theorem low_facts (n : Int) : 1 ≤ lowOf n ∧ lowOf n ≤ highOf n ∧ highOf n ≤ 13 ∧ lowOf n ≤ 4 := by
  have a0 := around_nonneg n 1000 (by omega)
  unfold lowOf highOf
  omega
theorem between_any (n : Int) (w : World) (h1 : -9223372036854775808 ≤ n) (h2 : n ≤ 9223372036854775807) :
    Calls Try.prog 18 #[.int .i64 n] w fun e w' => e = .returned (.tuple #[.int .i64 (lowOf n), .int .i64 (highOf n)]) ∧ w = w' := by
  have a0 := around_nonneg n 1000 (by omega)
  have a1 := around_lt n 1000 (by omega)
  go_enter Try.func18, Try.ntmps18
  go_wp2_with fail
  refine (around_any n 1000 _ h1 h2 (by omega)).mono ?_
  rintro e w' ⟨rfl, rfl⟩
  go_wp2
  go_ret2
  exact ⟨rfl, rfl⟩
theorem addIt_one (P : Nat) (l : List It) (tk : Bool) (last : Int) (x : It) : addIt (oneRow P l tk last) P x = oneRow P (l ++ [x]) tk last := by
  unfold addIt
  rw [oneRow_same, oneRow_upd]
theorem shed_one {P : Nat} {l : List It} {tk : Bool} {last : Int} {r' : Nat → Row} {y : It} (h : ShedIs (oneRow P l tk last) r' y) : ∃ (i : Nat) (f : Int), FullOk l f ∧ l[i]? = some y ∧ y.flow = f ∧ (∀ (k : Nat) (z : It), i < k → l[k]? = some z → ¬ z.flow = f) ∧ r' = oneRow P (l.eraseIdx i) tk last := by
  cases h with
  | some p i f x h1 h2 h3 h4 h5 h6 =>
    by_cases e : p = P
    · subst e
      rw [oneRow_same] at h3 h4 h6
      exact ⟨i, f, h3, h4, h5, h6, by rw [oneRow_same, oneRow_upd]⟩
    · rw [oneRow_other _ _ _ e] at h4; simp at h4
/-- What is shed of one flow is the newest. -/
theorem same_shed {P : Nat} {L : List It} {tk : Bool} {last f0 : Int} {x y : It} (hL : ∀ z ∈ L, z.flow = f0) (hx : x.flow = f0) {r' : Nat → Row} (h : ShedIs (oneRow P (L ++ [x]) tk last) r' y) : y = x ∧ r' = oneRow P L tk last := by
  obtain ⟨i, f, h1, h2, h3, h4, rfl⟩ := shed_one h
  have hall : ∀ z ∈ L ++ [x], z.flow = f0 := fun z hz => by
    rcases List.mem_append.1 hz with hz | hz
    · exact hL z hz
    · simp at hz; subst hz; exact hx
  have hf : f = f0 := by rw [← h3]; exact hall y (List.mem_of_getElem? h2)
  have hlast : (L ++ [x])[L.length]? = some x := by simp
  have hi : i = L.length := by
    have hil := (List.getElem?_eq_some_iff.1 h2).1
    simp at hil
    rcases Nat.lt_or_ge i L.length with hh | hh
    · exact absurd (by rw [hf]; exact hx) (h4 L.length x hh hlast)
    · omega
  subst hi
  rw [hlast] at h2
  cases h2
  exact ⟨rfl, by rw [List.eraseIdx_append_of_length_le (Nat.le_refl _)]; simp⟩
theorem rowsOk_one {P : Nat} (hP : P < 4) {L : List It} (h : ∀ z ∈ L, z.prio = (P : Int)) (tk : Bool) (last : Int) : RowsOk (oneRow P L tk last) L.length := by
  refine ⟨fun q hq z hz => ?_, ?_⟩
  · by_cases e : q = P
    · subst e; rw [oneRow_same] at hz; exact h z hz
    · rw [oneRow_other _ _ _ e] at hz; cases hz
  · unfold totN
    rcases (show P = 0 ∨ P = 1 ∨ P = 2 ∨ P = 3 by omega) with rfl | rfl | rfl | rfl <;> simp [oneRow, upd]
theorem gLim_ok {lo hi : Int} (h1 : 1 ≤ lo) (h2 : lo ≤ hi) (h3 : hi ≤ 1000) : (newLim lo hi).Ok := ⟨h1, Int.le_refl _, h2, h3, by simp [newLim], by simp [newLim], by simp [newLim], by simp [newLim]⟩
/-- So many came. -/
structure Came (lo M i : Nat) (U : List Int) (L : List It) : Prop where
  u : U.length = min i lo
  old : ∀ k ∈ U, k < (i : Int)
  l : L.length = min (i - lo) M
  one : ∀ z ∈ L, z.flow = 0 ∧ z.prio = ((0 : Nat) : Int)
theorem Came.runs {lo M i : Nat} {U : List Int} {L : List It} (h : Came lo M i U L) (hi : i < lo) : Came lo M (i + 1) (putU U i) L := by
  have hn : (i : Int) ∉ U := fun hh => by have := h.old _ hh; omega
  unfold putU
  rw [if_neg hn]
  refine ⟨by simp [h.u]; omega, fun k hk => ?_, by rw [h.l]; omega, h.one⟩
  rcases List.mem_append.1 hk with hk | hk
  · have := h.old k hk; omega
  · simp at hk; omega
theorem Came.waits {lo M i : Nat} {U : List Int} {L : List It} (h : Came lo M i U L) (hi : lo ≤ i) (hm : i < lo + M) : Came lo M (i + 1) U (L ++ [⟨(i : Int), 0, 0⟩]) := by
  refine ⟨by rw [h.u]; omega, fun k hk => by have := h.old k hk; omega, by simp [h.l]; omega, fun z hz => ?_⟩
  rcases List.mem_append.1 hz with hz | hz
  · exact h.one z hz
  · simp at hz; subst hz; exact ⟨rfl, rfl⟩
theorem Came.shed {lo M i : Nat} {U : List Int} {L : List It} (h : Came lo M i U L) (hm : lo + M ≤ i) : Came lo M (i + 1) U L :=
  ⟨by rw [h.u]; omega, fun k hk => by have := h.old k hk; omega, by rw [h.l]; omega, h.one⟩
set_option maxRecDepth 100000 in
set_option maxHeartbeats 4000000 in
theorem runs_walk (n0 m0 k0 : Int) (w : World) (hn1 : -9223372036854775808 ≤ n0) (hn2 : n0 ≤ 9223372036854775807) (hm1 : -9223372036854775808 ≤ m0) (hm2 : m0 ≤ 9223372036854775807) (hk1 : -9223372036854775808 ≤ k0) (hk2 : k0 ≤ 9223372036854775807) :
    Calls Try.prog 4 #[.int .i64 n0, .int .i64 m0, .int .i64 k0] w (TruePost w) := by
  have CB := Lib.hid (fun w => between_any n0 w hn1 hn2)
  have CM := Lib.hid (fun w => around_any m0 6 w hm1 hm2 (by omega))
  have CK := Lib.hid (fun w => around_any k0 20 w hk1 hk2 (by omega))
  have a0 := around_nonneg m0 6 (by omega)
  have a1 := around_lt m0 6 (by omega)
  have b0 := around_nonneg k0 20 (by omega)
  have b1 := around_lt k0 20 (by omega)
  obtain ⟨l1, l2, l3, l4⟩ := low_facts n0
  obtain ⟨lo, hlo⟩ : ∃ k : Nat, lowOf n0 = (k : Int) := ⟨(lowOf n0).toNat, by omega⟩
  obtain ⟨hi, hhi⟩ : ∃ k : Int, highOf n0 = k := ⟨_, rfl⟩
  obtain ⟨M, hM⟩ : ∃ k : Nat, around m0 6 = (k : Int) := ⟨(around m0 6).toNat, by omega⟩
  obtain ⟨K, hK⟩ : ∃ k : Nat, around k0 20 = (k : Int) := ⟨(around k0 20).toNat, by omega⟩
  rw [hlo, hhi] at CB l2
  rw [hlo] at l1 l4
  rw [hhi] at l3
  rw [hM] at CM a0 a1
  rw [hK] at CK b0 b1
  have CN := Lib.hid (newGate_any (lo : Int) hi (M : Int) w.heap.size w (Nat.le_refl _))
  have HLIM := Lib.hid (gLim_ok l1 l2 (by omega))
  clear hlo hhi hM hK hn1 hn2 hm1 hm2 hk1 hk2
  go_enter Try.func4, Try.ntmps4
  go_wp2_with fail
  refine (CB.out _).mono ?_
  rintro e w' ⟨rfl, rfl⟩
  go_wp2_with fail
  refine (CM.out _).mono ?_
  rintro e w' ⟨rfl, rfl⟩
  go_wp2_with fail
  refine CN.out.mono ?_
  rintro e w1 ⟨gb, rfl, hg, hst, hgb⟩
  have HG1 : Hid (GateAt w.heap.size w1 gb ⟨M, (([] : List It).length : Int), oneRow 0 [] false 0, newLim lo hi, []⟩ [] ∧ QStep w.heap.size [] w w1) := Lib.hid ⟨by rw [← oneRow_nil 0]; exact hg, hst⟩
  have HC0 : Hid (Came lo M 0 [] []) := Lib.hid ⟨by simp, by simp, by simp, by simp⟩
  clear hg hst hgb CN CB CM
  go_wp2_with fail
  refine (CK.out _).mono ?_
  rintro e w' ⟨rfl, rfl⟩
  clear CK
  go_wp2_with fail
  go_loopw [12] (fun i wr => ∃ (j : Nat) (U : List Int) (L : List It), j ≤ K ∧ i = .int .i64 j ∧ Hid (GateAt w.heap.size wr gb ⟨M, (L.length : Int), oneRow 0 L false 0, newLim lo hi, U⟩ [] ∧ QStep w.heap.size [] w wr) ∧ Hid (Came lo M j U L)) (fun i _ => K - (intOf i).toNat)
  case atStart => exact ⟨0, [], [], by omega, rfl, HG1, HC0⟩
  case round =>
    obtain ⟨j, U, L, hj, rfl, HG, HC⟩ := hrel
    clear HG1 HC0
    by_cases hlt : j < K
    · have hul := HC.out.u
      have hll := HC.out.l
      have HOK : Hid (Gt.Ok ⟨M, (L.length : Int), oneRow 0 L false 0, newLim lo hi, U⟩) := Lib.hid ⟨rowsOk_one (by omega) (fun z hz => (HC.out.one z hz).2) _ _, by dsimp only; omega, by dsimp only; omega, by dsimp only; omega, HLIM.out, by dsimp only; omega⟩
      have CE := Lib.hid (enter_any w.heap.size gb _ [] 0 ⟨(j : Int), 0, 0⟩ wr HG.out.1 HOK.out (by omega) rfl)
      unfold It.val at CE
      dsimp only at CE
      have HJ := Lib.hid hlt
      have HUL := Lib.hid (And.intro hul hll)
      have hlt' : (j : Int) < K := by omega
      have j0 : (0 : Int) ≤ j := by omega
      clear hul hll hlt
      go_wp2_with fail
      refine CE.out.mono ?_
      rintro e w2 ⟨what, sh, is, g2, he, rfl, hp⟩
      have hst2 := HG.out.2.trans hp.st
      by_cases h1 : j < lo
      · obtain ⟨rfl, rfl, rfl, rfl⟩ := enter_runs he (show (U.length : Int) < (lo : Int) by have := HUL.out.1; omega)
        have hg2 : GateAt w.heap.size w2 gb ⟨M, (L.length : Int), oneRow 0 L false 0, newLim lo hi, putU U j⟩ [] := hp.at_
        have HG2 := Lib.hid (And.intro (hg2.next (Upd.alloc [] w2 (.cells #[.int .i64 0, .int .i64 0, .int .i64 0] 29))) (hst2.trans (hg2.step0 (Upd.alloc [] w2 (.cells #[.int .i64 0, .int .i64 0, .int .i64 0] 29)))))
        have HC2 := Lib.hid (HC.out.runs h1)
        have h1' : (j : Int) < lo := by omega
        unfold It.val zeroIt
        dsimp only
        clear he hp hst2 hg2 CE h1
        go_wp2_with fail
        go_roundw
        case rel => exact ⟨j + 1, putU U j, L, by have := HJ.out; omega, by go_num, HG2, HC2⟩
        case measure => have := HJ.out; simp [intOf] <;> omega
      · by_cases h2 : j < lo + M
        · obtain ⟨rfl, rfl, rfl, rfl⟩ := enter_room he (show (lo : Int) ≤ (U.length : Int) by have := HUL.out.1; omega) (show (L.length : Int) + 1 ≤ (M : Int) by have := HUL.out.2; omega)
          have hg2 : GateAt w.heap.size w2 gb ⟨M, ((L ++ [(⟨(j : Int), 0, 0⟩ : It)]).length : Int), oneRow 0 (L ++ [(⟨(j : Int), 0, 0⟩ : It)]) false 0, newLim lo hi, U⟩ [] := by
            have := hp.at_
            rw [addIt_one] at this
            simpa using this
          have HG2 := Lib.hid (And.intro (hg2.next (Upd.alloc [] w2 (.cells #[.int .i64 0, .int .i64 0, .int .i64 0] 29))) (hst2.trans (hg2.step0 (Upd.alloc [] w2 (.cells #[.int .i64 0, .int .i64 0, .int .i64 0] 29)))))
          have HC2 := Lib.hid (HC.out.waits (by omega) h2)
          have h1' : ¬ (j : Int) < lo := by omega
          have h2' : (j : Int) < (lo : Int) + M := by omega
          unfold It.val zeroIt
          dsimp only
          clear he hp hst2 hg2 CE h1 h2
          go_wp2_with fail
          go_roundw
          case rel => exact ⟨j + 1, U, _, by have := HJ.out; omega, by go_num, HG2, HC2⟩
          case measure => have := HJ.out; simp [intOf] <;> omega
        · obtain ⟨r', y, hs, rfl, hh⟩ := enter_over he (show (lo : Int) ≤ (U.length : Int) by have := HUL.out.1; omega) (show (M : Int) < (L.length : Int) + 1 by have := HUL.out.2; omega)
          rw [addIt_one] at hs
          obtain ⟨rfl, rfl⟩ := same_shed (f0 := 0) (x := ⟨(j : Int), 0, 0⟩) (fun z hz => (HC.out.one z hz).1) rfl hs
          rcases hh with ⟨-, rfl, rfl, rfl⟩ | ⟨hh, -⟩
          · have hg2 : GateAt w.heap.size w2 gb ⟨M, (L.length : Int), oneRow 0 L false 0, newLim lo hi, U⟩ [] := hp.at_
            have HG2 := Lib.hid (And.intro (hg2.next (Upd.alloc [] w2 (.cells #[.int .i64 0, .int .i64 0, .int .i64 0] 29))) (hst2.trans (hg2.step0 (Upd.alloc [] w2 (.cells #[.int .i64 0, .int .i64 0, .int .i64 0] 29)))))
            have HC2 := Lib.hid (HC.out.shed (by omega))
            have h1' : ¬ (j : Int) < lo := by omega
            have h2' : ¬ (j : Int) < (lo : Int) + M := by omega
            unfold It.val zeroIt
            dsimp only
            clear he hp hst2 hg2 CE h1 h2 hs
            go_wp2_with fail
            go_roundw
            case rel => exact ⟨j + 1, U, L, by have := HJ.out; omega, by go_num, HG2, HC2⟩
            case measure => have := HJ.out; simp [intOf] <;> omega
          · exact absurd rfl hh
    · obtain rfl : j = K := by omega
      have hul := HC.out.u
      have hll := HC.out.l
      have CU := Lib.hid (under_any w.heap.size gb _ _ wr HG.out.1)
      have CW := Lib.hid (waiting_any w.heap.size gb _ _ wr HG.out.1)
      have HBL := Lib.hid HG.out.2.below
      dsimp only at CU CW
      rcases (show (j ≤ lo ∧ U.length = j ∧ L.length = 0) ∨ (lo < j ∧ j ≤ lo + M ∧ U.length = lo ∧ (L.length : Int) = (j : Int) - lo) ∨ (lo + M < j ∧ U.length = lo ∧ L.length = M) by omega) with ⟨c1, c2, c3⟩ | ⟨c1, c2, c3, c4⟩ | ⟨c1, c2, c3⟩
      · rw [c2] at CU
        rw [c3] at CW
        have d1 : (j : Int) ≤ lo := by omega
        have d2 : (j : Int) - lo ≤ M := by omega
        have d3 : (j : Int) - lo ≤ 0 := by omega
        clear c1 c2 c3
        clear hlt hj hul hll HG
        go_wp2_with fail
        refine CU.out.mono ?_
        rintro e w7 ⟨rfl, rfl⟩
        go_wp2_with fail
        refine CW.out.mono ?_
        rintro e w7 ⟨rfl, rfl⟩
        clear CU CW
        go_wp2_with fail
        all_goals first
          | (exfalso; omega)
          | (refine (lives_any _).mono ?_
             rintro e w9 ⟨rfl, hb9⟩
             have HB9 := Lib.hid hb9
             clear hb9
             go_wp2_with fail
             go_ret
             refine ⟨?_, HBL.out.trans (HB9.out.mono HBL.out.size)⟩
             first
               | rfl
               | (have e0 : (0 : Int) = (j : Int) - lo := by omega
                  rw [← e0]
                  rfl))
      · rw [c3] at CU
        rw [c4] at CW
        have d1 : (lo : Int) < j := by omega
        have d2 : (j : Int) - lo ≤ M := by omega
        have d3 : (0 : Int) ≤ (j : Int) - lo := by omega
        clear c1 c2 c3 c4
        clear hlt hj hul hll HG
        go_wp2_with fail
        refine CU.out.mono ?_
        rintro e w7 ⟨rfl, rfl⟩
        go_wp2_with fail
        refine CW.out.mono ?_
        rintro e w7 ⟨rfl, rfl⟩
        clear CU CW
        go_wp2_with fail
        all_goals first
          | (exfalso; omega)
          | (refine (lives_any _).mono ?_
             rintro e w9 ⟨rfl, hb9⟩
             have HB9 := Lib.hid hb9
             clear hb9
             go_wp2_with fail
             go_ret
             exact ⟨rfl, HBL.out.trans (HB9.out.mono HBL.out.size)⟩)
      · rw [c2] at CU
        rw [c3] at CW
        have d1 : (lo : Int) < j := by omega
        have d2 : (M : Int) < (j : Int) - lo := by omega
        clear c1 c2 c3
        clear hlt hj hul hll HG
        go_wp2_with fail
        refine CU.out.mono ?_
        rintro e w7 ⟨rfl, rfl⟩
        go_wp2_with fail
        refine CW.out.mono ?_
        rintro e w7 ⟨rfl, rfl⟩
        clear CU CW
        go_wp2_with fail
        all_goals first
          | (exfalso; omega)
          | (refine (lives_any _).mono ?_
             rintro e w9 ⟨rfl, hb9⟩
             have HB9 := Lib.hid hb9
             clear hb9
             go_wp2_with fail
             go_ret
             exact ⟨rfl, HBL.out.trans (HB9.out.mono HBL.out.size)⟩)
end Go.Proofs.Ytklbnldkfohkpaa
