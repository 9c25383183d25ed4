/- Layer 22: the walk of FairOld. -/
import Derived.Test.YtapoikegoknlcaaFairT
import Derived.RegionTactic
namespace Go.Proofs.Ytapoikegoknlcaa
open Go.RowKit
def oldL (c : Nat) : List It := (List.range c).map (fun i : Nat => (⟨(i : Int), 3, 7⟩ : It))
theorem oldL_length (c : Nat) : (oldL c).length = c := by simp [oldL]
theorem oldL_get {c i : Nat} (h : i < c) : (oldL c)[i]? = some ⟨(i : Int), 3, 7⟩ := by simp [oldL, h]
theorem oldL_succ (c : Nat) : oldL (c + 1) = oldL c ++ [⟨(c : Int), 3, 7⟩] := by simp [oldL, List.range_succ]
theorem oldL_flow {c : Nat} {x : It} (h : x ∈ oldL c) : x.flow = 7 := by
  simp [oldL] at h
  obtain ⟨i, -, rfl⟩ := h
  rfl
/-- What is shed of one flow is the newest. -/
theorem old_shed {c : Nat} {x y : It} (hx : x.flow = 7) {r' : Nat → Row} (h : ShedIs (oneRow 3 (oldL c ++ [x]) false 0) r' y) : y = x ∧ r' = oneRow 3 (oldL c) false 0 := by
  obtain ⟨i, f, h1, h2, h3, h4, rfl⟩ := shed_one h
  have hall : ∀ z ∈ oldL c ++ [x], z.flow = 7 := fun z hz => by
    rcases List.mem_append.1 hz with hz | hz
    · exact oldL_flow hz
    · simp at hz; subst hz; exact hx
  have hf : f = 7 := by rw [← h3]; exact hall y (List.mem_of_getElem? h2)
  have hlast : (oldL c ++ [x])[c]? = some x := by rw [List.getElem?_append_right (by rw [oldL_length]; omega)]; simp [oldL_length]
  have hi : i = c := by
    have hil := (List.getElem?_eq_some_iff.1 h2).1
    simp [oldL_length] at hil
    rcases Nat.lt_or_ge i c with hh | hh
    · exact absurd (by rw [hf]; exact hx) (h4 c x hh hlast)
    · omega
  subst hi
  rw [hlast] at h2
  cases h2
  refine ⟨rfl, ?_⟩
  rw [List.eraseIdx_append_of_length_le (by rw [oldL_length]; exact Nat.le_refl _)]
  simp [oldL_length]
theorem run_same {f : Int} {l : List It} {tk : Bool} {last : Int} {o : List It} (h : RRun l tk last o) (hf : ∀ x ∈ l, x.flow = f) : o = l := by
  induction h with
  | nil => rfl
  | cons l tk last i x o h1 h2 h3 h4 ih =>
    have hi : i = 0 := by
      rcases Nat.eq_zero_or_pos i with e | e
      · exact e
      · obtain ⟨z, hz⟩ : ∃ z, l[0]? = some z := by
          cases l with
          | nil => simp at h2
          | cons z l => exact ⟨z, rfl⟩
        exact absurd (by rw [hf z (List.mem_of_getElem? hz), hf x (List.mem_of_getElem? h2)]) (h3 0 z e hz)
    subst hi
    cases l with
    | nil => simp at h2
    | cons z l =>
      simp at h2
      subst h2
      rw [ih (fun y hy => hf y (by simp at hy; simp [hy]))]
      simp
set_option maxRecDepth 100000 in
set_option maxHeartbeats 4000000 in
theorem old_walk (m0 n0 : Int) (w : World) (hm1 : -9223372036854775808 ≤ m0) (hm2 : m0 ≤ 9223372036854775807) (hn1 : -9223372036854775808 ≤ n0) (hn2 : n0 ≤ 9223372036854775807) :
    Calls Try.prog 6 #[.int .i64 m0, .int .i64 n0] w (TruePost w) := by
  have a0 := around_nonneg m0 11 (by omega)
  have a1 := around_lt m0 11 (by omega)
  have b0 := around_nonneg n0 10 (by omega)
  have b1 := around_lt n0 10 (by omega)
  have CA := Lib.hid (fun w => around_any m0 11 w hm1 hm2 (by omega))
  have CB := Lib.hid (fun w => around_any n0 10 w hn1 hn2 (by omega))
  obtain ⟨k, hk⟩ : ∃ k : Nat, around m0 11 = (k : Int) := ⟨(around m0 11).toNat, by omega⟩
  obtain ⟨n, hn⟩ : ∃ k : Nat, around n0 10 = (k : Int) := ⟨(around n0 10).toNat, by omega⟩
  rw [hk] at a0 a1 CA
  rw [hn] at b0 b1 CB
  have CN := Lib.hid (fun (w' : World) (h : w.heap.size ≤ w'.heap.size) => newQ_qs (k : Int) w.heap.size [] w' h (by simp))
  clear hk hn hm1 hm2 hn1 hn2
  go_enter Try.func6, Try.ntmps6
  go_wp2_with fail
  refine (CA.out _).mono ?_
  rintro e w' ⟨rfl, rfl⟩
  go_wp2_with fail
  refine (CB.out _).mono ?_
  rintro e w' ⟨rfl, rfl⟩
  go_wp2_with fail
  refine (CN.out _ (Nat.le_refl _)).mono ?_
  rintro e w1 ⟨rfl, hq, hst⟩
  rw [oneRow_nil 3] at hq
  obtain ⟨b, hbe⟩ : ∃ b, w.heap.size = b := ⟨_, rfl⟩
  have HQ1 : Hid (QS w.heap.size w1 b k 0 (oneRow 3 (oldL 0) false 0) [] ∧ QStep w.heap.size [] w w1) := Lib.hid ⟨by rw [← hbe]; exact hq, hst⟩
  rw [hbe]
  clear hq hst hbe CN CA CB
  go_wp2_with fail
  go_loopw [8] (fun i wr => ∃ (j c : Nat), i = .int .i64 j ∧ j ≤ k + (1 + n) ∧ (j ≤ k → c = j) ∧ (k ≤ j → c = k) ∧ Hid (QS w.heap.size wr b k c (oneRow 3 (oldL c) false 0) [] ∧ QStep w.heap.size [] w wr)) (fun i _ => k + (1 + n) - (intOf i).toNat)
  case atStart => exact ⟨0, 0, rfl, by omega, by omega, by omega, HQ1⟩
  case round =>
    obtain ⟨j, c, rfl, hj, hc1, hc2, HQ⟩ := hrel
    clear HQ1
    by_cases hlt : j < k + (1 + n)
    · have hlt' : (j : Int) < (k : Int) + (1 + (n : Int)) := by omega
      have CP := Lib.hid (put_qs w.heap.size b k c (oneRow 3 (oldL c) false 0) [] 3 (⟨j, 3, 7⟩ : It) wr HQ.out.1 (by omega) rfl (by omega) (by omega) (fun q _ => by have := oneRow_len (P := 3) (q := q) (tk := false) (last := 0) (Nat.le_of_eq (oldL_length c)); omega) (by omega) (by omega))
      unfold It.val at CP
      dsimp only at CP
      have HJ := Lib.hid (And.intro hc1 hc2)
      clear hc1 hc2 hlt
      go_wp2_with fail
      refine CP.out.mono ?_
      rintro e w2 ⟨r', n', y, is, hp, rfl, hq2, hst2⟩
      cases hp with
      | room hr =>
        have hcj : c = j := by have := HJ.out; omega
        have hjk : j + 1 ≤ k := by omega
        subst hcj
        rw [addIt_one, ← oldL_succ] at hq2
        have HQ2 : Hid (QS w.heap.size (w2.alloc (.cells #[.int .i64 0, .int .i64 0, .int .i64 0] 27)) b k ((c + 1 : Nat) : Int) (oneRow 3 (oldL (c + 1)) false 0) [] ∧ QStep w.heap.size [] w (w2.alloc (.cells #[.int .i64 0, .int .i64 0, .int .i64 0] 27))) :=
          Lib.hid ⟨hq2.next (Upd.alloc _ _ _), (HQ.out.2.trans hst2).trans (QStep.upd (Upd.alloc [] _ _) hq2.base_le (by simp) (by simp))⟩
        unfold It.val zeroIt
        dsimp only
        have d1 : ((false : Bool) != decide ((c : Int) ≥ k)) = false := by simp; omega
        have d2 : decide ((k : Int) ≤ c) = false := by simp; omega
        clear hq2 hst2 CP hr
        go_wp2_with fail
        go_roundw
        case rel => exact ⟨c + 1, c + 1, by go_num, by omega, by omega, by omega, HQ2⟩
        case measure => simp [intOf] <;> omega
      | over r' y ho hs =>
        have hck : c = k := by have := HJ.out; omega
        have hjk : k ≤ j := by have := HJ.out; omega
        subst hck
        rw [addIt_one] at hs
        obtain ⟨rfl, rfl⟩ := old_shed rfl hs
        have HQ2 : Hid (QS w.heap.size (w2.alloc (.cells #[.int .i64 j, .int .i64 3, .int .i64 7] 27)) b c c (oneRow 3 (oldL c) false 0) [] ∧ QStep w.heap.size [] w (w2.alloc (.cells #[.int .i64 j, .int .i64 3, .int .i64 7] 27))) :=
          Lib.hid ⟨hq2.next (Upd.alloc _ _ _), (HQ.out.2.trans hst2).trans (QStep.upd (Upd.alloc [] _ _) hq2.base_le (by simp) (by simp))⟩
        unfold It.val
        dsimp only
        have d2 : decide ((c : Int) ≤ j) = true := by simp; omega
        clear hq2 hst2 CP hs
        go_wp2_with fail
        go_roundw
        case rel => exact ⟨j + 1, c, by go_num, by omega, by omega, by omega, HQ2⟩
        case measure => simp [intOf] <;> omega
    · have hck : c = k := by have := hc2; omega
      subst hck
      have hjl : ¬ (j : Int) < (c : Int) + (1 + (n : Int)) := by omega
      have CAll := Lib.hid (all_qs w.heap.size b c c (oneRow 3 (oldL c) false 0) [] wr HQ.out.1 (fun q _ => by have := oneRow_len (P := 3) (q := q) (tk := false) (last := 0) (Nat.le_of_eq (oldL_length c)); omega))
      clear hc1 hc2 hlt
      go_wp2_with fail
      refine CAll.out.mono ?_
      rintro e w2 ⟨o, ov, hall, rfl, hp⟩
      obtain rfl := run_same (hall.one (by omega)) (fun x hx => oldL_flow hx)
      obtain ⟨ao, cap, rfl, hrow⟩ := rowRead hp.own
      have HR := Lib.hid hrow
      have HB := Lib.hid (HQ.out.2.below.trans hp.st.below)
      rw [oldL_length]
      clear hall hp hrow CAll HQ
      go_wp2_with fail
      go_loop [12] (fun i => ∃ q : Nat, q ≤ c ∧ i = .int .i64 q) (fun i => c - (intOf i).toNat)
      case atStart => exact ⟨0, by omega, rfl⟩
      case round =>
        obtain ⟨q, hq, rfl⟩ := hrel
        by_cases hqc : q < c
        · obtain ⟨g, rfl, hin, hle, hcm, -, -⟩ : ∃ g, ao = some ⟨g, 0, none⟩ ∧ ItemsIn w2 g (oldL c) ∧ (oldL c).length ≤ cap ∧ cap ≤ maxLen ∧ wr.heap.size ≤ g ∧ g < w2.heap.size := by
            rcases HR.out with h | h
            · have := oldL_length c; rw [h] at this; simp at this; omega
            · exact h
          obtain ⟨c0, -, -⟩ := hin q _ (oldL_get hqc)
          dsimp only at c0
          have q0 : (0 : Int) ≤ q := by omega
          have q1 : (q : Int) < c := by omega
          clear hin hle hcm
          go_wp2_with fail
          go_round
          case rel => exact ⟨q + 1, by omega, by go_num⟩
          case measure => simp [intOf] <;> omega
        · obtain rfl : q = c := by omega
          clear hqc hq
          go_wp2_with fail
          refine (lives_any _).mono ?_
          rintro e w9 ⟨rfl, hb9⟩
          have HB9 := Lib.hid hb9
          clear hb9
          go_wp2_with fail
          go_ret
          exact ⟨rfl, HB.out.trans (HB9.out.mono HB.out.size)⟩
end Go.Proofs.Ytapoikegoknlcaa
