/- Layer 22: what the laws share. -/
import Derived.Test.YtapoikegoknlcaaFairS
import Derived.Test.YtapoikegoknlcaaFairH
namespace Go.Proofs.Ytapoikegoknlcaa
open Go.RowKit
theorem rowRead {W : World} {base : Nat} {v : Value} {l : List It} (h : W.ownsRow base 27 3 v l.length (cellsI l)) :
    ∃ ao cap, v = .slice ao l.length cap ∧ (l = [] ∨ ∃ g, ao = some ⟨g, 0, none⟩ ∧ ItemsIn W g l ∧ l.length ≤ cap ∧ cap ≤ maxLen ∧ base ≤ g ∧ g < W.heap.size) := by
  have hlt := h.lt
  rcases h.2 with ⟨rfl, h0⟩ | ⟨g, cap, cur, hv, hb, hg, hn, hm, hs, ht⟩
  · exact ⟨none, 0, by rw [h0], .inl (List.eq_nil_of_length_eq_zero h0)⟩
  · refine ⟨_, cap, hv, .inr ⟨g, rfl, fun k x hx => ?_, hn, hm, hb, (hlt g (by rw [hv]; rfl)).2⟩⟩
    obtain ⟨e1, e2, e3⟩ := cellsI_get l k x hx
    have hc := h.cells (g := g) (by rw [hv]; rfl)
    have c1 := hc _ _ e1
    have c2 := hc _ _ e2
    have c3 := hc _ _ e3
    rw [Addr.add_lit, Nat.zero_add] at c1 c2 c3
    exact ⟨c1, c2, c3⟩
theorem RRun.nil_inv {tk : Bool} {last : Int} {o : List It} (h : RRun [] tk last o) : o = [] := by
  cases h with
  | nil => rfl
  | cons _ _ _ i x o h1 h2 => simp at h2
theorem AllR.parts {r : Nat → Row} {o : List It} (h : AllR r 0 o) : ∃ o3 o2 o1 o0, RRun (r 3).items (r 3).taken (r 3).last o3 ∧ RRun (r 2).items (r 2).taken (r 2).last o2 ∧ RRun (r 1).items (r 1).taken (r 1).last o1 ∧ RRun (r 0).items (r 0).taken (r 0).last o0 ∧ o = o3 ++ o2 ++ o1 ++ o0 := by
  have bad : ∀ {p : Nat} {o : List It}, AllR r p o → p ≤ 4 := fun h => by
    induction h with
    | nil => exact Nat.le_refl _
    | cons p o o' _ _ ih => omega
  cases h with
  | cons _ a o0 h r0 =>
    cases h with
    | cons _ a o1 h r1 =>
      cases h with
      | cons _ a o2 h r2 =>
        cases h with
        | cons _ a o3 h r3 =>
          cases h with
          | nil => exact ⟨o3, o2, o1, o0, r3, r2, r1, r0, by simp⟩
          | cons _ a o4 h r4 => have := bad h; omega
theorem AllR.one {P : Nat} {L : List It} {tk : Bool} {last : Int} {o : List It} (hP : P < 4) (h : AllR (oneRow P L tk last) 0 o) : RRun L tk last o := by
  obtain ⟨o3, o2, o1, o0, r3, r2, r1, r0, rfl⟩ := h.parts
  have hn : ∀ (q : Nat) (o : List It), q ≠ P → RRun (oneRow P L tk last q).items (oneRow P L tk last q).taken (oneRow P L tk last q).last o → o = [] := fun q o hq hr => by
    rw [oneRow_other _ _ _ hq] at hr; exact hr.nil_inv
  rcases (show P = 0 ∨ P = 1 ∨ P = 2 ∨ P = 3 by omega) with rfl | rfl | rfl | rfl
  · rw [hn 3 o3 (by omega) r3, hn 2 o2 (by omega) r2, hn 1 o1 (by omega) r1]; rw [oneRow_same] at r0; simpa using r0
  · rw [hn 3 o3 (by omega) r3, hn 2 o2 (by omega) r2, hn 0 o0 (by omega) r0]; rw [oneRow_same] at r1; simpa using r1
  · rw [hn 3 o3 (by omega) r3, hn 1 o1 (by omega) r1, hn 0 o0 (by omega) r0]; rw [oneRow_same] at r2; simpa using r2
  · rw [hn 2 o2 (by omega) r2, hn 1 o1 (by omega) r1, hn 0 o0 (by omega) r0]; rw [oneRow_same] at r3; simpa using r3
theorem addIt_one (P : Nat) (l : List It) (tk : Bool) (last : Int) (x : It) : addIt (oneRow P l tk last) P x = oneRow P (l ++ [x]) tk last := by
  unfold addIt
  rw [oneRow_same, oneRow_upd]
theorem shed_one {P : Nat} {l : List It} {tk : Bool} {last : Int} {r' : Nat → Row} {y : It} (h : ShedIs (oneRow P l tk last) r' y) : ∃ (i : Nat) (f : Int), FullOk l f ∧ l[i]? = some y ∧ y.flow = f ∧ (∀ (k : Nat) (z : It), i < k → l[k]? = some z → ¬ z.flow = f) ∧ r' = oneRow P (l.eraseIdx i) tk last := by
  cases h with
  | some p i f x h1 h2 h3 h4 h5 h6 =>
    by_cases e : p = P
    · subst e
      rw [oneRow_same] at h3 h4 h6
      exact ⟨i, f, h3, h4, h5, h6, by rw [oneRow_same, oneRow_upd]⟩
    · rw [oneRow_other _ _ _ e] at h4; simp at h4
theorem oneRow_len {P q n : Nat} {l : List It} {tk : Bool} {last : Int} (h : l.length ≤ n) : (oneRow P l tk last q).items.length ≤ n := by
  by_cases e : q = P
  · subst e; rw [oneRow_same]; exact h
  · rw [oneRow_other _ _ _ e]; simp
end Go.Proofs.Ytapoikegoknlcaa
