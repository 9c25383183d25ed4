/- Layer 22: the plain law of round: flows in turns by keys that rise. -/
import Derived.Test.YtapoikegoknlcaaFairM
import Derived.Test.YtapoikegoknlcaaFairPlain
namespace Go.Proofs.Ytapoikegoknlcaa
open Go.RowKit
/-- What is taken of a row, one behind the other. -/
inductive RRun : List It → Bool → Int → List It → Prop
  | nil (tk : Bool) (last : Int) : RRun [] tk last []
  | cons (l : List It) (tk : Bool) (last : Int) (i : Nat) (x : It) (o : List It) : NextOk l tk last x.flow → l[i]? = some x → (∀ (k : Nat) (y : It), k < i → l[k]? = some y → ¬ y.flow = x.flow) → RRun (l.eraseIdx i) true x.flow o → RRun l tk last (x :: o)
theorem RRun.perm {l : List It} {tk : Bool} {last : Int} {o : List It} (h : RRun l tk last o) : o.Perm l := by
  induction h with
  | nil => exact List.Perm.refl _
  | cons l tk last i x o h1 h2 h3 h4 ih =>
    obtain ⟨e1, e2⟩ := split_at h2
    rw [e2] at ih
    refine (List.Perm.cons x ih).trans ?_
    conv => rhs; rw [e1]
    exact List.perm_middle.symm
theorem NextOk.unique {l : List It} {tk : Bool} {last f g : Int} (h : NextOk l tk last f) (k : NextOk l tk last g) : f = g := by
  obtain ⟨kf, xf, hf, ef⟩ := h.is
  obtain ⟨kg, xg, hg, eg⟩ := k.is
  rcases h.above with ⟨a1, a2, a3⟩ | ⟨a1, a2⟩ <;> rcases k.above with ⟨b1, b2, b3⟩ | ⟨b1, b2⟩
  · have := a3 _ _ hg (by omega); have := b3 _ _ hf (by omega); omega
  · exact absurd ⟨a1, by omega⟩ (b1 _ _ hf)
  · exact absurd ⟨b1, by omega⟩ (a1 _ _ hg)
  · have := a2 _ _ hg; have := b2 _ _ hf; omega
theorem first_unique {l : List It} {p : It → Prop} {i j : Nat} {x y : It} (hx : l[i]? = some x) (px : p x) (fx : ∀ (k : Nat) (z : It), k < i → l[k]? = some z → ¬ p z) (hy : l[j]? = some y) (py : p y) (fy : ∀ (k : Nat) (z : It), k < j → l[k]? = some z → ¬ p z) : i = j ∧ x = y := by
  rcases Nat.lt_trichotomy i j with h | h | h
  · exact absurd px (fy i x h hx)
  · subst h; rw [hx] at hy; cases hy; exact ⟨rfl, rfl⟩
  · exact absurd py (fx j y h hy)
theorem RRun.unique {l : List It} {tk : Bool} {last : Int} {o : List It} (h : RRun l tk last o) : ∀ {o' : List It}, RRun l tk last o' → o = o' := by
  induction h with
  | nil => intro o' h'; cases h' with
    | nil => rfl
    | cons l tk last i x o h1 h2 => simp at h2
  | cons l tk last i x o h1 h2 h3 h4 ih =>
    intro o' h'
    cases h' with
    | nil => simp at h2
    | cons _ _ _ j y o2 k1 k2 k3 k4 =>
      have e := h1.unique k1
      obtain ⟨rfl, rfl⟩ := first_unique (p := fun z => z.flow = x.flow) h2 rfl h3 k2 e.symm (fun k z hk hz => by rw [e]; exact k3 k z hk hz)
      rw [ih k4]
def flowOf (L : List It) (k : Int) : List It := L.filter (fun x => decide (x.flow = k))
theorem flowOf_mem {L : List It} {k : Int} {x : It} : x ∈ flowOf L k ↔ x ∈ L ∧ x.flow = k := by simp [flowOf]
theorem flowOf_ne {L : List It} {k : Int} : flowOf L k ≠ [] ↔ ∃ x ∈ L, x.flow = k := by
  constructor
  · intro h
    obtain ⟨x, hx⟩ := List.exists_mem_of_ne_nil _ h
    exact ⟨x, flowOf_mem.1 hx⟩
  · rintro ⟨x, hx, hk⟩ h
    have := flowOf_mem.2 ⟨hx, hk⟩
    rw [h] at this; cases this
/-- The first item of a flow, and what is left. -/
theorem flowOf_first : ∀ {L : List It} {k : Int} {x : It} {rest : List It}, flowOf L k = x :: rest → ∃ i, L[i]? = some x ∧ x.flow = k ∧ (∀ (j : Nat) (y : It), j < i → L[j]? = some y → ¬ y.flow = k) ∧ flowOf (L.eraseIdx i) k = rest ∧ ∀ j, j ≠ k → flowOf (L.eraseIdx i) j = flowOf L j
  | [], k, x, rest, h => by simp [flowOf] at h
  | y :: L, k, x, rest, h => by
    by_cases hy : y.flow = k
    · have e : flowOf (y :: L) k = y :: flowOf L k := by simp [flowOf, hy]
      rw [e] at h
      obtain ⟨rfl, rfl⟩ := List.cons.inj h
      refine ⟨0, rfl, hy, fun j z hj => by omega, by simp, fun j hj => ?_⟩
      have : ¬ y.flow = j := by omega
      simp [flowOf, this]
    · have e : ∀ M, flowOf (y :: M) k = flowOf M k := fun M => by simp [flowOf, hy]
      rw [e] at h
      obtain ⟨i, h1, h2, h3, h4, h5⟩ := flowOf_first h
      refine ⟨i + 1, by simpa using h1, h2, fun j z hj hz => ?_, by rw [List.eraseIdx_cons_succ, e]; exact h4, fun j hj => ?_⟩
      · cases j with
        | zero => simp at hz; subst hz; exact hy
        | succ j => exact h3 j z (by omega) (by simpa using hz)
      · rw [List.eraseIdx_cons_succ]
        have := h5 j hj
        simp only [flowOf, List.filter_cons] at this ⊢
        rw [this]
/-- Where one stands among the keys. -/
def AtOk (K : List Int) (tk : Bool) (last a : Int) : Prop :=
  ((a < 0 ∨ (K.length : Int) ≤ a ∨ a = 0) ∧ ∀ k ∈ K, ¬ (tk = true ∧ last < k)) ∨
  (tk = true ∧ ∃ i : Nat, a = (i : Int) ∧ (∃ f, K[i]? = some f ∧ last < f) ∧ ∀ (j : Nat) (y : Int), j < i → K[j]? = some y → y ≤ last)
structure RI (l0 : List It) (tk0 : Bool) (last0 : Int) (K : List Int) (c : Int → List It) (a : Int) (acc : List It) : Prop where
  rise : K.Pairwise (· < ·)
  ne : ∀ k, k ∈ K ↔ c k ≠ []
  is : ∃ L tk last, (∀ k, flowOf L k = c k) ∧ AtOk K tk last a ∧ acc.length + L.length = l0.length ∧ ∀ o, RRun L tk last o → RRun l0 tk0 last0 (acc ++ o)
theorem RI.flow {l0 : List It} {tk0 : Bool} {last0 : Int} {K : List Int} {c : Int → List It} {a : Int} {acc : List It} (h : RI l0 tk0 last0 K c a acc) {i : Nat} {f : Int} (hf : K[i]? = some f) : ∃ x rest, c f = x :: rest ∧ x.flow = f := by
  have hm := List.mem_of_getElem? hf
  obtain ⟨L, tk, last, hL, -⟩ := h.is
  cases hc : c f with
  | nil => exact absurd hc ((h.ne f).1 hm)
  | cons x rest =>
    refine ⟨x, rest, rfl, ?_⟩
    have : x ∈ flowOf L f := by rw [hL, hc]; simp
    exact (flowOf_mem.1 this).2
theorem RI.done {l0 : List It} {tk0 : Bool} {last0 : Int} {c : Int → List It} {a : Int} {acc : List It} (h : RI l0 tk0 last0 [] c a acc) : RRun l0 tk0 last0 acc := by
  obtain ⟨L, tk, last, hL, -, -, hgo⟩ := h.is
  have hnil : L = [] := by
    cases L with
    | nil => rfl
    | cons x L =>
      exfalso
      have : c x.flow ≠ [] := by rw [← hL]; exact flowOf_ne.2 ⟨x, by simp, rfl⟩
      exact absurd ((h.ne _).2 this) (by simp)
  subst hnil
  have := hgo [] (RRun.nil _ _)
  simpa using this
theorem RI.len {l0 : List It} {tk0 : Bool} {last0 : Int} {K : List Int} {c : Int → List It} {a : Int} {acc : List It} (h : RI l0 tk0 last0 K c a acc) (hK : K ≠ []) : acc.length + 1 ≤ l0.length := by
  obtain ⟨L, tk, last, hL, -, hlen, -⟩ := h.is
  cases L with
  | nil =>
    exfalso
    obtain ⟨k, hk⟩ := List.exists_mem_of_ne_nil _ hK
    exact (h.ne k).1 hk (by rw [← hL]; rfl)
  | cons x L => simp at hlen; omega
/-- Which place is taken. -/
def norm (K : List Int) (a : Int) : Nat := if a < 0 ∨ (K.length : Int) ≤ a then 0 else a.toNat
theorem AtOk.next {K : List Int} {tk : Bool} {last a : Int} (h : AtOk K tk last a) (hr : K.Pairwise (· < ·)) {f : Int} (hf : K[norm K a]? = some f) :
    (tk = true ∧ last < f ∧ ∀ k ∈ K, last < k → f ≤ k) ∨ ((∀ k ∈ K, ¬ (tk = true ∧ last < k)) ∧ ∀ k ∈ K, f ≤ k) := by
  rcases h with ⟨h1, h2⟩ | ⟨h1, i, rfl, ⟨g, hg, hlt⟩, h3⟩
  · have h0 : norm K a = 0 := by
      unfold norm
      rcases h1 with h | h | h
      · rw [if_pos (.inl h)]
      · rw [if_pos (.inr h)]
      · subst h; split <;> rfl
    rw [h0] at hf
    refine .inr ⟨h2, fun k hk => ?_⟩
    obtain ⟨j, hj⟩ := List.getElem?_of_mem hk
    obtain ⟨hj1, hj2⟩ := List.getElem?_eq_some_iff.1 hj
    obtain ⟨hf1, hf2⟩ := List.getElem?_eq_some_iff.1 hf
    by_cases e : j = 0
    · subst e; omega
    · have := List.pairwise_iff_getElem.1 hr 0 j hf1 hj1 (by omega)
      omega
  · obtain ⟨hg1, hg2⟩ := List.getElem?_eq_some_iff.1 hg
    have h0 : norm K (i : Int) = i := by
      unfold norm
      rw [if_neg (by omega)]; simp
    rw [h0, hg] at hf
    cases hf
    refine .inl ⟨h1, hlt, fun k hk hl => ?_⟩
    obtain ⟨j, hj⟩ := List.getElem?_of_mem hk
    obtain ⟨hj1, hj2⟩ := List.getElem?_eq_some_iff.1 hj
    rcases Nat.lt_trichotomy j i with e | e | e
    · have := h3 j k e hj; omega
    · subst e; omega
    · have := List.pairwise_iff_getElem.1 hr i j hg1 hj1 e
      omega
theorem key_lt {K : List Int} (hr : K.Pairwise (· < ·)) {i j : Nat} {f k : Int} (hf : K[i]? = some f) (hk : K[j]? = some k) (h : i < j) : f < k := by
  obtain ⟨hi1, rfl⟩ := List.getElem?_eq_some_iff.1 hf
  obtain ⟨hj1, rfl⟩ := List.getElem?_eq_some_iff.1 hk
  exact List.pairwise_iff_getElem.1 hr i j hi1 hj1 h
theorem erase_get {K : List Int} (i j : Nat) : (K.eraseIdx i)[j]? = if j < i then K[j]? else K[j + 1]? := List.getElem?_eraseIdx ..
theorem RI.step {l0 : List It} {tk0 : Bool} {last0 : Int} {K : List Int} {c : Int → List It} {a : Int} {acc : List It} (h : RI l0 tk0 last0 K c a acc) {i : Nat} {f : Int} {x : It} {rest : List It} (hi : norm K a = i) (hf : K[i]? = some f) (hc : c f = x :: rest) :
    (rest = [] → RI l0 tk0 last0 (K.eraseIdx i) (fun k => if k = f then rest else c k) (i : Int) (acc ++ [x])) ∧
    (rest ≠ [] → RI l0 tk0 last0 K (fun k => if k = f then rest else c k) ((i : Int) + 1) (acc ++ [x])) := by
  obtain ⟨L, tk, last, hL, hat, hlen, hgo⟩ := h.is
  obtain ⟨p, hp1, hp2, hp3, hp4, hp5⟩ := flowOf_first (by rw [hL]; exact hc)
  subst hi
  have hnx := hat.next h.rise hf
  have hKL : ∀ y ∈ L, y.flow ∈ K := fun y hy => (h.ne _).2 (by rw [← hL]; exact flowOf_ne.2 ⟨y, hy, rfl⟩)
  have hno : NextOk L tk last x.flow := by
    rw [hp2]
    refine ⟨⟨p, x, hp1, hp2⟩, ?_⟩
    rcases hnx with ⟨a1, a2, a3⟩ | ⟨a1, a2⟩
    · exact .inl ⟨a1, a2, fun j y hy hl => a3 _ (hKL y (List.mem_of_getElem? hy)) hl⟩
    · exact .inr ⟨fun j y hy => a1 _ (hKL y (List.mem_of_getElem? hy)), fun j y hy => a2 _ (hKL y (List.mem_of_getElem? hy))⟩
  have hgo2 : ∀ o, RRun (L.eraseIdx p) true f o → RRun l0 tk0 last0 ((acc ++ [x]) ++ o) := fun o ho => by
    have := hgo (x :: o) (RRun.cons L tk last p x o hno hp1 (by rw [hp2]; exact hp3) (by rw [hp2]; exact ho))
    simpa using this
  have hfil : ∀ k, flowOf (L.eraseIdx p) k = if k = f then rest else c k := fun k => by
    by_cases e : k = f
    · subst e; rw [if_pos rfl]; exact hp4
    · rw [if_neg e, hp5 k e, hL]
  have hpl := (List.getElem?_eq_some_iff.1 hp1).1
  have hlen2 : (acc ++ [x]).length + (L.eraseIdx p).length = l0.length := by
    rw [List.length_append, List.length_eraseIdx, if_pos hpl]
    simp; omega
  have hil := (List.getElem?_eq_some_iff.1 hf).1
  have hge : ∀ (j : Nat) (y : Int), j ≤ norm K a → K[j]? = some y → y ≤ f := fun j y hj hy => by
    rcases (show j = norm K a ∨ j < norm K a by omega) with rfl | hj
    · rw [hf] at hy; cases hy; omega
    · have := key_lt h.rise hy hf hj; omega
  constructor
  · intro hr
    refine ⟨h.rise.sublist (List.eraseIdx_sublist _ _), fun k => ?_, L.eraseIdx p, true, f, hfil, ?_, hlen2, hgo2⟩
    · have hnd : ∀ j, (K.eraseIdx (norm K a))[j]? = some f → False := fun j hj => by
        rw [erase_get] at hj
        split at hj
        · rename_i hh; have := key_lt h.rise hj hf hh; omega
        · rename_i hh; have := key_lt h.rise hf hj (by omega); omega
      constructor
      · intro hk
        obtain ⟨j, hj⟩ := List.getElem?_of_mem hk
        by_cases e : k = f
        · subst e; exact absurd hj (fun hh => hnd j hh)
        · rw [if_neg e]; exact (h.ne k).1 (List.mem_of_mem_eraseIdx hk)
      · intro hk
        by_cases e : k = f
        · rw [if_pos e] at hk; exact absurd hr hk
        · rw [if_neg e] at hk
          obtain ⟨j, hj⟩ := List.getElem?_of_mem ((h.ne k).2 hk)
          rcases Nat.lt_trichotomy j (norm K a) with hh | hh | hh
          · exact List.mem_of_getElem? (i := j) (by rw [erase_get, if_pos hh]; exact hj)
          · subst hh; rw [hf] at hj; cases hj; exact absurd rfl e
          · exact List.mem_of_getElem? (i := j - 1) (by rw [erase_get, if_neg (by omega), show j - 1 + 1 = j by omega]; exact hj)
    · cases hg : K[norm K a + 1]? with
      | none =>
        have hl : K.length ≤ norm K a + 1 := by
          rcases Nat.lt_or_ge (norm K a + 1) K.length with hh | hh
          · rw [List.getElem?_eq_getElem hh] at hg; cases hg
          · exact hh
        refine .inl ⟨.inr (.inl ?_), fun k hk => ?_⟩
        · rw [List.length_eraseIdx, if_pos hil]; omega
        · rintro ⟨-, hl2⟩
          obtain ⟨j, hj⟩ := List.getElem?_of_mem (List.mem_of_mem_eraseIdx hk)
          have hj1 := (List.getElem?_eq_some_iff.1 hj).1
          have := hge j k (by omega) hj
          omega
      | some g =>
        refine .inr ⟨rfl, norm K a, rfl, ⟨g, ?_, key_lt h.rise hf hg (by omega)⟩, fun j y hj hy => ?_⟩
        · rw [erase_get, if_neg (by omega)]; exact hg
        · rw [erase_get, if_pos hj] at hy
          exact hge j y (by omega) hy
  · intro hr
    refine ⟨h.rise, fun k => ?_, L.eraseIdx p, true, f, hfil, ?_, hlen2, hgo2⟩
    · by_cases e : k = f
      · subst e
        rw [if_pos rfl]
        exact ⟨fun _ => hr, fun _ => List.mem_of_getElem? hf⟩
      · rw [if_neg e]; exact h.ne k
    · cases hg : K[norm K a + 1]? with
      | none =>
        have hl : K.length ≤ norm K a + 1 := by
          rcases Nat.lt_or_ge (norm K a + 1) K.length with hh | hh
          · rw [List.getElem?_eq_getElem hh] at hg; cases hg
          · exact hh
        refine .inl ⟨.inr (.inl (by omega)), fun k hk => ?_⟩
        rintro ⟨-, hl2⟩
        obtain ⟨j, hj⟩ := List.getElem?_of_mem hk
        have hj1 := (List.getElem?_eq_some_iff.1 hj).1
        have := hge j k (by omega) hj
        omega
      | some g =>
        refine .inr ⟨rfl, norm K a + 1, by omega, ⟨g, hg, key_lt h.rise hf hg (by omega)⟩, fun j y hj hy => hge j y (by omega) hy⟩
/-- At first. -/
theorem RI.start {l : List It} {tk : Bool} {last : Int} {K : List Int} {a : Int} (hr : K.Pairwise (· < ·)) (hK : ∀ k, k ∈ K ↔ flowOf l k ≠ []) (hat : AtOk K tk last a) : RI l tk last K (flowOf l) a [] :=
  ⟨hr, hK, l, tk, last, fun _ => rfl, hat, by simp, fun o ho => by simpa using ho⟩
end Go.Proofs.Ytapoikegoknlcaa
