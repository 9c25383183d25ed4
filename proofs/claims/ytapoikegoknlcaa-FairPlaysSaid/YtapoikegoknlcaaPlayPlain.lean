/- Layer 22: the plain law of FairPlays: the list as it came, and the rows. -/
import Derived.Test.YtapoikegoknlcaaFairV
namespace Go.Proofs.Ytapoikegoknlcaa
open Go.RowKit
theorem nextOk_unique {l : List It} {tk : Bool} {last f g : Int} (h : NextOk l tk last f) (k : NextOk l tk last g) : f = g := by
  obtain ⟨kf, xf, hf, ef⟩ := h.is
  obtain ⟨kg, xg, hg, eg⟩ := k.is
  rcases h.above with ⟨a1, a2, a3⟩ | ⟨a1, a2⟩ <;> rcases k.above with ⟨b1, b2, b3⟩ | ⟨b1, b2⟩
  · have := a3 _ _ hg (by omega); have := b3 _ _ hf (by omega); omega
  · exact absurd ⟨a1, by omega⟩ (b1 _ _ hf)
  · exact absurd ⟨b1, by omega⟩ (a1 _ _ hg)
  · have := a2 _ _ hg; have := b2 _ _ hf; omega
theorem fullOk_unique {l : List It} {f g : Int} (h : FullOk l f) (k : FullOk l g) : f = g := by
  obtain ⟨a, x, hx, ex⟩ := h.is
  obtain ⟨c, y, hy, ey⟩ := k.is
  have h1 := h.most c y hy
  have h2 := k.most a x hx
  rw [ey] at h1
  rw [ex] at h2
  omega
theorem ShedIs.unique {r r1 r2 : Nat → Row} {x y : It} (h : ShedIs r r1 x) (k : ShedIs r r2 y) : r1 = r2 ∧ x = y := by
  cases h with
  | some p i f x h1 h2 h3 h4 h5 h6 =>
    cases k with
    | some q j g y k1 k2 k3 k4 k5 k6 =>
      have e : p = q := by
        rcases Nat.lt_trichotomy p q with h | h | h
        · rw [k2 p h] at h4; simp at h4
        · exact h
        · rw [h2 q h] at k4; simp at k4
      subst e
      have e : f = g := fullOk_unique h3 k3
      subst e
      have e : i = j := by
        rcases Nat.lt_trichotomy i j with h | h | h
        · exact absurd k5 (h6 j y h k4)
        · exact h
        · exact absurd h5 (k6 i x h h4)
      subst e
      rw [h4] at k4
      cases k4
      exact ⟨rfl, rfl⟩
theorem TakeIs.unique {r r1 r2 : Nat → Row} {x y : It} {a c : Bool} (h : TakeIs r r1 x a) (k : TakeIs r r2 y c) : r1 = r2 ∧ x = y ∧ a = c := by
  cases h with
  | none h0 =>
    cases k with
    | none k0 => exact ⟨rfl, rfl, rfl⟩
    | some q j g y k1 k2 k3 k4 k5 k6 => rw [h0 q k1] at k4; simp at k4
  | some p i f x h1 h2 h3 h4 h5 h6 =>
    cases k with
    | none k0 => rw [k0 p h1] at h4; simp at h4
    | some q j g y k1 k2 k3 k4 k5 k6 =>
      have e : p = q := by
        rcases Nat.lt_trichotomy p q with h | h | h
        · rw [h2 q h k1] at k4; simp at k4
        · exact h
        · rw [k2 p h h1] at h4; simp at h4
      subst e
      have e : f = g := nextOk_unique h3 k3
      subst e
      have e : i = j := by
        rcases Nat.lt_trichotomy i j with h | h | h
        · exact absurd h5 (k6 i x h h4)
        · exact h
        · exact absurd k5 (h6 j y h k4)
      subst e
      rw [h4] at k4
      cases k4
      exact ⟨rfl, rfl, rfl⟩
theorem DropIs.unique {r r1 r2 : Nat → Row} {id : Int} {a c : Bool} (h : DropIs r id r1 a) (k : DropIs r id r2 c) : r1 = r2 ∧ a = c := by
  cases h with
  | none h0 =>
    cases k with
    | none k0 => exact ⟨rfl, rfl⟩
    | some q j k1 k2 k3 => obtain ⟨y, hy, hyi⟩ := k3.1; exact absurd hyi (h0 q k1 j y hy)
  | some p i h1 h2 h3 =>
    obtain ⟨x, hx, hxi⟩ := h3.1
    cases k with
    | none k0 => exact absurd hxi (k0 p h1 i x hx)
    | some q j k1 k2 k3 =>
      obtain ⟨y, hy, hyi⟩ := k3.1
      have e : p = q := by
        rcases Nat.lt_trichotomy p q with h | h | h
        · exact absurd hxi (k2 p h i x hx)
        · exact h
        · exact absurd hyi (h2 q h j y hy)
      subst e
      have e : i = j := by
        rcases Nat.lt_trichotomy i j with h | h | h
        · exact absurd hxi (k3.2 i x h hx)
        · exact h
        · exact absurd hyi (h3.2 j y h hy)
      subst e
      exact ⟨rfl, rfl⟩
theorem PutIs.unique {most n n1 n2 : Int} {r r1 r2 : Nat → Row} {p : Nat} {x y1 y2 : It} {a c : Bool} (h : PutIs most n r p x r1 n1 y1 a) (k : PutIs most n r p x r2 n2 y2 c) : r1 = r2 ∧ n1 = n2 ∧ y1 = y2 ∧ a = c := by
  cases h with
  | room hr =>
    cases k with
    | room _ => exact ⟨rfl, rfl, rfl, rfl⟩
    | over r' y ho hs => omega
  | over r' y ho hs =>
    cases k with
    | room _ => omega
    | over r'' y' ho' hs' => obtain ⟨rfl, rfl⟩ := hs.unique hs'; exact ⟨rfl, rfl, rfl, rfl⟩
/-- One of a list that is kept: where it stands in the list of those that are kept. -/
theorem filter_at (P : It → Bool) : ∀ (L : List It) (b : Nat) (x : It), L[b]? = some x → P x = true →
    ∃ i, (L.filter P)[i]? = some x ∧ (L.filter P).eraseIdx i = (L.eraseIdx b).filter P ∧ (∀ (k : Nat) (y : It), k < i → (L.filter P)[k]? = some y → ∃ m, m < b ∧ L[m]? = some y) ∧ (∀ (k : Nat) (y : It), i < k → (L.filter P)[k]? = some y → ∃ m, b < m ∧ L[m]? = some y)
  | [], b, x, h, _ => by simp at h
  | a :: L, 0, x, h, hp => by
    simp at h; subst h
    refine ⟨0, by simp [hp], by simp [hp], fun k y hk => by omega, fun k y hk hy => ?_⟩
    cases k with
    | zero => omega
    | succ k =>
      rw [List.filter_cons, if_pos hp] at hy
      simp at hy
      obtain ⟨m, hm⟩ := List.getElem?_of_mem (List.mem_filter.1 (List.mem_of_getElem? hy)).1
      exact ⟨m + 1, by omega, by simpa using hm⟩
  | a :: L, b + 1, x, h, hp => by
    obtain ⟨i, h1, h2, h3, h4⟩ := filter_at P L b x (by simpa using h) hp
    by_cases ha : P a = true
    · refine ⟨i + 1, ?_, ?_, fun k y hk hy => ?_, fun k y hk hy => ?_⟩
      · rw [List.filter_cons, if_pos ha]; simpa using h1
      · rw [List.filter_cons, if_pos ha, List.eraseIdx_cons_succ, List.eraseIdx_cons_succ, List.filter_cons, if_pos ha, h2]
      · rw [List.filter_cons, if_pos ha] at hy
        cases k with
        | zero => exact ⟨0, by omega, by simpa using hy⟩
        | succ k =>
          obtain ⟨m, hm1, hm2⟩ := h3 k y (by omega) (by simpa using hy)
          exact ⟨m + 1, by omega, by simpa using hm2⟩
      · rw [List.filter_cons, if_pos ha] at hy
        cases k with
        | zero => omega
        | succ k =>
          obtain ⟨m, hm1, hm2⟩ := h4 k y (by omega) (by simpa using hy)
          exact ⟨m + 1, by omega, by simpa using hm2⟩
    · refine ⟨i, ?_, ?_, fun k y hk hy => ?_, fun k y hk hy => ?_⟩
      · rw [List.filter_cons, if_neg ha]; exact h1
      · rw [List.filter_cons, if_neg ha, List.eraseIdx_cons_succ, List.filter_cons, if_neg ha, h2]
      · rw [List.filter_cons, if_neg ha] at hy
        obtain ⟨m, hm1, hm2⟩ := h3 k y hk hy
        exact ⟨m + 1, by omega, by simpa using hm2⟩
      · rw [List.filter_cons, if_neg ha] at hy
        obtain ⟨m, hm1, hm2⟩ := h4 k y hk hy
        exact ⟨m + 1, by omega, by simpa using hm2⟩
theorem filter_not (P : It → Bool) : ∀ (L : List It) (b : Nat) (x : It), L[b]? = some x → P x = false → (L.eraseIdx b).filter P = L.filter P
  | [], b, x, h, _ => by simp at h
  | a :: L, 0, x, h, hp => by simp at h; subst h; simp [hp]
  | a :: L, b + 1, x, h, hp => by
    rw [List.eraseIdx_cons_succ, List.filter_cons, List.filter_cons, filter_not P L b x (by simpa using h) hp]
def ofP (L : List It) (p : Nat) : List It := L.filter (fun x => decide (x.prio = (p : Int)))
theorem ofP_mem {L : List It} {p : Nat} {x : It} : x ∈ ofP L p ↔ x ∈ L ∧ x.prio = (p : Int) := by simp [ofP]
theorem ofP_len (L : List It) (p : Nat) : (ofP L p).length ≤ L.length := List.length_filter_le _ _
/-- The list as it came, with each priority's last flow and one more, and the rows. -/
structure Rel (L : List It) (T : Nat → Int) (r : Nat → Row) : Prop where
  row : ∀ p, p < 4 → (r p).items = ofP L p
  last : ∀ p, p < 4 → ((r p).taken = true ∧ T p = (r p).last + 1 ∧ 0 ≤ (r p).last ∧ (r p).last < 5) ∨ ((r p).taken = false ∧ T p = 0)
  ok : ∀ x ∈ L, (∃ p : Nat, p < 4 ∧ x.prio = (p : Int)) ∧ 0 ≤ x.flow ∧ x.flow < 5
theorem Rel.nil : Rel [] (fun _ => 0) (fun _ => ⟨[], false, 0⟩) := ⟨fun _ _ => rfl, fun _ _ => .inr ⟨rfl, rfl⟩, fun x hx => by cases hx⟩
theorem Rel.T0 {L : List It} {T : Nat → Int} {r : Nat → Row} (h : Rel L T r) {p : Nat} (hp : p < 4) : 0 ≤ T p ∧ T p ≤ 5 := by
  rcases h.last p hp with ⟨-, h1, h2⟩ | ⟨-, h1⟩ <;> omega
theorem Rel.ne {L : List It} {T : Nat → Int} {r : Nat → Row} (h : Rel L T r) {p : Nat} (hp : p < 4) : (r p).items ≠ [] → 1 ≤ L.length := by
  intro hne
  rw [h.row p hp] at hne
  have := List.length_pos_iff.2 hne
  have := ofP_len L p
  omega
theorem Rel.len {L : List It} {T : Nat → Int} {r : Nat → Row} (h : Rel L T r) {p : Nat} (hp : p < 4) : (r p).items.length ≤ L.length := by
  rw [h.row p hp]; exact ofP_len L p
theorem Rel.erase {L : List It} {T : Nat → Int} {r : Nat → Row} (h : Rel L T r) {b : Nat} {x : It} (hx : L[b]? = some x) {p : Nat} (hp : p < 4) (hxp : x.prio = (p : Int)) {i : Nat} (hi : (ofP L p).eraseIdx i = ofP (L.eraseIdx b) p) {tk : Bool} {last : Int} {T' : Nat → Int}
    (hT : ∀ q, q ≠ p → T' q = T q) (hl : (tk = true ∧ T' p = last + 1 ∧ 0 ≤ last ∧ last < 5) ∨ (tk = false ∧ T' p = 0)) : Rel (L.eraseIdx b) T' (upd r p ⟨(r p).items.eraseIdx i, tk, last⟩) := by
  refine ⟨fun q hq => ?_, fun q hq => ?_, fun y hy => h.ok y (List.mem_of_mem_eraseIdx hy)⟩
  · by_cases e : q = p
    · subst e; rw [upd_same]; dsimp only; rw [h.row q hq, hi]
    · rw [upd_other _ _ e, h.row q hq]
      exact (filter_not _ L b x hx (by simp; omega)).symm
  · by_cases e : q = p
    · subst e; rw [upd_same]; exact hl
    · rw [upd_other _ _ e, hT q e]; exact h.last q hq
/-! Put. -/
theorem Rel.add {L : List It} {T : Nat → Int} {r : Nat → Row} (h : Rel L T r) {p : Nat} {x : It} (hp : p < 4) (hxp : x.prio = (p : Int)) (hf : 0 ≤ x.flow ∧ x.flow < 5) : Rel (L ++ [x]) T (addIt r p x) := by
  unfold addIt
  refine ⟨fun q hq => ?_, fun q hq => ?_, fun y hy => ?_⟩
  · by_cases e : q = p
    · subst e; rw [upd_same]; dsimp only; rw [h.row q hq]; simp [ofP, List.filter_append, hxp]
    · rw [upd_other _ _ e, h.row q hq]
      have : ¬ x.prio = (q : Int) := by omega
      simp [ofP, List.filter_append, this]
  · by_cases e : q = p
    · subst e; rw [upd_same]; exact h.last q hq
    · rw [upd_other _ _ e]; exact h.last q hq
  · rcases List.mem_append.1 hy with hy | hy
    · exact h.ok y hy
    · simp at hy; subst hy; exact ⟨⟨p, hp, hxp⟩, hf⟩
/-- How many items of a priority and a flow there are. -/
def many (L : List It) (p f : Int) : Int := ((L.filter (fun x => decide (x.prio = p) && decide (x.flow = f))).length : Int)
theorem many_cnt (L : List It) (p : Nat) (f : Int) : many L (p : Int) f = cntZ (ofP L p) f := by
  unfold many cntZ ofP
  rw [List.filter_filter]
  congr 2
  congr 1
  funext x
  rw [Bool.and_comm]
theorem many_le (L : List It) (p f : Int) : 0 ≤ many L p f ∧ many L p f ≤ L.length := by
  have := List.length_filter_le (fun x : It => decide (x.prio = p) && decide (x.flow = f)) L
  unfold many; omega
def sKey (L : List It) (x : It) : Int := x.prio * 100000 - many L x.prio x.flow * 10 - x.flow
/-- Does an item become the best one to be shed? -/
def sLess (L : List It) (a b : It) : Bool := decide (a.prio < b.prio) || (decide (a.prio = b.prio) && (decide (many L b.prio b.flow < many L a.prio a.flow) || (decide (many L a.prio a.flow = many L b.prio b.flow) && decide (b.flow ≤ a.flow))))
theorem sLess_key {L : List It} {a b : It} (hl : L.length ≤ 1000) (ha : 0 ≤ a.flow ∧ a.flow < 5) (hb : 0 ≤ b.flow ∧ b.flow < 5) : sLess L a b = decide (sKey L a ≤ sKey L b) := by
  have h1 := many_le L a.prio a.flow
  have h2 := many_le L b.prio b.flow
  unfold sLess sKey
  rw [Bool.eq_iff_iff]
  simp only [Bool.or_eq_true, Bool.and_eq_true, decide_eq_true_eq]
  omega
structure SBest (L : List It) (j b : Nat) (x : It) : Prop where
  is : L[b]? = some x
  lt : b < j ∨ b = 0
  best : ∀ (k : Nat) (y : It), k < j → L[k]? = some y → sKey L x ≤ sKey L y ∧ (b < k → sKey L x < sKey L y)
theorem SBest.start {L : List It} {x : It} (h : L[0]? = some x) : SBest L 0 0 x := ⟨h, .inr rfl, fun k y hk => by omega⟩
theorem SBest.stay {L : List It} {j b : Nat} {x y : It} (h : SBest L j b x) (hy : L[j]? = some y) (hk : sKey L x < sKey L y ∨ b = j ∧ x = y) : SBest L (j + 1) b x :=
  ⟨h.is, by have := h.lt; omega, fun k z hk2 hz => by
    rcases (show k < j ∨ k = j by omega) with e | rfl
    · exact h.best k z e hz
    · rw [hy] at hz; cases hz
      rcases hk with hk | ⟨rfl, rfl⟩
      · omega
      · omega⟩
theorem SBest.turn {L : List It} {j b : Nat} {x y : It} (h : SBest L j b x) (hy : L[j]? = some y) (hk : sKey L y ≤ sKey L x) : SBest L (j + 1) j y :=
  ⟨hy, .inl (by omega), fun k z hk2 hz => by
    rcases (show k < j ∨ k = j by omega) with e | rfl
    · have := h.best k z e hz; omega
    · rw [hy] at hz; cases hz; omega⟩
theorem Rel.shed {L : List It} {T : Nat → Int} {r : Nat → Row} {b : Nat} {x : It} (h : Rel L T r) (hl : L.length ≤ 1000) (hb : SBest L L.length b x) : ∃ r', ShedIs r r' x ∧ Rel (L.eraseIdx b) T r' := by
  obtain ⟨⟨p, hp, hxp⟩, hf⟩ := h.ok x (List.mem_of_getElem? hb.is)
  obtain ⟨i, h1, h2, h3, h4⟩ := filter_at (fun y => decide (y.prio = (p : Int))) L b x hb.is (by simp [hxp])
  have hall : ∀ y ∈ L, sKey L x ≤ sKey L y := fun y hy => by
    obtain ⟨k, hk⟩ := List.getElem?_of_mem hy
    exact (hb.best k y (List.getElem?_eq_some_iff.1 hk).1 hk).1
  have mx := many_le L x.prio x.flow
  have hrow := h.row p hp
  refine ⟨_, ShedIs.some p i x.flow x hp (fun q hq => ?_) ⟨⟨i, x, by rw [hrow]; exact h1, rfl⟩, fun k y hy => ?_⟩ (by rw [hrow]; exact h1) rfl (fun k y hk hy => ?_), h.erase hb.is hp hxp h2 (fun _ _ => rfl) (h.last p hp)⟩
  · rw [h.row q (by omega)]
    refine List.eq_nil_iff_forall_not_mem.2 (fun y hy => ?_)
    obtain ⟨hyL, hyp⟩ := ofP_mem.1 hy
    have k1 := hall y hyL
    have my := many_le L y.prio y.flow
    have := (h.ok y hyL).2
    unfold sKey at k1
    omega
  · rw [hrow] at hy ⊢
    obtain ⟨hyL, hyp⟩ := ofP_mem.1 (List.mem_of_getElem? hy)
    have k1 := hall y hyL
    have := (h.ok y hyL).2
    unfold sKey at k1
    rw [hyp, hxp] at k1
    rw [← many_cnt, ← many_cnt]
    omega
  · rw [hrow] at hy
    intro hyf
    obtain ⟨-, hyp⟩ := ofP_mem.1 (List.mem_of_getElem? hy)
    obtain ⟨m, hm1, hm2⟩ := h4 k y hk hy
    have k1 := (hb.best m y (List.getElem?_eq_some_iff.1 hm2).1 hm2).2 hm1
    unfold sKey at k1
    rw [hyp, hxp, hyf] at k1
    omega
/-! Take. -/
def aheadB (a b last : Int) : Bool := if (decide (last ≤ a) != decide (last ≤ b)) = true then decide (last ≤ a) else decide (a < b)
def tKey (T : Nat → Int) (x : It) : Int := (3 - x.prio) * 100 + (if T x.prio.toNat ≤ x.flow then 0 else 10) + x.flow
def tLess (T : Nat → Int) (a b : It) : Bool := decide (b.prio < a.prio) || (decide (a.prio = b.prio) && aheadB a.flow b.flow (T a.prio.toNat))
theorem tLess_key {T : Nat → Int} {a b : It} (ha : 0 ≤ a.flow ∧ a.flow < 5) (hb : 0 ≤ b.flow ∧ b.flow < 5) : tLess T a b = decide (tKey T a < tKey T b) := by
  by_cases e : a.prio = b.prio
  · unfold tLess tKey aheadB
    rw [e]
    rw [Bool.eq_iff_iff]
    by_cases h1 : T b.prio.toNat ≤ a.flow <;> by_cases h2 : T b.prio.toNat ≤ b.flow <;> simp [h1, h2] <;> omega
  · unfold tLess tKey
    rw [Bool.eq_iff_iff]
    simp [e]
    split <;> split <;> omega
structure TBest (T : Nat → Int) (L : List It) (j b : Nat) (x : It) : Prop where
  is : L[b]? = some x
  lt : b < j ∨ b = 0
  best : ∀ (k : Nat) (y : It), k < j → L[k]? = some y → tKey T x ≤ tKey T y ∧ (k < b → tKey T x < tKey T y)
theorem TBest.start {T : Nat → Int} {L : List It} {x : It} (h : L[0]? = some x) : TBest T L 0 0 x := ⟨h, .inr rfl, fun k y hk => by omega⟩
theorem TBest.stay {T : Nat → Int} {L : List It} {j b : Nat} {x y : It} (h : TBest T L j b x) (hy : L[j]? = some y) (hk : tKey T x ≤ tKey T y) : TBest T L (j + 1) b x :=
  ⟨h.is, by have := h.lt; omega, fun k z hk2 hz => by
    rcases (show k < j ∨ k = j by omega) with e | rfl
    · exact h.best k z e hz
    · rw [hy] at hz; cases hz
      exact ⟨hk, fun hh => by have := h.lt; omega⟩⟩
theorem TBest.turn {T : Nat → Int} {L : List It} {j b : Nat} {x y : It} (h : TBest T L j b x) (hy : L[j]? = some y) (hk : tKey T y < tKey T x) : TBest T L (j + 1) j y :=
  ⟨hy, .inl (by omega), fun k z hk2 hz => by
    rcases (show k < j ∨ k = j by omega) with e | rfl
    · have := h.best k z e hz; omega
    · rw [hy] at hz; cases hz; omega⟩
theorem Rel.take {L : List It} {T : Nat → Int} {r : Nat → Row} {b : Nat} {x : It} (h : Rel L T r) (hb : TBest T L L.length b x) : ∃ (r' : Nat → Row) (p : Nat), p < 4 ∧ x.prio = (p : Int) ∧ TakeIs r r' x true ∧ Rel (L.eraseIdx b) (upd T p (x.flow + 1)) r' := by
  obtain ⟨⟨p, hp, hxp⟩, hf⟩ := h.ok x (List.mem_of_getElem? hb.is)
  obtain ⟨i, h1, h2, h3, h4⟩ := filter_at (fun y => decide (y.prio = (p : Int))) L b x hb.is (by simp [hxp])
  have hall : ∀ y ∈ L, tKey T x ≤ tKey T y := fun y hy => by
    obtain ⟨k, hk⟩ := List.getElem?_of_mem hy
    exact (hb.best k y (List.getElem?_eq_some_iff.1 hk).1 hk).1
  have hrow := h.row p hp
  have hpt : (p : Int).toNat = p := by omega
  have hkey : ∀ (k : Nat) (y : It), (r p).items[k]? = some y → 0 ≤ y.flow ∧ (if T p ≤ x.flow then (0 : Int) else 10) + x.flow ≤ (if T p ≤ y.flow then (0 : Int) else 10) + y.flow := fun k y hy => by
    rw [hrow] at hy
    obtain ⟨hyL, hyp⟩ := ofP_mem.1 (List.mem_of_getElem? hy)
    have k1 := hall y hyL
    have := (h.ok y hyL).2
    unfold tKey at k1
    rw [hyp, hxp, hpt] at k1
    omega
  refine ⟨_, p, hp, hxp, TakeIs.some p i x.flow x hp (fun q hq hq4 => ?_) ⟨⟨i, x, by rw [hrow]; exact h1, rfl⟩, ?_⟩ (by rw [hrow]; exact h1) rfl (fun k y hk hy => ?_), h.erase hb.is hp hxp h2 (fun q hq => upd_other _ _ hq) (.inl ⟨rfl, upd_same _ _ _, hf⟩)⟩
  · rw [h.row q hq4]
    refine List.eq_nil_iff_forall_not_mem.2 (fun y hy => ?_)
    obtain ⟨hyL, hyp⟩ := ofP_mem.1 hy
    have k1 := hall y hyL
    have := (h.ok y hyL).2
    unfold tKey at k1
    split at k1 <;> split at k1 <;> omega
  · rcases h.last p hp with ⟨l1, l2, l3, l4⟩ | ⟨l1, l2⟩
    · by_cases e : T p ≤ x.flow
      · refine .inl ⟨l1, by omega, fun k y hy hl => ?_⟩
        have := hkey k y hy
        rw [if_pos e, if_pos (by omega)] at this
        omega
      · refine .inr ⟨fun k y hy hh => ?_, fun k y hy => ?_⟩
        · have := hkey k y hy
          rw [if_neg e, if_pos (by omega)] at this
          have := (h.ok y (ofP_mem.1 (List.mem_of_getElem? (by rw [← hrow]; exact hy))).1).2
          omega
        · have h5 := hkey k y hy
          have := (h.ok y (ofP_mem.1 (List.mem_of_getElem? (by rw [← hrow]; exact hy))).1).2
          rw [if_neg e] at h5
          split at h5 <;> omega
    · refine .inr ⟨fun k y hy hh => ?_, fun k y hy => ?_⟩
      · rw [l1] at hh; exact absurd hh.1 (by simp)
      · have h5 := hkey k y hy
        rw [if_pos (by omega), if_pos (by omega)] at h5
        omega
  · rw [hrow] at hy
    intro hyf
    obtain ⟨-, hyp⟩ := ofP_mem.1 (List.mem_of_getElem? hy)
    obtain ⟨m, hm1, hm2⟩ := h3 k y hk hy
    have k1 := (hb.best m y (List.getElem?_eq_some_iff.1 hm2).1 hm2).2 hm1
    unfold tKey at k1
    rw [hyp, hxp, hyf] at k1
    omega
theorem Rel.takeNil {T : Nat → Int} {r : Nat → Row} (h : Rel [] T r) : TakeIs r r zeroIt false := TakeIs.none (fun q hq => by rw [h.row q hq]; rfl)
/-! Drop. -/
/-- Of IDs that rise. -/
def Rising (L : List It) : Prop := L.Pairwise (fun x y => x.id < y.id)
theorem Rising.erase {L : List It} (h : Rising L) (b : Nat) : Rising (L.eraseIdx b) := h.sublist (List.eraseIdx_sublist _ _)
theorem Rising.add {L : List It} {x : It} (h : Rising L) (hx : ∀ y ∈ L, y.id < x.id) : Rising (L ++ [x]) := by
  unfold Rising
  rw [List.pairwise_append]
  exact ⟨h, by simp, fun a ha b hb => by simp at hb; subst hb; exact hx a ha⟩
theorem Rising.one {L : List It} (h : Rising L) {i j : Nat} {x y : It} (hx : L[i]? = some x) (hy : L[j]? = some y) (e : x.id = y.id) : i = j := by
  obtain ⟨h1, rfl⟩ := List.getElem?_eq_some_iff.1 hx
  obtain ⟨h2, rfl⟩ := List.getElem?_eq_some_iff.1 hy
  rcases Nat.lt_trichotomy i j with hh | hh | hh
  · have := List.pairwise_iff_getElem.1 h i j h1 h2 hh; omega
  · exact hh
  · have := List.pairwise_iff_getElem.1 h j i h2 h1 hh; omega
theorem Rel.drop {L : List It} {T : Nat → Int} {r : Nat → Row} (h : Rel L T r) (hr : Rising L) {b : Nat} {x : It} (hb : L[b]? = some x) : ∃ r', DropIs r x.id r' true ∧ Rel (L.eraseIdx b) T r' := by
  obtain ⟨⟨p, hp, hxp⟩, hf⟩ := h.ok x (List.mem_of_getElem? hb)
  obtain ⟨i, h1, h2, h3, h4⟩ := filter_at (fun y => decide (y.prio = (p : Int))) L b x hb (by simp [hxp])
  have hrow := h.row p hp
  refine ⟨_, DropIs.some p i hp (fun q hq k y hy hyi => ?_) ⟨⟨x, by rw [hrow]; exact h1, rfl⟩, fun k y hk hy hyi => ?_⟩, h.erase hb hp hxp h2 (fun _ _ => rfl) (h.last p hp)⟩
  · rw [h.row q (by omega)] at hy
    obtain ⟨hyL, hyp⟩ := ofP_mem.1 (List.mem_of_getElem? hy)
    obtain ⟨m, hm⟩ := List.getElem?_of_mem hyL
    obtain rfl := hr.one hm hb hyi
    rw [hb] at hm; cases hm
    omega
  · rw [hrow] at hy
    obtain ⟨m, hm1, hm2⟩ := h3 k y hk hy
    have := hr.one hm2 hb hyi
    omega
theorem Rel.dropNot {L : List It} {T : Nat → Int} {r : Nat → Row} (h : Rel L T r) {id : Int} (hn : ∀ (k : Nat) (y : It), L[k]? = some y → ¬ y.id = id) : DropIs r id r false :=
  DropIs.none (fun q hq k y hy => by
    rw [h.row q hq] at hy
    obtain ⟨m, hm⟩ := List.getElem?_of_mem (ofP_mem.1 (List.mem_of_getElem? hy)).1
    exact hn m y hm)
end Go.Proofs.Ytapoikegoknlcaa
