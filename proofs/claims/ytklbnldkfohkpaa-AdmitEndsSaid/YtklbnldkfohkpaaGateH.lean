/- Layer 23: a gate and a queue beside each other; two queues put the same. -/
import Derived.Test.YtklbnldkfohkpaaGateG
namespace Go.Proofs.Ytklbnldkfohkpaa
open Go.RowKit
def qBlocks (b : Nat) (v : Nat → Value) : List Nat := b :: ((v 0).ownBlock.toList ++ ((v 1).ownBlock.toList ++ ((v 2).ownBlock.toList ++ (v 3).ownBlock.toList)))
theorem qBlocks_may {b : Nat} {v : Nat → Value} {k : Nat} : k ∈ qBlocks b v ↔ QMay b v k := by
  unfold qBlocks QMay
  simp only [List.mem_cons, List.mem_append, Option.mem_toList]
  constructor
  · rintro (h | h | h | h | h)
    · exact .inl h
    · exact .inr ⟨0, by omega, h⟩
    · exact .inr ⟨1, by omega, h⟩
    · exact .inr ⟨2, by omega, h⟩
    · exact .inr ⟨3, by omega, h⟩
  · rintro (h | ⟨q, hq, h⟩)
    · exact .inl h
    · rcases (show q = 0 ∨ q = 1 ∨ q = 2 ∨ q = 3 by omega) with rfl | rfl | rfl | rfl
      · exact .inr (.inl h)
      · exact .inr (.inr (.inl h))
      · exact .inr (.inr (.inr (.inl h)))
      · exact .inr (.inr (.inr (.inr h)))
theorem QStep.asUpd {base : Nat} {S : List Nat} {w w' : World} (h : QStep base S w w') : ∃ T, Upd T w w' ∧ ∀ k ∈ T, base ≤ k ∧ k ∉ S := by
  refine ⟨(List.range w.heap.size).filter (fun k => decide (base ≤ k ∧ k ∉ S)), ⟨h.below.os, h.below.tape, h.below.output, h.size, fun k hk hn => ?_⟩, fun k hk => ?_⟩
  · by_cases e : k < base
    · exact h.below.block k e
    · by_cases e2 : k ∈ S
      · exact h.same k e2
      · exact absurd (List.mem_filter.2 ⟨List.mem_range.2 hk, by simp; exact ⟨by omega, e2⟩⟩) hn
  · simpa using (List.mem_filter.1 hk).2
theorem QAt.may_lt {W : World} {base b : Nat} {most n : Int} {v : Nat → Value} {r : Nat → Row} (h : QAt W base b most n v r) {k : Nat} (hk : QMay b v k) : k < W.heap.size := by
  rcases hk with rfl | ⟨q, hq, hk⟩
  · exact h.blk.lt
  · exact ((h.own q hq).lt _ hk).2
/-- A gate, and a queue beside it, and blocks beside both. -/
def Beside (base : Nat) (W : World) (gb : Nat) (g : Gt) (b : Nat) (most n : Int) (r : Nat → Row) (S : List Nat) : Prop :=
  ∃ v, QAt W base b most n v r ∧ (∀ k ∈ S, ¬ QMay b v k) ∧ GateAt base W gb g (qBlocks b v ++ S)
theorem Beside.gate {base : Nat} {w : World} {gb : Nat} {g : Gt} {b : Nat} {most n : Int} {r : Nat → Row} {S : List Nat} (h : Beside base w gb g b most n r S) :
    ∃ T, GateAt base w gb g (T ++ S) ∧ ∀ (g' : Gt) (w' : World) (E : List Nat), GateAt base w' gb g' (E ++ (T ++ S)) → QStep base (T ++ S) w w' → (∀ k ∈ E, w.heap.size ≤ k) → Beside base w' gb g' b most n r (E ++ S) := by
  obtain ⟨v, hq, hs, hg⟩ := h
  refine ⟨qBlocks b v, hg, fun g' w' E hg' st hE => ?_⟩
  obtain ⟨T', u, hT⟩ := st.asUpd
  refine ⟨v, hq.away u (fun hh => (hT _ hh).2 (List.mem_append_left _ (qBlocks_may.2 (.inl rfl)))) (fun q k hq hk hh => (hT _ hh).2 (List.mem_append_left _ (qBlocks_may.2 (.inr ⟨q, hq, hk⟩)))), fun k hk => ?_, hg'.sub (fun k hk => ?_)⟩
  · rcases List.mem_append.1 hk with hk | hk
    · intro hm; have := hq.may_lt hm; have := hE k hk; omega
    · exact hs k hk
  · simp only [List.mem_append] at hk ⊢
    rcases hk with h1 | h1 | h1
    · exact .inr (.inl h1)
    · exact .inl h1
    · exact .inr (.inr h1)
theorem Beside.queue {base : Nat} {w : World} {gb : Nat} {g : Gt} {b : Nat} {most n : Int} {r : Nat → Row} {S : List Nat} (h : Beside base w gb g b most n r S) :
    ∃ T, QS base w b most n r (T ++ S) ∧ ∀ (n' : Int) (r' : Nat → Row) (w' : World), QS base w' b most n' r' (T ++ S) → QStep base (T ++ S) w w' → Beside base w' gb g b most n' r' S := by
  obtain ⟨v, hq, hs, hg⟩ := h
  have hlt := hg.lt
  obtain ⟨qb, lb, um, hg⟩ := hg
  obtain ⟨v1, hq1, hb, hS⟩ := hg.q
  have a1 := hg.ap.1
  have a2 := hg.ap.2.1
  have a3 := hg.ap.2.2
  refine ⟨gb :: lb :: um :: qBlocks qb v1, ⟨v, hq, hb, fun k hk => ?_⟩, fun n' r' w' hq' st => ?_⟩
  · simp only [List.cons_append, List.mem_cons, List.mem_append] at hk
    rcases hk with rfl | rfl | rfl | hk | hk
    · exact ⟨hg.blk.lt, fun hm => a1 (List.mem_append_left _ (qBlocks_may.2 hm))⟩
    · exact ⟨hg.lim.lt, fun hm => a2 (List.mem_append_left _ (qBlocks_may.2 hm))⟩
    · exact ⟨hg.set.lt, fun hm => a3 (List.mem_append_left _ (qBlocks_may.2 hm))⟩
    · have hk := qBlocks_may.1 hk
      exact ⟨hq1.may_lt hk, fun hm => (hS k (by simp [qBlocks_may.2 hm])).2 hk⟩
    · exact ⟨hlt k (by simp [hk]), hs k hk⟩
  · obtain ⟨v', hq2, hb2, hS2⟩ := hq'
    obtain ⟨T', u, hT⟩ := st.asUpd
    refine ⟨v', hq2, fun k hk => (hS2 k (by simp [hk])).2, qb, lb, um, st.block (by simp) hg.blk, ⟨v1, hq1.away u (fun hh => (hT _ hh).2 ?_) (fun q k hq hk hh => (hT _ hh).2 ?_), hb2, fun k hk => ?_⟩, st.block (by simp) hg.lim, ?_, hg.gl, hg.gm, hg.lm, hg.low, ?_, ?_, ?_⟩
    · simp [qBlocks_may.2 (show QMay qb v1 qb from .inl rfl)]
    · simp [qBlocks_may.2 (show QMay qb v1 k from .inr ⟨q, hq, hk⟩)]
    · simp only [List.mem_cons, List.mem_append] at hk
      rcases hk with rfl | rfl | rfl | hk | hk
      · exact ⟨(hS2 _ (by simp)).1, (hS _ (by simp)).2⟩
      · exact ⟨(hS2 _ (by simp)).1, (hS _ (by simp)).2⟩
      · exact ⟨(hS2 _ (by simp)).1, (hS _ (by simp)).2⟩
      · have hk := qBlocks_may.1 hk
        exact ⟨hq2.may_lt hk, fun hm => (hS2 k (by simp [qBlocks_may.2 hm])).2 hk⟩
      · exact ⟨(hS2 _ (by simp [hk])).1, (hS _ (by simp [hk])).2⟩
    · exact hg.set.keep u (fun hh => (hT _ hh).2 (by simp))
    · intro hh
      rcases List.mem_append.1 hh with hh | hh
      · exact (hS2 gb (by simp)).2 (qBlocks_may.1 hh)
      · exact a1 (List.mem_append_right _ hh)
    · intro hh
      rcases List.mem_append.1 hh with hh | hh
      · exact (hS2 lb (by simp)).2 (qBlocks_may.1 hh)
      · exact a2 (List.mem_append_right _ hh)
    · intro hh
      rcases List.mem_append.1 hh with hh | hh
      · exact (hS2 um (by simp)).2 (qBlocks_may.1 hh)
      · exact a3 (List.mem_append_right _ hh)
theorem nextOk_unique {l : List It} {tk : Bool} {last f g : Int} (h : NextOk l tk last f) (k : NextOk l tk last g) : f = g := by
  obtain ⟨kf, xf, hf, ef⟩ := h.is
  obtain ⟨kg, xg, hg, eg⟩ := k.is
  rcases h.above with ⟨a1, a2, a3⟩ | ⟨a1, a2⟩ <;> rcases k.above with ⟨b1, b2, b3⟩ | ⟨b1, b2⟩
  · have := a3 _ _ hg (by omega); have := b3 _ _ hf (by omega); omega
  · exact absurd ⟨a1, by omega⟩ (b1 _ _ hf)
  · exact absurd ⟨b1, by omega⟩ (a1 _ _ hg)
  · have := a2 _ _ hg; have := b2 _ _ hf; omega
theorem fullOk_unique {l : List It} {f g : Int} (h : FullOk l f) (k : FullOk l g) : f = g := by
  obtain ⟨a, x, hx, ex⟩ := h.is
  obtain ⟨c, y, hy, ey⟩ := k.is
  have h1 := h.most c y hy
  have h2 := k.most a x hx
  rw [ey] at h1
  rw [ex] at h2
  omega
theorem ShedIs.unique {r r1 r2 : Nat → Row} {x y : It} (h : ShedIs r r1 x) (k : ShedIs r r2 y) : r1 = r2 ∧ x = y := by
  cases h with
  | some p i f x h1 h2 h3 h4 h5 h6 =>
    cases k with
    | some q j g y k1 k2 k3 k4 k5 k6 =>
      have e : p = q := by
        rcases Nat.lt_trichotomy p q with h | h | h
        · rw [k2 p h] at h4; simp at h4
        · exact h
        · rw [h2 q h] at k4; simp at k4
      subst e
      have e : f = g := fullOk_unique h3 k3
      subst e
      have e : i = j := by
        rcases Nat.lt_trichotomy i j with h | h | h
        · exact absurd k5 (h6 j y h k4)
        · exact h
        · exact absurd h5 (k6 i x h h4)
      subst e
      rw [h4] at k4
      cases k4
      exact ⟨rfl, rfl⟩
theorem TakeIs.unique {r r1 r2 : Nat → Row} {x y : It} {a c : Bool} (h : TakeIs r r1 x a) (k : TakeIs r r2 y c) : r1 = r2 ∧ x = y ∧ a = c := by
  cases h with
  | none h0 =>
    cases k with
    | none k0 => exact ⟨rfl, rfl, rfl⟩
    | some q j g y k1 k2 k3 k4 k5 k6 => rw [h0 q k1] at k4; simp at k4
  | some p i f x h1 h2 h3 h4 h5 h6 =>
    cases k with
    | none k0 => rw [k0 p h1] at h4; simp at h4
    | some q j g y k1 k2 k3 k4 k5 k6 =>
      have e : p = q := by
        rcases Nat.lt_trichotomy p q with h | h | h
        · rw [h2 q h k1] at k4; simp at k4
        · exact h
        · rw [k2 p h h1] at h4; simp at h4
      subst e
      have e : f = g := nextOk_unique h3 k3
      subst e
      have e : i = j := by
        rcases Nat.lt_trichotomy i j with h | h | h
        · exact absurd h5 (k6 i x h h4)
        · exact h
        · exact absurd k5 (h6 j y h k4)
      subst e
      rw [h4] at k4
      cases k4
      exact ⟨rfl, rfl, rfl⟩
/-- One that comes to a full gate: as the queue tells. -/
theorem row_enter {g g' : Gt} {p : Nat} {x sh y : It} {what n' : Int} {is has : Bool} {r' : Nat → Row} (h : EnterIs g p x what sh is g') (hp : PutIs g.most g.n g.r p x r' n' y has) (hu : g.lim.lim ≤ g.U.length) :
    g' = ⟨g.most, n', r', g.lim, g.U⟩ ∧ ((has = true ∧ y.id = x.id ∧ what = 3 ∧ is = false) ∨ ((has = true → ¬ y.id = x.id) ∧ what = 2 ∧ is = has ∧ sh = y)) := by
  cases hp with
  | room hr =>
    obtain ⟨rfl, rfl, rfl, rfl⟩ := enter_room h hu hr
    exact ⟨rfl, .inr ⟨by simp, rfl, rfl, rfl⟩⟩
  | over r' y ho hs =>
    obtain ⟨r1, y1, hs1, rfl, hh⟩ := enter_over h hu ho
    obtain ⟨rfl, rfl⟩ := hs.unique hs1
    refine ⟨rfl, ?_⟩
    rcases hh with ⟨h1, rfl, rfl, rfl⟩ | ⟨h1, rfl, rfl, rfl⟩
    · exact .inl ⟨rfl, h1, rfl, rfl⟩
    · exact .inr ⟨fun _ => h1, rfl, rfl, rfl⟩
/-- One that goes on: as the queue tells. -/
theorem row_take {m n : Int} {r r' : Nat → Row} {l : Lim} {ids : List Int} {g' : Gt} {x : It} {is : Bool} (h : NextRun ⟨m, n, r, l, []⟩ ids g') (hl : l.lim = 1) (ht : TakeIs r r' x is) :
    (is = false ∧ ids = [] ∧ g' = ⟨m, n, r', l, []⟩) ∨ (is = true ∧ ids = [x.id] ∧ g' = ⟨m, n - 1, r', l, [x.id]⟩) := by
  cases h with
  | full _ h => dsimp only at h; rw [hl] at h; simp at h
  | none _ r'' y h ht' =>
    obtain ⟨rfl, rfl, rfl⟩ := ht.unique ht'
    exact .inl ⟨rfl, rfl, rfl⟩
  | go _ _ r'' y ids h ht' hr =>
    obtain ⟨rfl, rfl, rfl⟩ := ht.unique ht'
    have hU : putU [] x.id = [x.id] := rfl
    dsimp only at hr
    rw [hU] at hr
    cases hr with
    | full _ h => exact .inr ⟨rfl, rfl, rfl⟩
    | none _ _ _ h _ => dsimp only at h; rw [hl] at h; simp at h
    | go _ _ _ _ _ h _ _ => dsimp only at h; rw [hl] at h; simp at h
end Go.Proofs.Ytklbnldkfohkpaa
