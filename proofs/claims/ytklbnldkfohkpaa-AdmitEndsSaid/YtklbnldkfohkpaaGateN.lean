/- Layer 23: the places in memory, beside a gate. -/
import Derived.Test.YtklbnldkfohkpaaGateM
import Derived.Test.YtklbnldkfohkpaaOffRow
namespace Go.Proofs.Ytklbnldkfohkpaa
open Go.RowKit
def three {α : Type} (a b c : α) : Nat → α
  | 0 => a
  | 1 => b
  | _ => c
theorem upd_three0 {α : Type} (a b c x : α) : upd (three a b c) 0 x = three x b c := by funext q; rcases q with _ | _ | q <;> simp [upd, three]
theorem upd_three1 {α : Type} (a b c x : α) : upd (three a b c) 1 x = three a x c := by funext q; rcases q with _ | _ | q <;> simp [upd, three]
theorem to_three {α : Type} (f : Nat → α) : ∀ q, q < 3 → three (f 0) (f 1) (f 2) q = f q := fun q hq => by
  rcases (show q = 0 ∨ q = 1 ∨ q = 2 by omega) with rfl | rfl | rfl <;> rfl
/-- The block of the places holds three rows. -/
structure PV (base : Nat) (W : World) (pb : Nat) (v : Nat → Value) (l : Nat → List Int) : Prop where
  blk : BlockAt W pb 45 [v 0, v 1, v 2]
  lo : base ≤ pb
  own : ∀ j, j < 3 → OffInts base W (v j) (l j)
  ne : ∀ j k, j < 3 → (v j).ownBlock = some k → k ≠ pb
  ap : ∀ i j k, i < 3 → j < 3 → i ≠ j → (v i).ownBlock = some k → (v j).ownBlock ≠ some k
def plBlocks (pb : Nat) (v : Nat → Value) : List Nat := pb :: ((v 0).ownBlock.toList ++ ((v 1).ownBlock.toList ++ (v 2).ownBlock.toList))
theorem mem_plBlocks {pb k : Nat} {v : Nat → Value} : k ∈ plBlocks pb v ↔ k = pb ∨ ∃ j, j < 3 ∧ (v j).ownBlock = some k := by
  simp only [plBlocks, List.mem_cons, List.mem_append, Option.mem_toList]
  constructor
  · rintro (h | h | h | h)
    · exact .inl h
    · exact .inr ⟨0, by omega, h⟩
    · exact .inr ⟨1, by omega, h⟩
    · exact .inr ⟨2, by omega, h⟩
  · rintro (h | ⟨j, hj, h⟩)
    · exact .inl h
    · rcases (show j = 0 ∨ j = 1 ∨ j = 2 by omega) with rfl | rfl | rfl
      · exact .inr (.inl h)
      · exact .inr (.inr (.inl h))
      · exact .inr (.inr (.inr h))
theorem PV.lt {base : Nat} {W : World} {pb : Nat} {v : Nat → Value} {l : Nat → List Int} (h : PV base W pb v l) : ∀ k ∈ plBlocks pb v, base ≤ k ∧ k < W.heap.size := by
  intro k hk
  rcases mem_plBlocks.1 hk with rfl | ⟨j, hj, hk⟩
  · exact ⟨h.lo, h.blk.lt⟩
  · exact (h.own j hj).lt k hk
theorem PV.away {base : Nat} {W W' : World} {pb : Nat} {v : Nat → Value} {l : Nat → List Int} {T : List Nat} (h : PV base W pb v l) (u : Upd T W W') (hT : ∀ k ∈ plBlocks pb v, k ∉ T) : PV base W' pb v l :=
  ⟨h.blk.keep u (hT pb (mem_plBlocks.2 (.inl rfl))), h.lo, fun j hj => (h.own j hj).owns u (fun k hk => hT k (mem_plBlocks.2 (.inr ⟨j, hj, hk⟩))), h.ne, h.ap⟩
/-- A row is stored that a row's step has made. -/
theorem PV.store {base : Nat} {W W1 : World} {pb j : Nat} {v : Nat → Value} {l : Nat → List Int} {x : Value} {l' : List Int} {S : List Nat} (h : PV base W pb v l) (hb : base ≤ W.heap.size) (hS : ∀ k ∈ S, k < W.heap.size ∧ k ∉ plBlocks pb v)
    (hj : j < 3) (u : Upd (v j).ownBlock.toList W W1) (ho : OffInts base W1 x l') (hx : ∀ g, x.ownBlock = some g → (v j).ownBlock = some g ∨ W.heap.size ≤ g) :
    PV base (W1.setCell ⟨pb, j, none⟩ x) pb (upd v j x) (upd l j l') ∧ (∀ k ∈ S, k < (W1.setCell ⟨pb, j, none⟩ x).heap.size ∧ k ∉ plBlocks pb (upd v j x)) ∧ QStep base S W (W1.setCell ⟨pb, j, none⟩ x) := by
  have hpl := h.blk.lt
  have hxp : ∀ g, x.ownBlock = some g → g ≠ pb := fun g hg => by
    rcases hx g hg with hh | hh
    · exact h.ne j g hj hh
    · omega
  have hb1 : BlockAt W1 pb 45 [v 0, v 1, v 2] := h.blk.keep u (fun hh => h.ne j pb hj (by simpa using hh) rfl)
  have u2 : Upd [pb] W1 (W1.setCell ⟨pb, j, none⟩ x) := Upd.setCell W1 ⟨pb, j, none⟩ x
  have hlt2 : ∀ k, k < W.heap.size → k < (W1.setCell ⟨pb, j, none⟩ x).heap.size := fun k hk => Nat.lt_of_lt_of_le hk (Nat.le_trans u.size u2.size)
  refine ⟨⟨?_, h.lo, fun i hi => ?_, fun i k hi hk => ?_, fun i m k hi hm him hk hk2 => ?_⟩, fun k hk => ⟨hlt2 k (hS k hk).1, fun hm => ?_⟩, ?_⟩
  · have := hb1.set j x
    rcases (show j = 0 ∨ j = 1 ∨ j = 2 by omega) with rfl | rfl | rfl <;> simpa [upd] using this
  · by_cases e : i = j
    · subst e
      rw [upd_same, upd_same]
      exact ho.owns u2 (fun k hk => by simp; exact hxp k hk)
    · rw [upd_other _ _ e, upd_other _ _ e]
      exact ((h.own i hi).owns u (fun k hk hh => h.ap i j k hi hj e hk (by simpa using hh))).owns u2 (fun k hk => by simp; exact h.ne i k hi hk)
  · by_cases e : i = j
    · subst e
      rw [upd_same] at hk
      exact hxp k hk
    · rw [upd_other _ _ e] at hk
      exact h.ne i k hi hk
  · have key : ∀ (i : Nat), i < 3 → i ≠ j → (v i).ownBlock = some k → x.ownBlock ≠ some k := fun i hi hij hki hxk => by
      rcases hx k hxk with hh | hh
      · exact h.ap i j k hi hj hij hki hh
      · have := ((h.own i hi).lt k hki).2; omega
    by_cases e : i = j
    · subst e
      rw [upd_same] at hk
      rw [upd_other _ _ (fun hh => him hh.symm)] at hk2
      exact key m hm (fun hh => him hh.symm) hk2 hk
    · rw [upd_other _ _ e] at hk
      by_cases e2 : m = j
      · subst e2
        rw [upd_same] at hk2
        exact key i hi e hk hk2
      · rw [upd_other _ _ e2] at hk2
        exact h.ap i m k hi hm him hk hk2
  · have hs := hS k hk
    rcases mem_plBlocks.1 hm with rfl | ⟨i, hi, hki⟩
    · exact hs.2 (mem_plBlocks.2 (.inl rfl))
    · by_cases e : i = j
      · subst e
        rw [upd_same] at hki
        rcases hx k hki with hh | hh
        · exact hs.2 (mem_plBlocks.2 (.inr ⟨i, hi, hh⟩))
        · omega
      · rw [upd_other _ _ e] at hki
        exact hs.2 (mem_plBlocks.2 (.inr ⟨i, hi, hki⟩))
  · refine (QStep.upd u hb (fun k hk => ?_) (fun k hk => (hS k hk).1)).trans (QStep.upd u2 (Nat.le_trans hb u.size) (fun k hk => ?_) (fun k hk => Nat.lt_of_lt_of_le (hS k hk).1 u.size))
    · have hk' : (v j).ownBlock = some k := by simpa using hk
      exact ⟨((h.own j hj).lt k hk').1, fun hh => (hS k hh).2 (mem_plBlocks.2 (.inr ⟨j, hj, hk'⟩))⟩
    · simp at hk
      subst hk
      exact ⟨h.lo, fun hh => (hS k hh).2 (mem_plBlocks.2 (.inl rfl))⟩
theorem PV.congr {base : Nat} {W : World} {pb : Nat} {v v' : Nat → Value} {l l' : Nat → List Int} (h : PV base W pb v l) (hv : ∀ j, j < 3 → v' j = v j) (hl : ∀ j, j < 3 → l' j = l j) : PV base W pb v' l' :=
  ⟨by rw [hv 0 (by omega), hv 1 (by omega), hv 2 (by omega)]; exact h.blk, h.lo, fun j hj => by rw [hv j hj, hl j hj]; exact h.own j hj, fun j k hj hk => h.ne j k hj (by rwa [hv j hj] at hk),
   fun i j k hi hj hij hk => by rw [hv j hj]; rw [hv i hi] at hk; exact h.ap i j k hi hj hij hk⟩
theorem plBlocks_congr {pb : Nat} {v v' : Nat → Value} (hv : ∀ j, j < 3 → v' j = v j) : plBlocks pb v' = plBlocks pb v := by
  unfold plBlocks
  rw [hv 0 (by omega), hv 1 (by omega), hv 2 (by omega)]
/-- The places, and blocks beside them. -/
def PlAt (base : Nat) (W : World) (pb : Nat) (us ws os : List Int) (S : List Nat) : Prop := ∃ vu vw vo, PV base W pb (three vu vw vo) (three us ws os) ∧ base ≤ W.heap.size ∧ ∀ k ∈ S, k < W.heap.size ∧ k ∉ plBlocks pb (three vu vw vo)
/-- A gate, and the places beside it, and blocks beside both. -/
def Placed (base : Nat) (W : World) (gb : Nat) (g : Gt) (pb : Nat) (us ws os : List Int) (S : List Nat) : Prop :=
  ∃ vu vw vo, PV base W pb (three vu vw vo) (three us ws os) ∧ (∀ k ∈ S, k ∉ plBlocks pb (three vu vw vo)) ∧ GateAt base W gb g (plBlocks pb (three vu vw vo) ++ S)
theorem Placed.gate {base : Nat} {w : World} {gb : Nat} {g : Gt} {pb : Nat} {us ws os : List Int} {S : List Nat} (h : Placed base w gb g pb us ws os S) :
    ∃ T, GateAt base w gb g (T ++ S) ∧ ∀ (g' : Gt) (w' : World) (E : List Nat), GateAt base w' gb g' (E ++ (T ++ S)) → QStep base (T ++ S) w w' → (∀ k ∈ E, w.heap.size ≤ k) → Placed base w' gb g' pb us ws os (E ++ S) := by
  obtain ⟨vu, vw, vo, hp, hs, hg⟩ := h
  refine ⟨plBlocks pb (three vu vw vo), hg, fun g' w' E hg' st hE => ?_⟩
  obtain ⟨T', u, hT⟩ := st.asUpd
  refine ⟨vu, vw, vo, hp.away u (fun k hk hh => (hT _ hh).2 (List.mem_append_left _ hk)), fun k hk => ?_, hg'.sub (fun k hk => ?_)⟩
  · rcases List.mem_append.1 hk with hk | hk
    · intro hm; have := (hp.lt k hm).2; have := hE k hk; omega
    · exact hs k hk
  · simp only [List.mem_append] at hk ⊢
    rcases hk with h1 | h1 | h1
    · exact .inr (.inl h1)
    · exact .inl h1
    · exact .inr (.inr h1)
theorem GateAt.placed {base : Nat} {w : World} {gb : Nat} {g : Gt} {S : List Nat} (D : List Nat) (hg : GateAt base w gb g (D ++ S)) :
    ∃ T, (∀ k ∈ T ++ S, k < w.heap.size) ∧ (∀ k ∈ T, k ∉ D) ∧ ∀ (pb : Nat) (us ws os : List Int) (w' : World), PlAt base w' pb us ws os (T ++ S) → QStep base (T ++ S) w w' → Placed base w' gb g pb us ws os S := by
  have hlt := hg.lt
  obtain ⟨qb, lb, um, hg⟩ := hg
  obtain ⟨v1, hq1, hb, hS⟩ := hg.q
  have a1 := hg.ap.1
  have a2 := hg.ap.2.1
  have a3 := hg.ap.2.2
  refine ⟨gb :: lb :: um :: qBlocks qb v1, fun k hk => ?_, fun k hk => ?_, fun pb us ws os w' hp' st => ?_⟩
  · simp only [List.cons_append, List.mem_cons, List.mem_append] at hk
    rcases hk with rfl | rfl | rfl | hk | hk
    · exact hg.blk.lt
    · exact hg.lim.lt
    · exact hg.set.lt
    · exact hq1.may_lt (qBlocks_may.1 hk)
    · exact hlt k (List.mem_append_right _ hk)
  · simp only [List.mem_cons] at hk
    rcases hk with rfl | rfl | rfl | hk
    · exact fun hh => a1 (List.mem_append_left _ hh)
    · exact fun hh => a2 (List.mem_append_left _ hh)
    · exact fun hh => a3 (List.mem_append_left _ hh)
    · exact fun hh => (hS k (by simp [hh])).2 (qBlocks_may.1 hk)
  · obtain ⟨vu, vw, vo, hp2, hb2, hS2⟩ := hp'
    obtain ⟨T', u, hT⟩ := st.asUpd
    refine ⟨vu, vw, vo, hp2, fun k hk => (hS2 k (by simp [hk])).2, qb, lb, um, st.block (by simp) hg.blk, ⟨v1, hq1.away u (fun hh => (hT _ hh).2 ?_) (fun q k hq hk hh => (hT _ hh).2 ?_), hb2, fun k hk => ?_⟩, st.block (by simp) hg.lim, ?_, hg.gl, hg.gm, hg.lm, hg.low, ?_, ?_, ?_⟩
    · simp [qBlocks_may.2 (show QMay qb v1 qb from .inl rfl)]
    · simp [qBlocks_may.2 (show QMay qb v1 k from .inr ⟨q, hq, hk⟩)]
    · simp only [List.mem_cons, List.mem_append] at hk
      rcases hk with rfl | rfl | rfl | hk | hk
      · exact ⟨(hS2 _ (by simp)).1, (hS _ (by simp)).2⟩
      · exact ⟨(hS2 _ (by simp)).1, (hS _ (by simp)).2⟩
      · exact ⟨(hS2 _ (by simp)).1, (hS _ (by simp)).2⟩
      · exact ⟨(hp2.lt k hk).2, fun hm => (hS2 k (by simp [qBlocks_may.2 hm])).2 hk⟩
      · exact ⟨(hS2 _ (by simp [hk])).1, (hS _ (by simp [hk])).2⟩
    · exact hg.set.keep u (fun hh => (hT _ hh).2 (by simp))
    · intro hh
      rcases List.mem_append.1 hh with hh | hh
      · exact (hS2 gb (by simp)).2 hh
      · exact a1 (List.mem_append_right _ hh)
    · intro hh
      rcases List.mem_append.1 hh with hh | hh
      · exact (hS2 lb (by simp)).2 hh
      · exact a2 (List.mem_append_right _ hh)
    · intro hh
      rcases List.mem_append.1 hh with hh | hh
      · exact (hS2 um (by simp)).2 hh
      · exact a3 (List.mem_append_right _ hh)
theorem Placed.places {base : Nat} {w : World} {gb : Nat} {g : Gt} {pb : Nat} {us ws os : List Int} {S : List Nat} (h : Placed base w gb g pb us ws os S) :
    ∃ T, PlAt base w pb us ws os (T ++ S) ∧ ∀ (us' ws' os' : List Int) (w' : World), PlAt base w' pb us' ws' os' (T ++ S) → QStep base (T ++ S) w w' → Placed base w' gb g pb us' ws' os' S := by
  obtain ⟨vu, vw, vo, hp, hs, hg⟩ := h
  obtain ⟨T, hlt, hT, hk⟩ := hg.placed
  refine ⟨T, ⟨vu, vw, vo, hp, hg.base_le, fun k hk => ⟨hlt k hk, ?_⟩⟩, fun us' ws' os' w' => hk pb us' ws' os' w'⟩
  rcases List.mem_append.1 hk with h | h
  · exact hT k h
  · exact hs k h
end Go.Proofs.Ytklbnldkfohkpaa
