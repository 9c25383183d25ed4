/- Ranging over a map whose iterator lies anywhere. -/
import Derived.Test.YtfmgcnmikopgeaaOutA
namespace Go.Proofs.Ytfmgcnmikopgeaa
open Go.RowKit
def IterAt (W : World) (it bm clock : Nat) (seen : Array Nat) : Prop := W.heap[it]? = some (.mapIter (some bm) clock seen clock)
theorem IterAt.keep {T : List Nat} {W W' : World} {it bm clock : Nat} {seen : Array Nat} (h : IterAt W it bm clock seen) (u : Upd T W W') (hs : it ∉ T) : IterAt W' it bm clock seen := Upd.keep u h hs
theorem range_at {P : Program} {W : World} {t K E : TypeId} {bm : Nat} {es : List MapEntry} {clock : Nat} (ht : P.underlying t = some (.map K E)) (hm : MapAt W bm es clock) :
    (Instr.range t (.map (some bm))).run P W = .ok (.pointer (some ⟨W.heap.size, 0, none⟩)) (W.alloc (.mapIter (some bm) clock #[] clock)) := run_range_map W t K E bm es.toArray clock ht hm
theorem next_at {P : Program} {W : World} {it bm clock : Nat} {seen : Array Nat} {es : List MapEntry} (hit : IterAt W it bm clock seen) (hm : MapAt W bm es clock) (hold : ∀ e ∈ es, e.born < clock) :
    ((leftOf es.toArray seen).size = 0 ∧ ∀ ty, (Instr.next (.pointer (some ⟨it, 0, none⟩)) false ty).run P W = .ok (.tuple #[.bool false]) W) ∨
    ∃ e ∈ (leftOf es.toArray seen).toList, ∃ W', IterAt W' it bm clock (seen.push e.born) ∧ Upd [it] W W' ∧ W'.heap.size = W.heap.size ∧ ∀ ty, (Instr.next (.pointer (some ⟨it, 0, none⟩)) false ty).run P W = .ok (.tuple #[.bool true, e.key, e.val]) W' := by
  unfold IterAt at hit
  unfold MapAt at hm
  simp only [Instr.next, getObj, Sem.run_bind, Sem.run, hit, hm, Result.andThen, next_test_false seen es.toArray clock clock (by simpa using hold) (Nat.le_refl _), Bool.false_eq_true, if_false]
  unfold leftOf
  have hmem : ∀ x ∈ (Array.filter (fun e => !seen.contains e.born) es.toArray).toList, x.born < clock := fun x hx => hold x (by simp at hx; exact hx.1)
  generalize Array.filter (fun e => !seen.contains e.born) es.toArray = L at hmem ⊢
  have e1 : L.filter (fun x => decide (x.born < clock)) = L := Array.filter_eq_self.2 (fun x hx => by simpa using hmem x (by simpa using hx))
  have e2 : L.filter (fun x => decide (x.born ≥ clock)) = #[] := by
    rw [Array.filter_eq_empty_iff]
    intro x hx
    have := hmem x (by simpa using hx)
    simp
    omega
  simp only [e1, e2, Array.append_empty]
  by_cases h0 : L.size = 0
  · left
    obtain rfl : L = #[] := Array.eq_empty_of_size_eq_zero h0
    refine ⟨rfl, fun _ => ?_⟩
    simp [choose, Sem.run, Question.forced]
  · right
    have hne : L.isEmpty = false := by simp [Array.isEmpty, h0]
    simp only [hne, Bool.false_eq_true, if_false, Array.empty_append, Array.size_map]
    obtain ⟨j, w1, hj, hw1, hs1, hrun⟩ : ∃ (j : Nat) (w1 : World), j < L.size ∧ Upd [] W w1 ∧ w1.heap = W.heap ∧ (choose (Question.mapNext L.size)).run P W = .ok j w1 := by
      by_cases hf : L.size ≤ 1
      · exact ⟨0, W, by omega, Upd.refl _ _, rfl, by simp [choose, Sem.run, Question.forced, hf]⟩
      · exact ⟨_, W.drew, Nat.mod_lt _ (by omega), Upd.drew _ _, rfl, by
          simp only [choose, Sem.run, Question.forced, decide_eq_true_eq, hf, if_false, Question.cut]
          rfl⟩
    have hit1 : w1.heap[it]? = some (.mapIter (some bm) clock seen clock) := by rw [hs1]; exact hit
    have hlt := lt_of_some hit1
    have hset : (setObj it (.mapIter (some bm) clock (seen.push (L[j]).born) clock)).run P w1 = .ok () (setObjW w1 it (.mapIter (some bm) clock (seen.push (L[j]).born) clock)) := by
      simp only [setObj, Sem.run, hit1]
      rfl
    refine ⟨L[j], by simp, setObjW w1 it (.mapIter (some bm) clock (seen.push (L[j]).born) clock), setObjW_at _ hlt, hw1.nil_trans (setObjW_upd _ _ _), by rw [← hs1]; simp [setObjW], fun _ => ?_⟩
    simp only [hrun, Array.getElem?_map, Array.getElem?_eq_getElem hj, Option.map_some, Sem.run_bind, hset, Result.andThen]
    rfl
theorem entry_at {P : Program} {W : World} {it bm clock : Nat} {seen : Array Nat} {es : List MapEntry} {e : MapEntry} (hit : IterAt W it bm clock (seen.push e.born)) (hm : MapAt W bm es clock) (he : e ∈ es) (hn : (es.map (·.born)).Nodup) :
    (Instr.entry (.pointer (some ⟨it, 0, none⟩))).run P W = .ok (.tuple #[e.key, e.val]) W := by
  unfold IterAt at hit
  unfold MapAt at hm
  have hf : es.toArray.find? (·.born == e.born) = some e := by rw [← Array.find?_toList]; exact find_born e es hn he
  simp only [Instr.entry, getObj, Sem.run_bind, Sem.run, hit, hm, Result.andThen, Array.back?_push, bne_self_eq_false, Bool.false_eq_true, if_false, hf]
  rfl
/-- The places that have been handed out. -/
def seenF (es : List MapEntry) (seen : Array Nat) (p : Nat → Bool) : List Nat := (List.range es.length).filter (fun i => ((es[i]?).map (fun e => seen.contains e.born)).getD false && p i)
theorem seenF_none (es : List MapEntry) (p : Nat → Bool) : seenF es #[] p = [] := by
  unfold seenF
  rw [List.filter_eq_nil_iff]
  intro i hi
  rw [List.mem_range] at hi
  simp [hi]
theorem filter_more {l : List Nat} (hn : l.Nodup) {p q : Nat → Bool} {i : Nat} (hi : i ∈ l) (hp : p i = false) (hq : ∀ j, q j = (decide (j = i) || p j)) : (l.filter q).Perm (l.filter p ++ [i]) := by
  induction l with
  | nil => cases hi
  | cons a l ih =>
    rw [List.nodup_cons] at hn
    rcases List.mem_cons.1 hi with e | hi
    · subst e
      have hne : ∀ j ∈ l, q j = p j := fun j hj => by
        have : j ≠ i := fun e => hn.1 (by rw [← e]; exact hj)
        rw [hq]; simp [this]
      rw [List.filter_cons, List.filter_cons, if_pos (by rw [hq]; simp), if_neg (by simp [hp]), List.filter_congr hne]
      exact (List.perm_append_singleton i _).symm
    · have ha : a ≠ i := fun e => hn.1 (by rw [e]; exact hi)
      rw [List.filter_cons, List.filter_cons, hq]
      by_cases hpa : p a = true
      · rw [if_pos (by simp [hpa]), if_pos hpa]
        exact (ih hn.2 hi).cons a
      · rw [if_neg (by simp [ha, hpa]), if_neg hpa]
        exact ih hn.2 hi
theorem seenF_push {es : List MapEntry} {seen : Array Nat} {e : MapEntry} (hn : (es.map (·.born)).Nodup) (he : e ∈ (leftOf es.toArray seen).toList) (p : Nat → Bool) :
    ∃ i, es[i]? = some e ∧ (seenF es (seen.push e.born) p).Perm (seenF es seen p ++ if p i = true then [i] else []) := by
  have h1 := mem_left he
  have h1' : e ∈ es := by simpa using h1.1
  obtain ⟨i, hi⟩ := List.getElem?_of_mem h1'
  refine ⟨i, hi, ?_⟩
  have hil := (List.getElem?_eq_some_iff.1 hi).1
  have hb : ∀ (j : Nat) (x : MapEntry), es[j]? = some x → (x.born == e.born) = decide (j = i) := fun j x hx => by
    by_cases e1 : j = i
    · subst e1; rw [hi] at hx; cases hx; simp
    · rw [decide_eq_false e1, beq_eq_false_iff_ne]
      intro hb
      have h3 := List.getElem?_map (f := (·.born)) (l := es) (i := j)
      have h4 := List.getElem?_map (f := (·.born)) (l := es) (i := i)
      rw [hx] at h3
      rw [hi] at h4
      obtain ⟨a1, a2⟩ := List.getElem?_eq_some_iff.1 h3
      obtain ⟨b1, b2⟩ := List.getElem?_eq_some_iff.1 h4
      exact e1 ((List.getElem_inj hn).1 (by rw [a2, b2]; simpa using hb))
  unfold seenF
  by_cases hp : p i = true
  · rw [if_pos hp]
    refine filter_more List.nodup_range (List.mem_range.2 hil) ?_ (fun j => ?_)
    · rw [hi]; simp only [Option.map_some, Option.getD_some, h1.2, Bool.false_and]
    · cases hj : es[j]? with
      | none =>
        have : j ≠ i := fun e1 => by rw [e1, hi] at hj; cases hj
        simp [this]
      | some x =>
        simp only [Option.map_some, Option.getD_some, contains_push, hb j x hj]
        by_cases e1 : j = i
        · subst e1; simp [hp]
        · simp [e1]
  · rw [if_neg hp, List.append_nil]
    refine List.Perm.of_eq (List.filter_congr (fun j _ => ?_))
    cases hj : es[j]? with
    | none => rfl
    | some x =>
      simp only [Option.map_some, Option.getD_some, contains_push, hb j x hj]
      by_cases e1 : j = i
      · subst e1; simp [hp]
      · simp [e1]
theorem seenF_all {es : List MapEntry} {seen : Array Nat} (h : (leftOf es.toArray seen).size = 0) (p : Nat → Bool) : seenF es seen p = (List.range es.length).filter p := by
  unfold seenF
  refine List.filter_congr (fun i hi => ?_)
  rw [List.mem_range] at hi
  have := all_seen es.toArray seen h es[i] (by simp)
  rw [List.getElem?_eq_getElem hi]
  simp only [Option.map_some, Option.getD_some, this, Bool.true_and]
end Go.Proofs.Ytfmgcnmikopgeaa
