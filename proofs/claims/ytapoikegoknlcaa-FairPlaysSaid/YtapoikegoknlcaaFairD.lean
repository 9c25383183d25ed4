/- Layer 22: a queue as a whole. -/
import Derived.Test.YtapoikegoknlcaaFairC
namespace Go.Proofs.Ytapoikegoknlcaa
open Go.RowKit
def upd {α : Type} (f : Nat → α) (p : Nat) (x : α) : Nat → α := fun q => if q = p then x else f q
theorem upd_same {α : Type} (f : Nat → α) (p : Nat) (x : α) : upd f p x p = x := by simp [upd]
theorem upd_other {α : Type} (f : Nat → α) {p q : Nat} (x : α) (h : q ≠ p) : upd f p x q = f q := by simp [upd, h]
def qCs (most n : Int) (v : Nat → Value) (r : Nat → Row) : List Value := qCells most n (v 0) (v 1) (v 2) (v 3) (r 0) (r 1) (r 2) (r 3)
theorem qCs_get (most n : Int) (v : Nat → Value) (r : Nat → Row) (p : Nat) (hp : p < 4) :
    (qCs most n v r)[2 + p * 3]? = some (v p) ∧ (qCs most n v r)[2 + p * 3 + 1]? = some (.bool (r p).taken) ∧ (qCs most n v r)[2 + p * 3 + 2]? = some (.int .i64 (r p).last) := by
  rcases (show p = 0 ∨ p = 1 ∨ p = 2 ∨ p = 3 by omega) with rfl | rfl | rfl | rfl <;> exact ⟨rfl, rfl, rfl⟩
theorem qCs_most (most n : Int) (v : Nat → Value) (r : Nat → Row) : (qCs most n v r)[0]? = some (.int .i64 most) ∧ (qCs most n v r)[1]? = some (.int .i64 n) := ⟨rfl, rfl⟩
theorem qCs_n (most n m : Int) (v : Nat → Value) (r : Nat → Row) : (qCs most n v r).set 1 (.int .i64 m) = qCs most m v r := rfl
theorem qCs_row (most n : Int) (v : Nat → Value) (r : Nat → Row) (p : Nat) (hp : p < 4) (u : Value) (it : List It) : (qCs most n v r).set (2 + p * 3) u = qCs most n (upd v p u) (upd r p ⟨it, (r p).taken, (r p).last⟩) := by
  rcases (show p = 0 ∨ p = 1 ∨ p = 2 ∨ p = 3 by omega) with rfl | rfl | rfl | rfl <;> rfl
theorem qCs_mark (most n : Int) (v : Nat → Value) (r : Nat → Row) (p : Nat) (hp : p < 4) (t : Bool) (f : Int) : ((qCs most n v r).set (2 + p * 3 + 1) (.bool t)).set (2 + p * 3 + 2) (.int .i64 f) = qCs most n v (upd r p ⟨(r p).items, t, f⟩) := by
  rcases (show p = 0 ∨ p = 1 ∨ p = 2 ∨ p = 3 by omega) with rfl | rfl | rfl | rfl <;> rfl
/-- The queue at block b: all of it lies in memory that is new since base. -/
structure QAt (W : World) (base b : Nat) (most n : Int) (v : Nat → Value) (r : Nat → Row) : Prop where
  blk : BlockAt W b 60 (qCs most n v r)
  lo : base ≤ b
  own : ∀ p, p < 4 → W.ownsRow base 27 3 (v p) (r p).items.length (cellsI (r p).items)
  ne : ∀ p g, p < 4 → (v p).ownBlock = some g → g ≠ b
  apart : ∀ p q g, p < 4 → q < 4 → p ≠ q → (v p).ownBlock = some g → (v q).ownBlock ≠ some g
theorem QAt.next {W W' : World} {base b : Nat} {most n : Int} {v : Nat → Value} {r : Nat → Row} (h : QAt W base b most n v r) (u : Upd [] W W') : QAt W' base b most n v r :=
  ⟨h.blk.keep u (by simp), h.lo, fun p hp => u.owns (h.own p hp) (by simp), h.ne, h.apart⟩
theorem QAt.away {W W' : World} {base b : Nat} {most n : Int} {v : Nat → Value} {r : Nat → Row} {S : List Nat} (h : QAt W base b most n v r) (u : Upd S W W') (hb : b ∉ S) (ho : ∀ q k, q < 4 → (v q).ownBlock = some k → k ∉ S) : QAt W' base b most n v r :=
  ⟨h.blk.keep u hb, h.lo, fun p hp => u.owns (h.own p hp) (fun k hk => ho p k hp hk), h.ne, h.apart⟩
/-- A row that is not empty lies in a block. -/
theorem QAt.row {W : World} {base b : Nat} {most n : Int} {v : Nat → Value} {r : Nat → Row} (h : QAt W base b most n v r) {p : Nat} (hp : p < 4) (hne : (r p).items ≠ []) :
    ∃ g cap junk, v p = .slice (some ⟨g, 0, none⟩) (r p).items.length cap ∧ BlockAt W g 27 (cellsI (r p).items ++ junk) ∧ (cellsI (r p).items ++ junk).length = cap * 3 ∧ cap ≤ maxLen ∧ base ≤ g := by
  rcases (h.own p hp).2 with ⟨-, h0⟩ | ⟨g, cap, cur, hv, hb, hg, hn, hm, hs, ht⟩
  · exact absurd (List.eq_nil_of_length_eq_zero h0) hne
  · refine ⟨g, cap, cur.toList.drop ((r p).items.length * 3), hv, ?_, ?_, hm, hb⟩
    · unfold BlockAt
      rw [← ht, List.take_append_drop]
      simpa using hg
    · rw [← ht, List.take_append_drop]; simpa using hs
theorem ownsRow_of {W : World} {base g cap : Nat} {l : List It} {junk : List Value} (hb : BlockAt W g 27 (cellsI l ++ junk)) (hl : (cellsI l ++ junk).length = cap * 3) (hm : cap ≤ maxLen) (hg : base ≤ g) :
    W.ownsRow base 27 3 (.slice (some ⟨g, 0, none⟩) l.length cap) l.length (cellsI l) := by
  have hc := cellsI_length l
  refine ⟨hc, .inr ⟨g, cap, (cellsI l ++ junk).toArray, rfl, hg, hb, ?_, hm, by simpa using hl, ?_⟩⟩
  · rw [List.length_append] at hl; omega
  · rw [← hc]; simp
/-- A row was written, and the queue's block. -/
theorem QAt.turn {W W' : World} {base b : Nat} {most n m : Int} {v : Nat → Value} {r : Nat → Row} (h : QAt W base b most n v r) {p g : Nat} (hp : p < 4) (hv : (v p).ownBlock = some g) (u : Upd [g, b] W W') {x : Value} {y : Row}
    (hb : BlockAt W' b 60 (qCs most m (upd v p x) (upd r p y))) (ho : W'.ownsRow base 27 3 x y.items.length (cellsI y.items)) (hx : x.ownBlock = some g) : QAt W' base b most m (upd v p x) (upd r p y) := by
  have hob : ∀ q, q < 4 → q ≠ p → (v q).ownBlock ≠ some g := fun q hq hqp hh => h.apart p q g hp hq (Ne.symm hqp) hv hh
  refine ⟨hb, h.lo, fun q hq => ?_, fun q k hq hk => ?_, fun q s k hq hs hqs hk => ?_⟩
  · by_cases e : q = p
    · subst e; rw [upd_same, upd_same]; exact ho
    · rw [upd_other _ _ e, upd_other _ _ e]
      refine u.owns (h.own q hq) (fun k hk => ?_)
      simp
      exact ⟨fun hkg => hob q hq e (by rw [hk, hkg]), h.ne q k hq hk⟩
  · by_cases e : q = p
    · subst e; rw [upd_same] at hk; rw [hx] at hk; cases hk; exact h.ne q g hq hv
    · rw [upd_other _ _ e] at hk; exact h.ne q k hq hk
  · by_cases e : q = p
    · subst e; rw [upd_same, hx] at hk; cases hk
      rw [upd_other _ _ (Ne.symm hqs)]
      exact hob s hs (Ne.symm hqs)
    · rw [upd_other _ _ e] at hk
      by_cases e2 : s = p
      · subst e2; rw [upd_same, hx]; intro hh; cases hh; exact hob q hq e hk
      · rw [upd_other _ _ e2]; exact h.apart q s k hq hs hqs hk
/-- A row was appended to. -/
theorem QAt.put {W W1 : World} {base b : Nat} {most n : Int} {v : Nat → Value} {r : Nat → Row} (h : QAt W base b most n v r) {p : Nat} (hp : p < 4) (u : Upd (v p).ownBlock.toList W W1) {x : Value} {it : List It} {g' : Nat}
    (ho : W1.ownsRow base 27 3 x it.length (cellsI it)) (hx : x.ownBlock = some g') (hg : (v p).ownBlock = some g' ∨ W.heap.size ≤ g') :
    QAt (W1.setCell ⟨b, 2 + p * 3, none⟩ x) base b most n (upd v p x) (upd r p ⟨it, (r p).taken, (r p).last⟩) := by
  have hbl := h.blk.lt
  have hgb : g' ≠ b := by
    rcases hg with hg | hg
    · exact h.ne p g' hp hg
    · omega
  have hb1 : BlockAt W1 b 60 (qCs most n v r) := h.blk.keep u (by simp; intro hh; exact h.ne p b hp hh rfl)
  have us : Upd [b] W1 (W1.setCell ⟨b, 2 + p * 3, none⟩ x) := Upd.setCell' _ _ _ (by simp)
  have hq : ∀ q k, q < 4 → q ≠ p → (v q).ownBlock = some k → k ≠ g' := fun q k hq hqp hk he => by
    subst he
    rcases hg with hg | hg
    · exact h.apart p q k hp hq (Ne.symm hqp) hg hk
    · have := (h.own q hq).lt k hk; omega
  refine ⟨?_, h.lo, fun q hq4 => ?_, fun q k hq4 hk => ?_, fun q s k hq4 hs4 hqs hk => ?_⟩
  · rw [← qCs_row most n v r p hp x it]; exact hb1.set _ _
  · by_cases e : q = p
    · subst e; rw [upd_same, upd_same]
      exact us.owns ho (fun k hk => by rw [hx] at hk; cases hk; simp; exact hgb)
    · rw [upd_other _ _ e, upd_other _ _ e]
      refine us.owns (u.owns (h.own q hq4) (fun k hk => ?_)) (fun k hk => by simp; exact h.ne q k hq4 hk)
      simp
      exact fun hh => h.apart p q k hp hq4 (Ne.symm e) hh hk
  · by_cases e : q = p
    · subst e; rw [upd_same, hx] at hk; cases hk; exact hgb
    · rw [upd_other _ _ e] at hk; exact h.ne q k hq4 hk
  · by_cases e : q = p
    · subst e; rw [upd_same, hx] at hk; cases hk
      rw [upd_other _ _ (Ne.symm hqs)]
      exact fun hh => hq s g' hs4 (Ne.symm hqs) hh rfl
    · rw [upd_other _ _ e] at hk
      by_cases e2 : s = p
      · subst e2; rw [upd_same, hx]; intro hh; cases hh; exact hq q g' hq4 e hk rfl
      · rw [upd_other _ _ e2]; exact h.apart q s k hq4 hs4 hqs hk
theorem QAt.count {W : World} {base b : Nat} {most n : Int} {v : Nat → Value} {r : Nat → Row} (h : QAt W base b most n v r) (m : Int) : QAt (W.setCell ⟨b, 1, none⟩ (.int .i64 m)) base b most m v r :=
  ⟨by rw [← qCs_n most n m v r]; exact h.blk.set 1 _, h.lo, fun p hp => (Upd.setCell W ⟨b, 1, none⟩ _).owns (h.own p hp) (fun k hk => by simp; exact h.ne p k hp hk), h.ne, h.apart⟩
/-- The blocks that a queue's functions may write. -/
def QMay (b : Nat) (v : Nat → Value) (k : Nat) : Prop := k = b ∨ ∃ q, q < 4 ∧ (v q).ownBlock = some k
def QUpd (b : Nat) (v : Nat → Value) (w w' : World) : Prop := ∃ S, Upd S w w' ∧ ∀ k ∈ S, QMay b v k
theorem QUpd.refl (b : Nat) (v : Nat → Value) (w : World) : QUpd b v w w := ⟨[], Upd.refl _ _, by simp⟩
theorem QUpd.step {b : Nat} {v : Nat → Value} {w w1 w2 : World} {T : List Nat} (h : QUpd b v w w1) (u : Upd T w1 w2) (ht : ∀ k ∈ T, QMay b v k ∨ w.heap.size ≤ k) : QUpd b v w w2 := by
  obtain ⟨S, hs, hm⟩ := h
  refine ⟨S ++ T.filter (fun k => decide (k < w.heap.size)), (hs.mono (by intro k hk; simp [hk])).trans' u (fun k hk => ?_), fun k hk => ?_⟩
  · by_cases e : k < w.heap.size
    · exact .inl (by simp [hk, e])
    · exact .inr (by omega)
  · rcases List.mem_append.1 hk with hk | hk
    · exact hm k hk
    · simp at hk
      rcases ht k hk.1 with hh | hh
      · exact hh
      · omega
theorem QUpd.size {b : Nat} {v : Nat → Value} {w w' : World} (h : QUpd b v w w') : w.heap.size ≤ w'.heap.size := by
  obtain ⟨S, hs, -⟩ := h; exact hs.size
theorem QUpd.below {base b : Nat} {v : Nat → Value} {w w' : World} (h : QUpd b v w w') (hw : base ≤ w.heap.size) (hb : base ≤ b) (ho : ∀ q k, q < 4 → (v q).ownBlock = some k → base ≤ k) : Below base w w' := by
  obtain ⟨S, hs, hm⟩ := h
  refine hs.below hw (fun k hk => ?_)
  rcases hm k hk with rfl | ⟨q, hq, hk⟩
  · exact hb
  · exact ho q k hq hk
/-- A block that is none of the queue's is as it was. -/
theorem QUpd.block {b : Nat} {v : Nat → Value} {w w' : World} (h : QUpd b v w w') {s : Nat} {t : TypeId} {cs : List Value} (hs : BlockAt w s t cs) (hn : ¬ QMay b v s) : BlockAt w' s t cs := by
  obtain ⟨S, hu, hm⟩ := h
  exact hs.keep hu (fun hk => hn (hm s hk))
def OwnFrom (w : World) (v v' : Nat → Value) : Prop := ∀ q k, q < 4 → (v' q).ownBlock = some k → (∃ q', q' < 4 ∧ (v q').ownBlock = some k) ∨ w.heap.size ≤ k
theorem OwnFrom.may {w : World} {b : Nat} {v v' : Nat → Value} (h : OwnFrom w v v') {s : Nat} (hs : s < w.heap.size) (hn : ¬ QMay b v s) : ¬ QMay b v' s := by
  rintro (rfl | ⟨q, hq, hk⟩)
  · exact hn (.inl rfl)
  · rcases h q s hq hk with ⟨q', hq', hk'⟩ | hh
    · exact hn (.inr ⟨q', hq', hk'⟩)
    · omega
theorem newQ_at (most : Int) (base : Nat) (w : World) (hb : base ≤ w.heap.size) : Calls Try.prog 10 #[.int .i64 most] w fun e w' =>
    e = .returned (.pointer (some ⟨w.heap.size, 0, none⟩)) ∧ QAt w' base w.heap.size most 0 (fun _ => .slice none 0 0) (fun _ => ⟨[], false, 0⟩) ∧ Below w.heap.size w w' :=
  (newQ_any most w).mono fun e w' ⟨he, hq, hbl⟩ => ⟨he, ⟨hq, hb, fun p hp => World.ownsRow_nil _ _ _ _, fun p g hp h => by simp [Value.ownBlock] at h, fun p q g hp hq hne h => by simp [Value.ownBlock] at h⟩, hbl⟩
end Go.Proofs.Ytapoikegoknlcaa
