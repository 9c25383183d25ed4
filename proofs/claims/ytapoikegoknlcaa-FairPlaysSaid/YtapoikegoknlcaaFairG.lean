/- Layer 22: Len; a queue of one priority; the example. -/
import Derived.Test.YtapoikegoknlcaaFairF
namespace Go.Proofs.Ytapoikegoknlcaa
open Go.RowKit
theorem len_any (base b : Nat) (most n : Int) (v : Nat → Value) (r : Nat → Row) (w : World) (h : QAt w base b most n v r) :
    Calls Try.prog 13 #[.pointer (some ⟨b, 0, none⟩)] w fun e w' => e = .returned (.int .i64 n) ∧ w = w' := by
  have c := h.blk.cell 1 _ (qCs_most most n v r).2
  clear h
  go_enter Try.func13, Try.ntmps13
  go_wp2
  go_ret
  exact ⟨rfl, rfl⟩
/-- Only one row is not empty. -/
def oneRow (P : Nat) (l : List It) (tk : Bool) (last : Int) : Nat → Row := upd (fun _ => ⟨[], false, 0⟩) P ⟨l, tk, last⟩
theorem oneRow_same (P : Nat) (l : List It) (tk : Bool) (last : Int) : oneRow P l tk last P = ⟨l, tk, last⟩ := upd_same _ _ _
theorem oneRow_other {P q : Nat} (l : List It) (tk : Bool) (last : Int) (h : q ≠ P) : oneRow P l tk last q = ⟨[], false, 0⟩ := upd_other _ _ h
theorem oneRow_upd (P : Nat) (l m : List It) (tk tk' : Bool) (last last' : Int) : upd (oneRow P l tk last) P ⟨m, tk', last'⟩ = oneRow P m tk' last' := upd_twice _ _ _ _
theorem oneRow_nil (P : Nat) : (fun _ => ⟨[], false, 0⟩ : Nat → Row) = oneRow P [] false 0 := by
  funext q; unfold oneRow upd; split <;> rfl
theorem take_one {P : Nat} {l : List It} {tk : Bool} {last : Int} {r' : Nat → Row} {x : It} {is : Bool} (h : TakeIs (oneRow P l tk last) r' x is) (hP : P < 4) (hl : l ≠ []) :
    is = true ∧ ∃ (i : Nat) (f : Int), NextOk l tk last f ∧ l[i]? = some x ∧ x.flow = f ∧ (∀ (k : Nat) (y : It), k < i → l[k]? = some y → ¬ y.flow = f) ∧ r' = oneRow P (l.eraseIdx i) true f := by
  cases h with
  | none h0 => have := h0 P hP; rw [oneRow_same] at this; exact absurd this hl
  | some p i f x h1 h2 h3 h4 h5 h6 =>
    by_cases e : p = P
    · subst e
      rw [oneRow_same] at h3 h4 h6
      exact ⟨rfl, i, f, h3, h4, h5, h6, by rw [oneRow_same, oneRow_upd]⟩
    · rw [oneRow_other _ _ _ e] at h4; simp at h4
theorem take_nil {P : Nat} {tk : Bool} {last : Int} {r' : Nat → Row} {x : It} {is : Bool} (h : TakeIs (oneRow P [] tk last) r' x is) : is = false ∧ x = zeroIt ∧ r' = oneRow P [] tk last := by
  cases h with
  | none h0 => exact ⟨rfl, rfl, rfl⟩
  | some p i f x h1 h2 h3 h4 h5 h6 =>
    by_cases e : p = P
    · subst e; rw [oneRow_same] at h4; simp at h4
    · rw [oneRow_other _ _ _ e] at h4; simp at h4
def OnePut (base b : Nat) (most n : Int) (v : Nat → Value) (P : Nat) (l : List It) (tk : Bool) (last : Int) (x : It) (w : World) (e : Ending) (w' : World) : Prop :=
  e = .returned (.tuple #[zeroIt.val, .bool false]) ∧ (∃ v', QAt w' base b most (n + 1) v' (oneRow P (l ++ [x]) tk last) ∧ OwnFrom w v v') ∧ QUpd b v w w'
theorem put_one (base b : Nat) (most n : Int) (v : Nat → Value) (P : Nat) (l : List It) (tk : Bool) (last : Int) (x : It) (w : World) (h : QAt w base b most n v (oneRow P l tk last)) (hP : P < 4) (hx : x.prio = (P : Int)) (hn0 : 0 ≤ n) (hn : n + 1 ≤ most) (hm : most ≤ 1000000) (hl : (l.length : Int) ≤ 1000000) (hbw : base ≤ w.heap.size) :
    Calls Try.prog 12 #[.pointer (some ⟨b, 0, none⟩), x.val] w (OnePut base b most n v P l tk last x w) := by
  obtain ⟨xi, xp, xf⟩ := x
  dsimp only at hx
  subst hx
  refine (put_room base b most n v _ P xi xf w h hP hn0 hn hm (by rw [oneRow_same]; exact hl) hbw).mono ?_
  rintro e w' ⟨he, ⟨v', hq, ho⟩, hb⟩
  rw [oneRow_same, oneRow_upd] at hq
  exact ⟨he, ⟨v', hq, ho⟩, hb⟩
def OneTake (base b : Nat) (most n : Int) (v : Nat → Value) (P : Nat) (l : List It) (tk : Bool) (last : Int) (w : World) (e : Ending) (w' : World) : Prop :=
  ∃ (i : Nat) (f : Int) (x : It) (v' : Nat → Value), NextOk l tk last f ∧ l[i]? = some x ∧ x.flow = f ∧ (∀ (k : Nat) (y : It), k < i → l[k]? = some y → ¬ y.flow = f) ∧
    e = .returned (.tuple #[x.val, .bool true]) ∧ QAt w' base b most (n - 1) v' (oneRow P (l.eraseIdx i) true f) ∧ OwnFrom w v v' ∧ QUpd b v w w'
theorem take_oneRow (base b : Nat) (most n : Int) (v : Nat → Value) (P : Nat) (l : List It) (tk : Bool) (last : Int) (w : World) (h : QAt w base b most n v (oneRow P l tk last)) (hP : P < 4) (hl0 : l ≠ []) (hn0 : 1 ≤ n) (hn : n ≤ 1000000) (hl : (l.length : Int) ≤ 1000000) (hbw : base ≤ w.heap.size) :
    Calls Try.prog 14 #[.pointer (some ⟨b, 0, none⟩)] w (OneTake base b most n v P l tk last w) := by
  refine (take_any base b most n v _ w h (by omega) hn (fun q _ => ?_) (fun _ _ _ => hn0) hbw).mono ?_
  · by_cases e : q = P
    · subst e; rw [oneRow_same]; exact hl
    · rw [oneRow_other _ _ _ e]; simp
  · rintro e w' ⟨v', r', x, is, ht, he, hq, ho, hb⟩
    obtain ⟨rfl, i, f, h1, h2, h3, h4, rfl⟩ := take_one ht hP hl0
    exact ⟨i, f, x, v', h1, h2, h3, h4, he, by simpa using hq, ho, hb⟩
theorem take_oneNil (base b : Nat) (most : Int) (v : Nat → Value) (P : Nat) (tk : Bool) (last : Int) (w : World) (h : QAt w base b most 0 v (oneRow P [] tk last)) (hP : P < 4) (hbw : base ≤ w.heap.size) :
    Calls Try.prog 14 #[.pointer (some ⟨b, 0, none⟩)] w fun e w' => e = .returned (.tuple #[zeroIt.val, .bool false]) ∧ QUpd b v w w' := by
  refine (take_any base b most 0 v _ w h (by omega) (by omega) (fun q _ => ?_) (fun q _ hne => absurd ?_ hne) hbw).mono ?_
  · by_cases e : q = P
    · subst e; rw [oneRow_same]; simp
    · rw [oneRow_other _ _ _ e]; simp
  · by_cases e : q = P
    · subst e; rw [oneRow_same]
    · rw [oneRow_other _ _ _ e]
  · rintro e w' ⟨v', r', x, is, ht, he, hq, ho, hb⟩
    obtain ⟨rfl, rfl, rfl⟩ := take_nil ht
    exact ⟨he, hb⟩
end Go.Proofs.Ytapoikegoknlcaa
