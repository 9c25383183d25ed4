/- Layer 22: rows by their priorities, and how many there are. -/
import Derived.Test.YtklbnldkfohkpaaFairM
namespace Go.Proofs.Ytklbnldkfohkpaa
open Go.RowKit
def totN (r : Nat → Row) : Nat := (r 0).items.length + (r 1).items.length + (r 2).items.length + (r 3).items.length
theorem tot_upd {r : Nat → Row} {p : Nat} (hp : p < 4) (y : Row) : totN (upd r p y) + (r p).items.length = totN r + y.items.length := by
  unfold totN
  rcases (show p = 0 ∨ p = 1 ∨ p = 2 ∨ p = 3 by omega) with rfl | rfl | rfl | rfl <;> simp [upd] <;> omega
theorem tot_row {r : Nat → Row} {p : Nat} (hp : p < 4) : (r p).items.length ≤ totN r := by
  unfold totN
  rcases (show p = 0 ∨ p = 1 ∨ p = 2 ∨ p = 3 by omega) with rfl | rfl | rfl | rfl <;> omega
structure RowsOk (r : Nat → Row) (n : Int) : Prop where
  prio : ∀ p, p < 4 → ∀ x ∈ (r p).items, x.prio = (p : Int)
  tot : n = (totN r : Int)
theorem RowsOk.nil : RowsOk (fun _ => ⟨[], false, 0⟩) 0 := ⟨fun p _ x hx => (by cases hx), rfl⟩
theorem RowsOk.row {r : Nat → Row} {n : Int} (h : RowsOk r n) {p : Nat} (hp : p < 4) : ((r p).items.length : Int) ≤ n := by
  have := tot_row (r := r) hp; have := h.tot; omega
theorem RowsOk.ne {r : Nat → Row} {n : Int} (h : RowsOk r n) {p : Nat} (hp : p < 4) (hne : (r p).items ≠ []) : 1 ≤ n := by
  have := h.row hp; have := List.length_pos_iff.2 hne; omega
theorem RowsOk.erase {r : Nat → Row} {n : Int} (h : RowsOk r n) {p i : Nat} {x : It} (hp : p < 4) (hx : (r p).items[i]? = some x) (tk : Bool) (last : Int) : RowsOk (upd r p ⟨(r p).items.eraseIdx i, tk, last⟩) (n - 1) := by
  have hil := (List.getElem?_eq_some_iff.1 hx).1
  refine ⟨fun q hq y hy => ?_, ?_⟩
  · by_cases e : q = p
    · subst e; rw [upd_same] at hy; exact h.prio q hq y (List.mem_of_mem_eraseIdx hy)
    · rw [upd_other _ _ e] at hy; exact h.prio q hq y hy
  · have := tot_upd (r := r) hp ⟨(r p).items.eraseIdx i, tk, last⟩
    dsimp only at this
    rw [List.length_eraseIdx, if_pos hil] at this
    have := h.tot
    omega
theorem RowsOk.add {r : Nat → Row} {n : Int} (h : RowsOk r n) {p : Nat} {x : It} (hp : p < 4) (hx : x.prio = (p : Int)) : RowsOk (addIt r p x) (n + 1) := by
  refine ⟨fun q hq y hy => ?_, ?_⟩
  · unfold addIt at hy
    by_cases e : q = p
    · subst e; rw [upd_same] at hy
      rcases List.mem_append.1 hy with hy | hy
      · exact h.prio q hq y hy
      · simp at hy; subst hy; exact hx
    · rw [upd_other _ _ e] at hy; exact h.prio q hq y hy
  · have := tot_upd (r := r) hp ⟨(r p).items ++ [x], (r p).taken, (r p).last⟩
    simp at this
    have := h.tot
    unfold addIt; omega
theorem RowsOk.shed {r r' : Nat → Row} {n : Int} {y : It} (h : RowsOk r n) (hs : ShedIs r r' y) : RowsOk r' (n - 1) ∧ (∃ p : Nat, p < 4 ∧ y.prio = (p : Int) ∧ ∀ q, q < p → (r q).items = []) := by
  cases hs with
  | some p i f x h1 h2 h3 h4 h5 h6 => exact ⟨h.erase h1 h4 _ _, p, h1, h.prio p h1 _ (List.mem_of_getElem? h4), h2⟩
theorem RowsOk.put {most n n' : Int} {r r' : Nat → Row} {p : Nat} {x y : It} {is : Bool} (h : RowsOk r n) (hp : p < 4) (hx : x.prio = (p : Int)) (hput : PutIs most n r p x r' n' y is) : RowsOk r' n' := by
  cases hput with
  | room hr => exact h.add hp hx
  | over r' y ho hs => have := ((h.add hp hx).shed hs).1; simpa using this
theorem RowsOk.take {n : Int} {r r' : Nat → Row} {x : It} {is : Bool} (h : RowsOk r n) (ht : TakeIs r r' x is) : RowsOk r' (if is then n - 1 else n) := by
  cases ht with
  | none h0 => simpa using h
  | some p i f x h1 h2 h3 h4 h5 h6 => simpa using h.erase h1 h4 _ _
theorem RowsOk.drop {n : Int} {r r' : Nat → Row} {id : Int} {is : Bool} (h : RowsOk r n) (hd : DropIs r id r' is) : RowsOk r' (if is then n - 1 else n) := by
  cases hd with
  | none h0 => simpa using h
  | some p i h1 h2 h3 =>
    obtain ⟨x, hx, -⟩ := h3.1
    simpa using h.erase h1 hx _ _
end Go.Proofs.Ytklbnldkfohkpaa
