/- A slice of bools that comes in: opened as one list. (After the library's law for a slice of strings.) -/
import Derived.Test.YtjiclgebhndljaaBase
import Derived.ChangeSlices
import Derived.ChangeArms
namespace Go.Proofs.Ytjiclgebhndljaa
open Go.RowKit Go.ChangeShapes Go.WideShapes
/-- A slice of bools that is only read. -/
def BoolsIn (w : World) (v : Value) (bs : List Bool) : Prop :=
  ∃ a cap, v = .slice a bs.length cap ∧ bs.length ≤ 9223372036854775807 ∧ (bs = [] ∨ ∃ b off, a = some ⟨b, off, none⟩ ∧ ∀ j x, bs[j]? = some x → w.cell? ⟨b, off + j, none⟩ = some (.bool x))
theorem BoolsIn.keep {S : List Nat} {w w' : World} {v : Value} {bs : List Bool} (h : BoolsIn w v bs) (u : Upd S w w') (hs : ∀ k ∈ S, w.heap.size ≤ k) : BoolsIn w' v bs := by
  obtain ⟨a, cap, rfl, hl, h⟩ := h
  refine ⟨a, cap, rfl, hl, ?_⟩
  rcases h with h | ⟨b, off, rfl, hc⟩
  · exact .inl h
  · refine .inr ⟨b, off, rfl, fun j x hx => u.cell (hc j x hx) (fun hm => ?_)⟩
    have := hs _ hm
    have := World.block_lt_of_cell? w _ (hc j x hx)
    omega
theorem BoolsIn.cell {w : World} {a : Option Addr} {n cap : Nat} {bs : List Bool} (h : BoolsIn w (.slice a n cap) bs) {j : Nat} {x : Bool} (hx : bs[j]? = some x) :
    ∃ b off, a = some ⟨b, off, none⟩ ∧ w.cell? ⟨b, off + j, none⟩ = some (.bool x) := by
  obtain ⟨a', cap', he, -, hc⟩ := h
  cases he
  rcases hc with hc | ⟨b, off, rfl, hc⟩
  · subst hc; simp at hx
  · exact ⟨b, off, rfl, hc j x hx⟩
section
variable {H : Type} {enc : TypeId × Value → H} {P : Program} {w : World} {base : Nat} {spare : Nat → Bool} {held : Bool}
theorem boolsIn_of {t e : TypeId} {fuel : Nat} {v : Value} {x : DataW H × List MemPlace} (ht : P.underlying t = some (.slice e)) (he : P.underlying e = some .bool) (hc : P.cellsOf e = 1)
    (h : DataW.trod enc P w base spare held fuel t [v] = some x) : ∃ bs, BoolsIn w v bs := by
  rcases DataW.trod_slice ht h with ⟨h0, _⟩ | ⟨a, len, cap, elems, rest, n, _, hv, rfl, hb, hl, hm, hlen, hel, hsp, hns⟩
  · simp at h0
    subst h0
    exact ⟨[], none, 0, rfl, by simp, .inl rfl⟩
  · simp at hv
    subst hv
    have each : ∀ i, i < len → ∃ y : Bool, w.cell? (a.add i) = some (.bool y) := by
      intro i hi
      have hb' := hel i hi
      cases hy : elems[i]? with
      | none =>
        have := List.getElem?_eq_none_iff.1 hy
        omega
      | some y =>
        rw [hy, hc, Nat.mul_one, Option.bind_eq_some_iff] at hb'
        obtain ⟨cs', hcs, hy'⟩ := hb'
        obtain ⟨m, rfl, -⟩ := DataW.trod_bool he hy'
        exact ⟨m, cell_of_cells?_one hcs⟩
    refine ⟨(List.range len).map (fun i => match w.cell? (a.add i) with | some (.bool y) => y | _ => false), some a, cap, by simp, by unfold maxLen at hm; simp; omega, ?_⟩
    by_cases h0 : len = 0
    · subst h0; exact .inl rfl
    · obtain ⟨y0, c0⟩ := each 0 (by omega)
      obtain ⟨b, off, spot⟩ := a
      have hs : spot = none := by
        cases spot with
        | none => rfl
        | some s =>
          simp only [Addr.add, if_true, World.cell?] at c0
          split at c0 <;> simp at c0
      subst hs
      refine .inr ⟨b, off, rfl, fun j z hz => ?_⟩
      rw [List.getElem?_map, Option.map_eq_some_iff] at hz
      obtain ⟨i, hi, rfl⟩ := hz
      obtain ⟨hil, rfl⟩ := List.getElem?_eq_some_iff.1 hi
      simp at hil
      obtain ⟨y, hy⟩ := each j hil
      rw [Addr.add_lit] at hy
      simp only [List.getElem_range, Addr.add_lit, hy]
end
end Go.Proofs.Ytjiclgebhndljaa
