/- An array of six integers by value: taken apart, and put together. (After the library's law for an array of three.) -/
import Derived.Test.YtphdpdmkoogkkaaBase
import Derived.ChangeSame
import Derived.WideKeyArr2
import Derived.Laws.IdiomArrays
namespace Go.Proofs.Ytphdpdmkoogkkaa
open Go.RowKit Go.ChangeShapes Go.WideShapes
theorem six_cells {xs : Array Value} (h : xs.size = 6) : ∃ a b c d e f, xs = #[a, b, c, d, e, f] := by
  obtain ⟨l⟩ := xs
  match l, h with
  | [a, b, c, d, e, f], _ => exact ⟨a, b, c, d, e, f, rfl⟩
theorem okWide_six {P : Program} {W : World} {k e : TypeId} {r : Reach} {b0 : Nat} {v : Value} (ht : P.underlying k = some (.array 6 e)) (hC : P.cellsOf k = 6) (h : Value.okWide P W r b0 k v) : ∃ xs : Array Value, v = .agg xs ∧ xs.size = 6 := by
  simp only [Value.okWide, ht] at h
  obtain ⟨cs, h1, h2, _⟩ := h
  exact ⟨cs, h1, by rw [h2, hC]⟩
section
variable {H : Type} {enc : TypeId × Value → H} {P : Program} {w : World} {base : Nat} {spare : Nat → Bool} {held : Bool}
theorem trod_array6 {t e : TypeId} {fuel : Nat} {c0 c1 c2 c3 c4 c5 : Value} {x : DataW H × List MemPlace} (ht : P.underlying t = some (.array 6 e)) (hce : P.cellsOf e = 1)
    (h : DataW.trod enc P w base spare held fuel t [c0, c1, c2, c3, c4, c5] = some x) :
    ∃ y0 y1 y2 y3 y4 y5 n, x = (.agg [y0.1, y1.1, y2.1, y3.1, y4.1, y5.1], y0.2 ++ (y1.2 ++ (y2.2 ++ (y3.2 ++ (y4.2 ++ y5.2))))) ∧ DataW.trod enc P w base spare held n e [c0] = some y0 ∧ DataW.trod enc P w base spare held n e [c1] = some y1 ∧ DataW.trod enc P w base spare held n e [c2] = some y2 ∧ DataW.trod enc P w base spare held n e [c3] = some y3 ∧ DataW.trod enc P w base spare held n e [c4] = some y4 ∧ DataW.trod enc P w base spare held n e [c5] = some y5 := by
  cases fuel with
  | zero => simp [DataW.trod] at h
  | succ n =>
    unfold DataW.trod at h
    rw [ht] at h
    have r6 : List.range 6 = [0, 1, 2, 3, 4, 5] := rfl
    simp [r6, hce] at h
    obtain ⟨_, h⟩ := h
    cases h0 : DataW.trod enc P w base spare held n e [c0] with
    | none => simp [h0] at h
    | some y0 =>
      cases h1 : DataW.trod enc P w base spare held n e [c1] with
      | none => simp [h0, h1] at h
      | some y1 =>
        cases h2 : DataW.trod enc P w base spare held n e [c2] with
        | none => simp [h0, h1, h2] at h
        | some y2 =>
          cases h3 : DataW.trod enc P w base spare held n e [c3] with
          | none => simp [h0, h1, h2, h3] at h
          | some y3 =>
            cases h4 : DataW.trod enc P w base spare held n e [c4] with
            | none => simp [h0, h1, h2, h3, h4] at h
            | some y4 =>
              cases h5 : DataW.trod enc P w base spare held n e [c5] with
              | none => simp [h0, h1, h2, h3, h4, h5] at h
              | some y5 =>
                simp [h0, h1, h2, h3, h4, h5] at h
                exact ⟨y0, y1, y2, y3, y4, y5, n, h.symm, h0, h1, h2, h3, h4, h5⟩
theorem shut_six {t e : TypeId} {c0 c1 c2 c3 c4 c5 : Value} {d0 d1 d2 d3 d4 d5 : DataW H} (ht : P.underlying t = some (.array 6 e)) (hce : P.cellsOf e = 1) (hC : P.cellsOf t = 6)
    (h0 : DataW.trod enc P w base spare held 1 e [c0] = some (d0, [])) (h1 : DataW.trod enc P w base spare held 1 e [c1] = some (d1, [])) (h2 : DataW.trod enc P w base spare held 1 e [c2] = some (d2, []))
    (h3 : DataW.trod enc P w base spare held 1 e [c3] = some (d3, [])) (h4 : DataW.trod enc P w base spare held 1 e [c4] = some (d4, [])) (h5 : DataW.trod enc P w base spare held 1 e [c5] = some (d5, [])) :
    DataW.Trod enc P w base spare held t (.agg #[c0, c1, c2, c3, c4, c5]) (.agg [d0, d1, d2, d3, d4, d5]) [] := by
  refine ⟨2, ?_⟩
  unfold DataW.trod
  rw [ht]
  have r6 : List.range 6 = [0, 1, 2, 3, 4, 5] := rfl
  simp [r6, hce, hC, Value.cells, h0, h1, h2, h3, h4, h5]
end
end Go.Proofs.Ytphdpdmkoogkkaa
