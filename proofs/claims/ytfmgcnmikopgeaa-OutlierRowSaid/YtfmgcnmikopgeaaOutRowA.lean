/- Layer 14: OutlierRow's plain law. -/
import Derived.Test.YtfmgcnmikopgeaaOutM
namespace Go.Proofs.Ytfmgcnmikopgeaa
open Go.RowKit
structure RowI (S : Nat → Es) (row c : Int) : Prop where
  ok : ∀ i, i < 4 → EsOk c (S i)
  oth : ∀ j, j < 4 → j ≠ 1 → (S j).ej = false ∧ (S j).untl = 0
  one : ((S 1).ej = true ∧ (S 1).untl ≠ 0) ∨ ((S 1).ej = false ∧ (S 1).untl = 0 ∧ (S 1).row = row)
theorem RowI.zero : RowI (fun _ => zeroE) 0 0 := ⟨fun _ _ => EsOk.zero, fun _ _ _ => ⟨rfl, rfl⟩, .inr ⟨rfl, rfl, rfl⟩⟩
theorem RowI.well {t : Wt} {S S' : Nat → Es} {row c : Int} {is : Bool} (h : RowI S row c) (hc : 0 ≤ c) (hn : NoteIs 4 t S 1 2 1 true S' is) : RowI S' 0 (c + 1) := by
  have hok := note_ok h.ok hc (by decide) hn
  cases hn with
  | gone b h1 => omega
  | out b i h1 h2 h3 =>
    obtain rfl : i = 1 := (by omega)
    refine ⟨hok, h.oth, .inl ⟨h3, ?_⟩⟩
    rcases h.one with h4 | h4
    · exact h4.2
    · rw [h4.1] at h3; cases h3
  | well i sk h1 h2 h3 h4 =>
    obtain rfl : i = 1 := (by omega)
    refine ⟨hok, fun j hj hj1 => by rw [upd_other _ _ hj1]; exact h.oth j hj hj1, .inr ?_⟩
    rw [upd_same]
    refine ⟨h3, ?_, rfl⟩
    rcases h.one with h5 | h5
    · rw [h5.1] at h3; cases h3
    · exact h5.2.1
theorem outN_zero {S : Nat → Es} (h : ∀ j, j < 4 → (S j).ej = false) : outN 4 S = 0 := by
  unfold outN
  rw [List.filter_eq_nil_iff.2 (fun j hj => by rw [List.mem_range] at hj; rw [h j hj]; simp)]
  rfl
theorem eject_until {t : Wt} (hb : 1 ≤ t.base) (hb1 : t.base ≤ 10000) (ht : t.base ≤ t.top) (ht1 : t.top ≤ 10000) {now : Int} (s : Es) : now + 1 ≤ (ejectE t now s).untl ∧ (ejectE t now s).untl ≤ now + t.top := by
  have := waitR_bound (base := t.base) (top := t.top) hb hb1 ht1 s.times.toNat
  unfold ejectE
  dsimp only
  omega
theorem RowI.err {t : Wt} {S S' : Nat → Es} {row c : Int} {is : Bool} (h : RowI S row c) (hc : 0 ≤ c) (hb : 1 ≤ t.base) (hb1 : t.base ≤ 10000) (ht : t.base ≤ t.top) (ht1 : t.top ≤ 10000) (hs : t.share = 100) (hn : NoteIs 4 t S 1 2 1 false S' is) :
    RowI S' (row + 1) (c + 1) ∧ is = (((S 1).untl == 0) && decide (t.errors ≤ row + 1)) := by
  have hok := note_ok h.ok hc (by decide) hn
  have hroom : (S 1).ej = false → roomB 4 t (upd S 1 (errE (S 1))) = true := fun he => by
    unfold roomB
    rw [outN_zero, hs]
    · decide
    · intro j hj
      by_cases e : j = 1
      · subst e; rw [upd_same]; exact he
      · rw [upd_other _ _ e]; exact (h.oth j hj e).1
  cases hn with
  | gone b h1 => omega
  | out b i h1 h2 h3 =>
    obtain rfl : i = 1 := (by omega)
    have hu : (S 1).untl ≠ 0 := by
      rcases h.one with h4 | h4
      · exact h4.2
      · rw [h4.1] at h3; cases h3
    refine ⟨⟨hok, h.oth, .inl ⟨h3, hu⟩⟩, ?_⟩
    rw [beq_eq_false_iff_ne.2 hu]; rfl
  | err i h1 h2 h3 h4 =>
    obtain rfl : i = 1 := (by omega)
    have h5 : (S 1).untl = 0 ∧ (S 1).row = row := by
      rcases h.one with h5 | h5
      · rw [h5.1] at h3; cases h3
      · exact h5.2
    refine ⟨⟨hok, fun j hj hj1 => by rw [upd_other _ _ hj1]; exact h.oth j hj hj1, .inr ?_⟩, ?_⟩
    · rw [upd_same]; exact ⟨h3, h5.1, by show (S 1).row + 1 = row + 1; rw [h5.2]⟩
    · rcases h4 with h4 | h4
      · rw [h5.1, ← h5.2, decide_eq_false (by omega)]; rfl
      · rw [hroom h3] at h4; cases h4
  | eject i h1 h2 h3 h4 h5 =>
    obtain rfl : i = 1 := (by omega)
    have h6 : (S 1).untl = 0 ∧ (S 1).row = row := by
      rcases h.one with h5 | h5
      · rw [h5.1] at h3; cases h3
      · exact h5.2
    refine ⟨⟨hok, fun j hj hj1 => by rw [upd_other _ _ hj1]; exact h.oth j hj hj1, .inl ?_⟩, ?_⟩
    · rw [upd_same]
      have := (eject_until hb hb1 ht ht1 (now := 1) (errE (S 1))).1
      exact ⟨rfl, by omega⟩
    · rw [h6.1, ← h6.2, decide_eq_true (by omega)]; rfl
def tRow (n : Int) : Wt := ⟨(watchN n).errors, (watchN n).window, (watchN n).dev, (watchN n).slow, 100, (watchN n).base, (watchN n).top⟩
theorem tRow_ok (n : Int) : WtOk (tRow n) := by
  have h := watchN_ok n
  exact ⟨h.b0, by have := h.b1; show (watchN n).base ≤ 10000; omega, by have := h.t0; have := h.b0; show 0 ≤ (watchN n).top; omega, by have := h.t1; show (watchN n).top ≤ 10000; omega, by show (0 : Int) ≤ 100; omega, by show (100 : Int) ≤ 100; omega, h.e0, by have := h.e1; show (watchN n).errors ≤ 1000; omega, by have := h.w0; show 0 ≤ (watchN n).window; omega, by have := h.w1; show (watchN n).window ≤ 100000; omega⟩
end Go.Proofs.Ytfmgcnmikopgeaa
