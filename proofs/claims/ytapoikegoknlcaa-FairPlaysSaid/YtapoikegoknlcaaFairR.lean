/- Layer 22: what round knows while it tells. -/
import Derived.Test.YtapoikegoknlcaaFairP
namespace Go.Proofs.Ytapoikegoknlcaa
open Go.RowKit
/-- A slice of items that is only read. -/
def SliceIs (W : World) (v : Value) (l : List It) : Prop := ∃ ao cap, v = .slice ao l.length cap ∧ (l = [] ∨ ∃ g o, ao = some ⟨g, o, none⟩ ∧ l.length ≤ cap ∧ cap ≤ maxLen ∧
  ∀ k x, l[k]? = some x → W.cell? ⟨g, o + k * 3, none⟩ = some (.int .i64 x.id) ∧ W.cell? ⟨g, o + k * 3 + 1, none⟩ = some (.int .i64 x.prio) ∧ W.cell? ⟨g, o + k * 3 + 2, none⟩ = some (.int .i64 x.flow))
theorem SliceIs.keep {S : List Nat} {W W' : World} {v : Value} {l : List It} (h : SliceIs W v l) (u : Upd S W W') (hS : l ≠ [] → ∀ g, v.ownBlock = some g → g ∉ S) : SliceIs W' v l := by
  obtain ⟨ao, cap, rfl, h⟩ := h
  refine ⟨ao, cap, rfl, ?_⟩
  by_cases e : l = []
  · exact .inl e
  · rcases h with h | ⟨g, o, rfl, h1, h2, h3⟩
    · exact .inl h
    · have hn := hS e g rfl
      exact .inr ⟨g, o, rfl, h1, h2, fun k x hx => ⟨u.cell (h3 k x hx).1 hn, u.cell (h3 k x hx).2.1 hn, u.cell (h3 k x hx).2.2 hn⟩⟩
theorem SliceIs.of {W : World} {base : Nat} {v : Value} {l : List It} (h : W.ownsRow base 27 3 v l.length (cellsI l)) : SliceIs W v l := by
  rcases h.2 with ⟨rfl, h0⟩ | ⟨g, cap, cur, hv, -, hg, hn, hm, hs, ht⟩
  · exact ⟨none, 0, by rw [h0], .inl (List.eq_nil_of_length_eq_zero h0)⟩
  · refine ⟨_, cap, hv, .inr ⟨g, 0, rfl, hn, hm, fun k x hx => ?_⟩⟩
    obtain ⟨e1, e2, e3⟩ := cellsI_get l k x hx
    have hc := h.cells (g := g) (by rw [hv]; rfl)
    have c1 := hc _ _ e1
    have c2 := hc _ _ e2
    have c3 := hc _ _ e3
    rw [Addr.add_lit] at c1 c2 c3
    exact ⟨c1, by rw [← c2]; congr 1, by rw [← c3]; congr 1⟩
structure R2 (w W : World) (base M lo : Nat) (ov0 : Value) (c : Int → List It) (vf : Int → Value) (kv : Value) (K : List Int) (ov : Value) (acc : List It) : Prop where
  at_ : ∃ es clock, MapAt W M es clock ∧ IntKeys es ∧ ∀ k, (getE es k).getD (.slice none 0 0) = vf k
  rows : ∀ k, SliceIs W (vf k) (c k)
  ra : ∀ k g, c k ≠ [] → (vf k).ownBlock = some g → g ≠ M ∧ kv.ownBlock ≠ some g ∧ ov.ownBlock ≠ some g
  keys : OwnInts lo W kv K
  ka : ∀ g, kv.ownBlock = some g → ov.ownBlock ≠ some g
  low : M < lo
  out : W.ownsRow base 27 3 ov acc.length (cellsI acc)
  oM : ov.ownBlock ≠ some M
  base_le : base ≤ W.heap.size
  upd : Upd ov0.ownBlock.toList w W
  os : ∀ g, ov.ownBlock = some g → ov0.ownBlock = some g ∨ w.heap.size ≤ g
  wlo : w.heap.size ≤ M
  klo : w.heap.size ≤ lo
theorem R2.look {w W : World} {base M lo : Nat} {ov0 : Value} {c : Int → List It} {vf : Int → Value} {kv : Value} {K : List Int} {ov : Value} {acc : List It} (h : R2 w W base M lo ov0 c vf kv K ov acc) (k : Int) :
    (Instr.lookup 70 (.map (some M)) (.int .i64 k) false).run Try.prog W = .ok (vf k) W := by
  obtain ⟨es, clock, hm, hi, hv⟩ := h.at_
  rw [map_look tMapRow tInt hm hi (zeroRow W) k, hv k]
theorem R2.next {w W W' : World} {base M lo : Nat} {ov0 : Value} {c : Int → List It} {vf : Int → Value} {kv : Value} {K : List Int} {ov : Value} {acc : List It} (h : R2 w W base M lo ov0 c vf kv K ov acc) (u : Upd [] W W') : R2 w W' base M lo ov0 c vf kv K ov acc := by
  obtain ⟨es, clock, h1, h2⟩ := h.at_
  exact ⟨⟨es, clock, h1.keep u (by simp), h2⟩, fun k => (h.rows k).keep u (by simp), h.ra, u.owns h.keys (by simp), h.ka, h.low, u.owns h.out (by simp), h.oM, Nat.le_trans h.base_le u.size, h.upd.trans (u.mono (by simp)), h.os, h.wlo, h.klo⟩
theorem R2.put {w W W' : World} {base M lo : Nat} {ov0 : Value} {c : Int → List It} {vf : Int → Value} {kv : Value} {K : List Int} {ov : Value} {acc : List It} (h : R2 w W base M lo ov0 c vf kv K ov acc) (u : Upd ov.ownBlock.toList W W') {ov' : Value} {acc' : List It} {g' : Nat}
    (ho : W'.ownsRow base 27 3 ov' acc'.length (cellsI acc')) (hv : ov'.ownBlock = some g') (hg : ov.ownBlock = some g' ∨ W.heap.size ≤ g') : R2 w W' base M lo ov0 c vf kv K ov' acc' := by
  obtain ⟨es, clock, h1, h2⟩ := h.at_
  have hws := h.upd.size
  have hrow : ∀ k g, c k ≠ [] → (vf k).ownBlock = some g → g < W.heap.size := fun k g hk hg => by
    obtain ⟨ao, cap, hv, hh⟩ := h.rows k
    rcases hh with hh | ⟨g0, o, rfl, -, -, h3⟩
    · exact absurd hh hk
    · rw [hv] at hg; cases hg
      obtain ⟨x, hx⟩ : ∃ x, (c k)[0]? = some x := by
        cases e : c k with
        | nil => exact absurd e hk
        | cons x l => exact ⟨x, rfl⟩
      exact World.block_lt_of_cell? W _ (h3 0 x hx).1
  refine ⟨⟨es, clock, h1.keep u (fun hh => h.oM (by simpa using hh)), h2⟩, fun k => (h.rows k).keep u (fun hk g hgk hh => (h.ra k g hk hgk).2.2 (by simpa using hh)), fun k g hk hgk => ⟨(h.ra k g hk hgk).1, (h.ra k g hk hgk).2.1, fun hh => ?_⟩,
    u.owns h.keys (fun g hgk hh => h.ka g hgk (by simpa using hh)), fun g hgk hh => ?_, h.low, ho, fun hh => ?_, Nat.le_trans h.base_le u.size, h.upd.trans' u (fun q hq => ?_), fun g hh => ?_, h.wlo, h.klo⟩
  · rw [hv] at hh; cases hh
    rcases hg with hg | hg
    · exact (h.ra k g' hk hgk).2.2 hg
    · have := hrow k g' hk hgk; omega
  · rw [hv] at hh; cases hh
    rcases hg with hg | hg
    · exact h.ka g' hgk hg
    · have := (h.keys.lt g' hgk).2; omega
  · rw [hv] at hh; cases hh
    rcases hg with hg | hg
    · exact h.oM hg
    · have := h1.lt; omega
  · simp at hq
    rcases h.os q hq with hh | hh
    · exact .inl (by simp [hh])
    · exact .inr hh
  · rw [hv] at hh; cases hh
    rcases hg with hg | hg
    · exact h.os g' hg
    · exact .inr (by omega)
theorem R2.store {w W : World} {base M lo : Nat} {ov0 : Value} {c : Int → List It} {vf : Int → Value} {kv : Value} {K : List Int} {ov : Value} {acc : List It} (h : R2 w W base M lo ov0 c vf kv K ov acc) (f : Int) {v' : Value} {y : List It} (hs : SliceIs W v' y) (hb : c f ≠ []) (hv : y ≠ [] → v'.ownBlock = (vf f).ownBlock) :
    ∃ w2, (Instr.mapUpdate 70 (.map (some M)) (.int .i64 f) v').run Try.prog W = .ok () w2 ∧ R2 w w2 base M lo ov0 (setC c f y) (setC vf f v') kv K ov acc := by
  obtain ⟨es, clock, hm, hi, hvf⟩ := h.at_
  obtain ⟨w2, es', c', h1, h2, h3, h4, h5, h6⟩ := map_store tMapRow tInt hm hi f v'
  have hlow := h.low
  refine ⟨w2, h1, ⟨es', c', h2, h3, fun k => ?_⟩, fun k => ?_, fun k g hk hg => ?_, h5.owns h.keys (fun g hg => by simp; have := (h.keys.lt g hg).1; omega), h.ka, h.low, h5.owns h.out (fun g hg => by simp; exact fun hh => h.oM (by rw [← hh]; exact hg)), h.oM, by rw [h6]; exact h.base_le, h.upd.trans' h5 (by simp; exact .inr h.wlo), h.os, h.wlo, h.klo⟩
  · rw [h4]
    by_cases e : k = f
    · subst e; rw [if_pos rfl, setC_same]; rfl
    · rw [if_neg e, setC_other _ _ e]; exact hvf k
  · by_cases e : k = f
    · subst e; rw [setC_same, setC_same]
      refine hs.keep h5 (fun hy g hg => ?_)
      rw [hv hy] at hg
      simp; exact (h.ra k g hb hg).1
    · rw [setC_other _ _ e, setC_other _ _ e]
      exact (h.rows k).keep h5 (fun hk g hg => by simp; exact (h.ra k g hk hg).1)
  · by_cases e : k = f
    · subst e; rw [setC_same] at hk hg
      rw [hv hk] at hg
      exact h.ra k g hb hg
    · rw [setC_other _ _ e] at hk hg
      exact h.ra k g hk hg
theorem R2.key {w W W' : World} {base M lo : Nat} {ov0 : Value} {c : Int → List It} {vf : Int → Value} {kv : Value} {K : List Int} {ov : Value} {acc : List It} (h : R2 w W base M lo ov0 c vf kv K ov acc) (u : Upd kv.ownBlock.toList W W') {kv' : Value} {K' : List Int} (ho : OwnInts lo W' kv' K') (hv : kv'.ownBlock = kv.ownBlock) : R2 w W' base M lo ov0 c vf kv' K' ov acc := by
  obtain ⟨es, clock, h1, h2⟩ := h.at_
  have hk : ∀ q, q ∈ kv.ownBlock.toList → kv.ownBlock = some q ∧ lo ≤ q := fun q hq => by
    simp at hq; exact ⟨hq, (h.keys.lt q hq).1⟩
  have hlow := h.low
  have hklo := h.klo
  refine ⟨⟨es, clock, h1.keep u (fun hh => by have := (hk _ hh).2; omega), h2⟩, fun k => (h.rows k).keep u (fun hc g hg hh => (h.ra k g hc hg).2.1 (hk _ hh).1), fun k g hc hg => by rw [hv]; exact h.ra k g hc hg, ho, fun g hg => h.ka g (by rw [← hv]; exact hg), h.low,
    u.owns h.out (fun g hg hh => h.ka g (hk _ hh).1 hg), h.oM, Nat.le_trans h.base_le u.size, h.upd.trans' u (fun q hq => .inr (by have := (hk q hq).2; omega)), h.os, h.wlo, h.klo⟩
/-- A row without its first item. -/
theorem SliceIs.tail {W : World} {g o cap : Nat} {x : It} {rest : List It} (h1 : rest.length + 1 ≤ cap) (h2 : cap ≤ maxLen)
    (h : ∀ k y, (x :: rest)[k]? = some y → W.cell? ⟨g, o + k * 3, none⟩ = some (.int .i64 y.id) ∧ W.cell? ⟨g, o + k * 3 + 1, none⟩ = some (.int .i64 y.prio) ∧ W.cell? ⟨g, o + k * 3 + 2, none⟩ = some (.int .i64 y.flow)) {A : Addr} (hA : (if cap = 1 then some (⟨g, o, none⟩ : Addr) else some ⟨g, o + 3, none⟩) = some A) :
    SliceIs W (.slice (some A) rest.length (cap - 1)) rest ∧ A.block = g := by
  by_cases e : cap = 1
  · rw [if_pos e] at hA; cases hA
    have : rest = [] := List.eq_nil_of_length_eq_zero (by omega)
    exact ⟨⟨_, _, rfl, .inl this⟩, rfl⟩
  · rw [if_neg e] at hA; cases hA
    refine ⟨⟨_, _, rfl, .inr ⟨g, o + 3, rfl, by omega, by omega, fun k y hy => ?_⟩⟩, rfl⟩
    have := h (k + 1) y (by simpa using hy)
    rw [show o + (k + 1) * 3 = o + 3 + k * 3 by omega] at this
    exact this
end Go.Proofs.Ytapoikegoknlcaa
