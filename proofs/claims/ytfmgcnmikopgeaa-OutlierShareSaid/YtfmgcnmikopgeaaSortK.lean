/- slices.Sort of numbers of the call's own. -/
import Derived.Test.YtfmgcnmikopgeaaHas
import Derived.Test.YtfmgcnmikopgeaaShelf
namespace Go.Proofs.Ytfmgcnmikopgeaa
open Go.RowKit
theorem putRow_heap (w : World) (g : Nat) (d : Array Int) (cur : Array Value) (e : TypeId) (fr : Nat × Nat) (h : w.heap[g]? = some (.cells cur e fr)) :
    (Sort.putRow (Value.int .i64) w g 0 d).heap[g]? = some (.cells (Sort.putCells (Value.int .i64) 0 d cur) e fr) := by
  have hlt := lt_of_some h
  have h' : w.heap[g] = .cells cur e fr := by simpa [Array.getElem?_eq_getElem hlt] using h
  show (w.heap.modify g _)[g]? = _
  rw [Array.getElem?_eq_getElem (by simpa using hlt), Array.getElem_modify_self, h']
  rfl
theorem putRow_upd (w : World) (g : Nat) (d : Array Int) : Upd [g] w (Sort.putRow (Value.int .i64) w g 0 d) := by
  refine ⟨rfl, rfl, rfl, by simp, fun k hk hs => ?_⟩
  show (w.heap.modify g _)[k]? = _
  rw [Array.getElem?_modify, if_neg (by intro e; subst e; simp at hs)]
theorem ahead_upd (w : World) (n : Nat) : Upd [] w (Sort.ahead w n) := ⟨rfl, rfl, rfl, Nat.le_refl _, fun _ _ _ => rfl⟩
theorem grow_upd (w : World) (os : Array Obj) : Upd [] w (Sort.grow w os) := ⟨rfl, rfl, rfl, by simp, fun k hk _ => Sort.heap_grow_old w os hk⟩
theorem putCells_take {cur : Array Value} {zs : List Int} {m : Nat} (hm : m ≤ zs.length) (hc : zs.length ≤ cur.size) : (Sort.putCells (Value.int .i64) 0 zs.toArray cur).toList.take m = (zs.take m).map (Value.int .i64) := by
  apply List.ext_getElem?
  intro k
  rw [List.getElem?_take]
  simp only [List.getElem?_map, List.getElem?_take]
  by_cases hk : k < m
  · rw [if_pos hk, if_pos hk]
    have h1 : k < cur.size := by omega
    have h2 : k < zs.length := by omega
    rw [Array.getElem?_toList]
    unfold Sort.putCells
    rw [Array.getElem?_mapIdx, Array.getElem?_eq_getElem h1]
    simp [h2]
  · rw [if_neg hk, if_neg hk]; rfl
theorem OwnInts.holds {base : Nat} {w : World} {v : Value} {zs : List Int} (h : OwnInts base w v zs) {g cap : Nat} (hv : v = .slice (some ⟨g, 0, none⟩) zs.length cap) : Sort.Holds (Value.int .i64) w g 0 zs.toArray := by
  rcases h.2 with ⟨h1, -⟩ | ⟨g', cap', cur, hv', hb, hg, hn, hm, hs, ht⟩
  · rw [hv] at h1; cases h1
  · rw [hv] at hv'; cases hv'
    intro j hj
    have hj' : j < zs.length := by simpa using hj
    refine ⟨?_, by simp [World.frozen?, hg]⟩
    have := h.cells (g := g) (by rw [hv]; rfl) j (.int .i64 zs[j]) (by simp [hj'])
    rw [Addr.add_lit] at this
    rw [this]
    simp [hj']
theorem OwnInts.put {base : Nat} {w : World} {v : Value} {zs ys : List Int} (h : OwnInts base w v zs) {g cap : Nat} (hv : v = .slice (some ⟨g, 0, none⟩) zs.length cap) (n : Nat) (os : Array Obj) (hl : ys.length = zs.length) {m : Nat} (hm : m ≤ zs.length) :
    OwnInts base (Sort.grow (Sort.putRow (Value.int .i64) (Sort.ahead w n) g 0 ys.toArray) os) (.slice (some ⟨g, 0, none⟩) m cap) (ys.take m) ∧ Upd [g] w (Sort.grow (Sort.putRow (Value.int .i64) (Sort.ahead w n) g 0 ys.toArray) os) := by
  rcases h.2 with ⟨h1, -⟩ | ⟨g', cap', cur, hv', hb, hg, hn, hmx, hs, ht⟩
  · rw [hv] at h1; cases h1
  · rw [hv] at hv'; cases hv'
    have hlt := lt_of_some hg
    have hh : (Sort.grow (Sort.putRow (Value.int .i64) (Sort.ahead w n) g 0 ys.toArray) os).heap[g]? = some (.cells (Sort.putCells (Value.int .i64) 0 ys.toArray cur) 3 (0, 0)) := by
      rw [Sort.heap_grow_old _ _ (by simpa using hlt)]
      exact putRow_heap _ _ _ _ _ _ hg
    refine ⟨⟨by simp, .inr ⟨g, cap, _, by rw [List.length_take]; congr 1; omega, hb, hh, by rw [List.length_take]; omega, hmx, by simpa [Sort.putCells] using hs, ?_⟩⟩, ((ahead_upd w n).nil_trans (putRow_upd _ g _)).trans_nil (grow_upd _ os)⟩
    rw [Nat.mul_one, List.length_take, show min m ys.length = m by omega]
    exact putCells_take (by omega) (by omega)
/-- slices.Sort of keys of the call's own. -/
theorem sortK_any (base : Nat) (v : Value) (zs : List Int) (w : World) (h : OwnInts base w v zs) (hl : (zs.length : Int) ≤ 1000000) :
    Calls Try.prog 35 #[v] w fun e w' => e = .returned (.tuple #[]) ∧ OwnInts base w' v (zs.mergeSort fun x y => decide (x ≤ y)) ∧ Upd v.ownBlock.toList w w' := by
  rcases h.read with ⟨rfl, rfl⟩ | ⟨g, cap, hv, -, hg, hlc, hcm, -⟩
  · refine (Try.slices_Sort_int_none none 0 w).mono ?_
    rintro e w' ⟨rfl, rfl⟩
    exact ⟨rfl, by simpa using OwnInts.nil base _, Upd.refl _ _⟩
  · subst hv
    refine (Try.slices_Sort_int g 0 cap zs w (h.holds rfl) hg (by omega)).mono ?_
    rintro e w' ⟨rfl, n, os, rfl⟩
    obtain ⟨h1, h2⟩ := h.put rfl n os (ys := zs.mergeSort fun x y => decide (x ≤ y)) (List.length_mergeSort _) (Nat.le_refl _)
    refine ⟨rfl, ?_, by simpa [Value.ownBlock] using h2⟩
    rwa [List.take_of_length_le (by rw [List.length_mergeSort]; exact Nat.le_refl _)] at h1
end Go.Proofs.Ytfmgcnmikopgeaa
