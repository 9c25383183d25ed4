/- A set of ints: a map to bools that holds true alone. -/
import Derived.Test.YthblblkifkndiaaMaps
namespace Go.Proofs.Ythblblkifkndiaa
open Go.RowKit
def SetIs (es : List MapEntry) (U : List Int) : Prop := es.map (fun e => (e.key, e.val)) = U.map (fun k => (Value.int .i64 k, Value.bool true))
theorem SetIs.nil : SetIs [] [] := rfl
theorem SetIs.length {es : List MapEntry} {U : List Int} (h : SetIs es U) : es.length = U.length := by simpa using congrArg List.length h
theorem find_set (k : Int) : ∀ (es : List MapEntry) (U : List Int) (i : Nat), SetIs es U →
    (k ∉ U ∧ Instr.findNow (.int .i64) (.int .i64 k) es i = some none) ∨
    (k ∈ U ∧ ∃ j e, U[j]? = some k ∧ U.eraseIdx j = U.erase k ∧ es[j]? = some e ∧ e.key = .int .i64 k ∧ e.val = .bool true ∧ Instr.findNow (.int .i64) (.int .i64 k) es i = some (some (i + j, .bool true)))
  | [], U, i, h => by
    cases U with
    | nil => exact .inl ⟨by simp, rfl⟩
    | cons a U => simp [SetIs] at h
  | e :: es, U, i, h => by
    cases U with
    | nil => simp [SetIs] at h
    | cons a U =>
      have h' : (e.key, e.val) = (Value.int .i64 a, Value.bool true) ∧ SetIs es U := by simpa [SetIs] using h
      obtain ⟨h1, h2⟩ := h'
      have hk : e.key = .int .i64 a := (Prod.mk.inj h1).1
      have hv : e.val = .bool true := (Prod.mk.inj h1).2
      have hs : Instr.sameNow (.int .i64) (.int .i64 k) e.key = some (k == a) := by rw [hk]; simp [Instr.sameNow]
      by_cases e1 : a = k
      · subst e1
        refine .inr ⟨by simp, 0, e, rfl, by simp, rfl, hk, hv, by simp [Instr.findNow, hs, hv]⟩
      · have hf : (k == a) = false := by simp; exact fun h => e1 h.symm
        rcases find_set k es U (i + 1) h2 with ⟨n1, n2⟩ | ⟨n1, j, e', m1, m2, m3, m4, m5, m6⟩
        · exact .inl ⟨by simp [n1]; exact fun h => e1 h.symm, by simp [Instr.findNow, hs, hf, n2]⟩
        · refine .inr ⟨by simp [n1], j + 1, e', by simpa using m1, ?_, by simpa using m3, m4, m5, ?_⟩
          · rw [List.eraseIdx_cons_succ, m2, List.erase_cons_tail (by simp; exact e1)]
          · simp [Instr.findNow, hs, hf, m6]; omega
def putU (U : List Int) (k : Int) : List Int := if k ∈ U then U else U ++ [k]
structure MapU (w : World) (r : Nat) (U : List Int) : Prop where
  is : ∃ es c, MapAt w r es c ∧ SetIs es U
  nodup : U.Nodup
theorem MapU.keep {S : List Nat} {w w' : World} {r : Nat} {U : List Int} (h : MapU w r U) (u : Upd S w w') (hr : r ∉ S) : MapU w' r U := by
  obtain ⟨es, c, h1, h2⟩ := h.is
  exact ⟨⟨es, c, h1.keep u hr, h2⟩, h.nodup⟩
theorem MapU.lt {w : World} {r : Nat} {U : List Int} (h : MapU w r U) : r < w.heap.size := by
  obtain ⟨es, c, h1, -⟩ := h.is
  exact h1.lt
theorem MapU.new (w : World) : MapU (w.alloc (.map #[] 0)) w.heap.size [] := ⟨⟨[], 0, MapAt.new w, SetIs.nil⟩, List.nodup_nil⟩
theorem map_erase {α β : Type} (f : α → β) : ∀ (l : List α) (j : Nat), (l.eraseIdx j).map f = (l.map f).eraseIdx j
  | [], j => by simp
  | a :: l, 0 => by simp
  | a :: l, j + 1 => by simp [map_erase f l j]
section
variable {P : Program} {w : World} {t K E : TypeId} {r : Nat} {U : List Int}
theorem MapU.look (h : MapU w r U) (hT : P.underlying t = some (.map K E)) (hK : P.underlying K = some (.int .i64)) (hz : (zeroValue E).run P w = .ok (.bool false) w) (k : Int) :
    (Instr.lookup t (.map (some r)) (.int .i64 k) false).run P w = .ok (.bool (decide (k ∈ U))) w := by
  obtain ⟨es, c, hm, hs⟩ := h.is
  rcases find_set k es U 0 hs with ⟨n1, n2⟩ | ⟨n1, j, e', m1, m2, m3, m4, m5, m6⟩
  · rw [run_lookup_miss hT hK (show MapKept.IsKey (.int .i64) (.int .i64 k) from rfl) hm n2 hz]; simp [n1]
  · rw [run_lookup_hit hT hK (show MapKept.IsKey (.int .i64) (.int .i64 k) from rfl) hm m6]; simp [n1]
theorem MapU.store (h : MapU w r U) (hT : P.underlying t = some (.map K E)) (hK : P.underlying K = some (.int .i64)) (k : Int) :
    ∃ w', (Instr.mapUpdate t (.map (some r)) (.int .i64 k) (.bool true)).run P w = .ok () w' ∧ MapU w' r (putU U k) ∧ Upd [r] w w' ∧ w'.heap.size = w.heap.size := by
  obtain ⟨es, c, hm, hs⟩ := h.is
  rcases find_set k es U 0 hs with ⟨n1, n2⟩ | ⟨n1, j, e', m1, m2, m3, m4, m5, m6⟩
  · refine ⟨_, run_update_new hT hK (show MapKept.IsKey (.int .i64) (.int .i64 k) from rfl) hm n2 (.bool true), ⟨⟨_, _, (show MapAt _ _ _ _ from setObjW_at _ hm.lt), ?_⟩, ?_⟩, setObjW_upd _ _ _, by simp [setObjW]⟩
    · unfold putU
      rw [if_neg n1]
      unfold SetIs at *
      rw [List.map_append, List.map_append, hs]; rfl
    · unfold putU
      rw [if_neg n1, List.nodup_append]
      refine ⟨h.nodup, by simp, fun a ha b hb => ?_⟩
      simp at hb; subst hb
      exact fun e => n1 (by rw [← e]; exact ha)
  · refine ⟨_, run_update_hit hT hK (show MapKept.IsKey (.int .i64) (.int .i64 k) from rfl) hm (by simpa using m6) (by simpa using m3) m4 (.bool true), ⟨⟨_, _, (show MapAt _ _ _ _ from setObjW_at _ hm.lt), ?_⟩, ?_⟩, setObjW_upd _ _ _, by simp [setObjW]⟩
    · unfold putU
      rw [if_pos n1]
      unfold SetIs at *
      rw [List.map_set, ← hs]
      have hj : (es.map (fun e => (e.key, e.val)))[j]? = some (.int .i64 k, .bool true) := by
        rw [List.getElem?_map, m3]; simp [m4, m5]
      obtain ⟨hl, he⟩ := List.getElem?_eq_some_iff.1 hj
      rw [← he]
      exact List.set_getElem_self hl
    · unfold putU
      rw [if_pos n1]; exact h.nodup
theorem MapU.drop (h : MapU w r U) (hT : P.underlying t = some (.map K E)) (hK : P.underlying K = some (.int .i64)) (k : Int) (ty : TypeId) :
    ∃ w', (Builtin.delete_ #[t, K] ty #[.map (some r), .int .i64 k]).run P w = .ok (.tuple #[]) w' ∧ MapU w' r (U.erase k) ∧ Upd [r] w w' ∧ w'.heap.size = w.heap.size := by
  obtain ⟨es, c, hm, hs⟩ := h.is
  rcases find_set k es U 0 hs with ⟨n1, n2⟩ | ⟨n1, j, e', m1, m2, m3, m4, m5, m6⟩
  · refine ⟨setObjW w r (.map es.toArray c), ?_, ⟨⟨es, c, (show MapAt _ _ _ _ from setObjW_at _ hm.lt), ?_⟩, h.nodup.erase _⟩, setObjW_upd _ _ _, by simp [setObjW]⟩
    · simp [Builtin.delete_, run_underlying hT, MapKept.run_getObj_map hm, MapKept.run_checkKey hK (show MapKept.IsKey (.int .i64) (.int .i64 k) from rfl), MapKept.run_findKey hK n2, MapKept.run_setObj_map _ hm, Result.andThen, setObjW]
    · rw [List.erase_of_not_mem n1]; exact hs
  · have hjl := (List.getElem?_eq_some_iff.1 m3).1
    have hsub : (es.toArray.eraseIdxIfInBounds j) = (es.eraseIdx j).toArray := by
      unfold Array.eraseIdxIfInBounds
      rw [dif_pos (by simpa using hjl)]
      simp
    refine ⟨setObjW w r (.map (es.eraseIdx j).toArray c), ?_, ⟨⟨es.eraseIdx j, c, (show MapAt _ _ _ _ from setObjW_at _ hm.lt), ?_⟩, h.nodup.erase _⟩, setObjW_upd _ _ _, by simp [setObjW]⟩
    · simp [Builtin.delete_, run_underlying hT, MapKept.run_getObj_map hm, MapKept.run_checkKey hK (show MapKept.IsKey (.int .i64) (.int .i64 k) from rfl), MapKept.run_findKey hK (by simpa using m6), MapKept.run_setObj_map _ hm, Result.andThen, setObjW]
    · unfold SetIs at *
      rw [← m2, map_erase, hs, map_erase]
end
end Go.Proofs.Ythblblkifkndiaa
