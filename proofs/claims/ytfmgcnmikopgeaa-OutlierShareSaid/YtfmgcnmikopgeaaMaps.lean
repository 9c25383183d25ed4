/- Maps with int keys: what a look-up finds, what a store leaves. -/
import Derived.Test.YtfmgcnmikopgeaaBase
namespace Go.Proofs.Ytfmgcnmikopgeaa
open Go.RowKit
def keyIs (e : MapEntry) (k : Int) : Bool := match e.key with | .int .i64 j => decide (j = k) | _ => false
def getE : List MapEntry → Int → Option Value
  | [], _ => none
  | e :: es, k => if keyIs e k = true then some e.val else getE es k
def IntKeys (es : List MapEntry) : Prop := ∀ e ∈ es, ∃ k, e.key = .int .i64 k
theorem keyIs_mk (k j : Int) (v : Value) (b : Nat) : keyIs ⟨.int .i64 j, v, b⟩ k = decide (j = k) := rfl
theorem find_int (k : Int) : ∀ (es : List MapEntry) (i : Nat), IntKeys es →
    (getE es k = none ∧ Instr.findNow (.int .i64) (.int .i64 k) es i = some none) ∨
    ∃ j e, getE es k = some e.val ∧ Instr.findNow (.int .i64) (.int .i64 k) es i = some (some (i + j, e.val)) ∧ es[j]? = some e ∧ e.key = .int .i64 k ∧ ∀ v k', getE (es.set j ⟨.int .i64 k, v, e.born⟩) k' = if k' = k then some v else getE es k'
  | [], _, _ => .inl ⟨rfl, rfl⟩
  | e :: es, i, h => by
    obtain ⟨j, hj⟩ := h e (by simp)
    have hs : Instr.sameNow (.int .i64) (.int .i64 k) e.key = some (k == j) := by rw [hj]; simp [Instr.sameNow]
    have hki : keyIs e k = decide (j = k) := by unfold keyIs; rw [hj]
    by_cases hjk : j = k
    · subst hjk
      refine .inr ⟨0, e, by simp [getE, hki], by simp [Instr.findNow, hs], rfl, hj, ?_⟩
      intro v k'
      have hke : keyIs e k' = decide (j = k') := by unfold keyIs; rw [hj]
      simp only [List.set_cons_zero, getE, keyIs_mk, hke]
      by_cases hk : j = k'
      · subst hk; simp
      · simp [hk, Ne.symm hk]
    · have hf : (k == j) = false := by simp; exact fun e => hjk e.symm
      rcases find_int k es (i + 1) (fun x hx => h x (by simp [hx])) with ⟨h1, h2⟩ | ⟨n, e', h1, h2, h3, h4, h5⟩
      · exact .inl ⟨by simp [getE, hki, hjk, h1], by simp [Instr.findNow, hs, hf, h2]⟩
      · refine .inr ⟨n + 1, e', by simp [getE, hki, hjk, h1], by simp [Instr.findNow, hs, hf, h2]; omega, by simpa using h3, h4, ?_⟩
        intro v k'
        have hke : keyIs e k' = decide (j = k') := by unfold keyIs; rw [hj]
        simp only [List.set_cons_succ, getE, h5, hke]
        by_cases hk : j = k'
        · subst hk; simp [hjk]
        · simp [hk]
theorem getE_snoc (es : List MapEntry) (k : Int) (v : Value) (b : Nat) (h : getE es k = none) (k' : Int) : getE (es ++ [⟨.int .i64 k, v, b⟩]) k' = if k' = k then some v else getE es k' := by
  induction es with
  | nil =>
    simp only [List.nil_append, getE, keyIs_mk, decide_eq_true_eq]
    by_cases hk : k = k'
    · subst hk; simp
    · simp [hk, Ne.symm hk]
  | cons e es ih =>
    simp only [getE] at h
    by_cases hke : keyIs e k = true
    · simp [hke] at h
    · simp only [hke] at h
      simp only [List.cons_append, getE, ih (by simpa using h)]
      by_cases hk' : keyIs e k' = true
      · have : k' ≠ k := fun e => by subst e; exact hke hk'
        simp [hk', this]
      · simp [hk']
section
variable {P : Program} {w : World} {t K E : TypeId} {r : Nat} {es : List MapEntry} {c : Nat}
/-- A store: the map reads as before, but at the key. -/
theorem map_store (hT : P.underlying t = some (.map K E)) (hK : P.underlying K = some (.int .i64)) (hm : MapAt w r es c) (hi : IntKeys es) (k : Int) (v : Value) :
    ∃ w' es' c', (Instr.mapUpdate t (.map (some r)) (.int .i64 k) v).run P w = .ok () w' ∧ MapAt w' r es' c' ∧ IntKeys es' ∧ (∀ k', getE es' k' = if k' = k then some v else getE es k') ∧ Upd [r] w w' ∧ w'.heap.size = w.heap.size := by
  rcases find_int k es 0 hi with ⟨h1, h2⟩ | ⟨j, e, h1, h2, h3, h4, h5⟩
  · refine ⟨_, es ++ [(⟨.int .i64 k, v, c⟩ : MapEntry)], c + 1, run_update_new hT hK (show MapKept.IsKey (.int .i64) (.int .i64 k) from rfl) hm h2 v, (show MapAt _ _ _ _ from setObjW_at _ hm.lt), ?_, fun k' => getE_snoc es k v c h1 k', setObjW_upd _ _ _, by simp [setObjW]⟩
    intro e he
    simp only [List.mem_append, List.mem_singleton] at he
    rcases he with he | rfl
    · exact hi e he
    · exact ⟨k, rfl⟩
  · refine ⟨_, es.set j (⟨.int .i64 k, v, e.born⟩ : MapEntry), c, run_update_hit hT hK (show MapKept.IsKey (.int .i64) (.int .i64 k) from rfl) hm (by simpa using h2) (by simpa using h3) h4 v, (show MapAt _ _ _ _ from setObjW_at _ hm.lt), ?_, fun k' => h5 v k', setObjW_upd _ _ _, by simp [setObjW]⟩
    intro x hx
    rcases List.mem_or_eq_of_mem_set hx with hx | rfl
    · exact hi x hx
    · exact ⟨k, rfl⟩
/-- A look-up. -/
theorem map_look (hT : P.underlying t = some (.map K E)) (hK : P.underlying K = some (.int .i64)) (hm : MapAt w r es c) (hi : IntKeys es) {z : Value} (hz : (zeroValue E).run P w = .ok z w) (k : Int) :
    (Instr.lookup t (.map (some r)) (.int .i64 k) false).run P w = .ok ((getE es k).getD z) w := by
  rcases find_int k es 0 hi with ⟨h1, h2⟩ | ⟨j, e, h1, h2, h3, h4, h5⟩
  · rw [run_lookup_miss hT hK (show MapKept.IsKey (.int .i64) (.int .i64 k) from rfl) hm h2 hz]; simp [h1]
  · rw [run_lookup_hit hT hK (show MapKept.IsKey (.int .i64) (.int .i64 k) from rfl) hm h2]; simp [h1]
theorem map_look_ok (hT : P.underlying t = some (.map K E)) (hK : P.underlying K = some (.int .i64)) (hm : MapAt w r es c) (hi : IntKeys es) {z : Value} (hz : (zeroValue E).run P w = .ok z w) (k : Int) :
    (Instr.lookup t (.map (some r)) (.int .i64 k) true).run P w = .ok (.tuple #[(getE es k).getD z, .bool (getE es k).isSome]) w := by
  rcases find_int k es 0 hi with ⟨h1, h2⟩ | ⟨j, e, h1, h2, h3, h4, h5⟩
  · rw [run_lookup_miss hT hK (show MapKept.IsKey (.int .i64) (.int .i64 k) from rfl) hm h2 hz]; simp [h1]
  · rw [run_lookup_hit hT hK (show MapKept.IsKey (.int .i64) (.int .i64 k) from rfl) hm h2]; simp [h1]
end
end Go.Proofs.Ytfmgcnmikopgeaa
