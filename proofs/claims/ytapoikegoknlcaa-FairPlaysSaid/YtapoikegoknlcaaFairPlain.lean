/- Layer 22: the plain law of FairRounds: round robin. -/
import Derived.Test.YtapoikegoknlcaaFairH
namespace Go.Proofs.Ytapoikegoknlcaa
open Go.RowKit
def arr5 (T : Nat → Int) : List Value := [.int .i64 (T 0), .int .i64 (T 1), .int .i64 (T 2), .int .i64 (T 3), .int .i64 (T 4)]
theorem arr5_get (T : Nat → Int) (g : Nat) (hg : g < 5) : (arr5 T)[g]? = some (.int .i64 (T g)) := by
  rcases (show g = 0 ∨ g = 1 ∨ g = 2 ∨ g = 3 ∨ g = 4 by omega) with rfl | rfl | rfl | rfl | rfl <;> rfl
theorem arr5_set (T : Nat → Int) (g : Nat) (hg : g < 5) (v : Int) : (arr5 T).set g (.int .i64 v) = arr5 (upd T g v) := by
  rcases (show g = 0 ∨ g = 1 ∨ g = 2 ∨ g = 3 ∨ g = 4 by omega) with rfl | rfl | rfl | rfl | rfl <;> rfl
/-- How many items of a flow wait. -/
def cnt (L : List It) (k : Nat) : Int := ((L.filter (fun x => decide (x.flow = (k : Int)))).length : Int)
theorem cnt_app (L M : List It) (k : Nat) : cnt (L ++ M) k = cnt L k + cnt M k := by simp [cnt, List.filter_append]
theorem cnt_one (x : It) (k : Nat) : cnt [x] k = if x.flow = (k : Int) then 1 else 0 := by
  by_cases h : x.flow = (k : Int) <;> simp [cnt, h]
theorem cnt_nonneg (L : List It) (k : Nat) : 0 ≤ cnt L k := by unfold cnt; omega
theorem cnt_le (L : List It) (k : Nat) : cnt L k ≤ L.length := by
  have := List.length_filter_le (fun x : It => decide (x.flow = (k : Int))) L
  unfold cnt; omega
theorem cnt_pos {L : List It} {k : Nat} (h : 0 < cnt L k) : ∃ x ∈ L, x.flow = (k : Int) := by
  unfold cnt at h
  have h2 : 0 < (L.filter (fun x => decide (x.flow = (k : Int)))).length := by omega
  obtain ⟨x, hx⟩ := List.exists_mem_of_length_pos h2
  rw [List.mem_filter] at hx
  exact ⟨x, hx.1, by simpa using hx.2⟩
theorem split_at {L : List It} {i : Nat} {x : It} (h : L[i]? = some x) : L = L.take i ++ x :: L.drop (i + 1) ∧ L.eraseIdx i = L.take i ++ L.drop (i + 1) := by
  obtain ⟨hi, rfl⟩ := List.getElem?_eq_some_iff.1 h
  refine ⟨?_, List.eraseIdx_eq_take_drop_succ _ _⟩
  rw [List.getElem_cons_drop hi, List.take_append_drop]
theorem cnt_erase {L : List It} {i : Nat} {x : It} (h : L[i]? = some x) (k : Nat) : cnt (L.eraseIdx i) k = cnt L k - if x.flow = (k : Int) then 1 else 0 := by
  obtain ⟨h1, h2⟩ := split_at h
  have e : cnt L k = cnt (L.take i) k + (cnt [x] k + cnt (L.drop (i + 1)) k) := by
    conv => lhs; rw [h1]
    rw [cnt_app, ← List.singleton_append, cnt_app]
  rw [h2, cnt_app, e, cnt_one]
  omega
theorem mem_erase {L : List It} {i : Nat} {y : It} (h : y ∈ L.eraseIdx i) : y ∈ L := List.mem_of_mem_eraseIdx h
theorem cnt_app1 (L : List It) (x : It) (g : Nat) (hx : x.flow = (g : Int)) : (fun k => cnt (L ++ [x]) k) = upd (cnt L) g (cnt L g + 1) := by
  funext k
  rw [cnt_app, cnt_one]
  unfold upd
  by_cases e : k = g
  · subst e; simp [hx]
  · rw [if_neg e, if_neg (by omega)]; omega
theorem cnt_erase1 {L : List It} {i : Nat} {x : It} (h : L[i]? = some x) (g : Nat) (hx : x.flow = (g : Int)) : (fun k => cnt (L.eraseIdx i) k) = upd (cnt L) g (cnt L g - 1) := by
  funext k
  rw [cnt_erase h]
  unfold upd
  by_cases e : k = g
  · subst e; simp [hx]
  · rw [if_neg e, if_neg (by omega)]; omega
structure RR (L : List It) (tk : Bool) (lst : Int) (T S : Nat → Int) : Prop where
  ids : L.Pairwise (fun x y => x.id < y.id)
  flows : ∀ x ∈ L, 0 ≤ x.flow ∧ x.flow < 5
  past : ∀ k, k < 5 → 0 < T k → ∀ x ∈ L, x.flow = (k : Int) → S k < x.id
  c : ∃ c : Int, 0 ≤ c ∧ (tk = false → c = 0 ∧ ∀ k, k < 5 → T k = 0) ∧ (tk = true → ∀ k : Nat, k < 5 → (∃ x ∈ L, x.flow = (k : Int)) → T k = if lst < (k : Int) then c else c + 1)
theorem RR.start {L : List It} (h1 : L.Pairwise (fun x y => x.id < y.id)) (h2 : ∀ x ∈ L, 0 ≤ x.flow ∧ x.flow < 5) : RR L false 0 (fun _ => 0) (fun _ => 0) :=
  ⟨h1, h2, fun k _ h => absurd h (by simp), 0, by omega, fun _ => ⟨rfl, fun _ _ => rfl⟩, fun h => by cases h⟩
theorem RR.test {L : List It} {tk : Bool} {lst : Int} {T S : Nat → Int} {i : Nat} {x : It} (h : RR L tk lst T S) (hx : L[i]? = some x) (g : Nat) (hg : g < 5) (hf : x.flow = (g : Int)) : 0 < T g → S g < x.id :=
  fun h0 => h.past g hg h0 x (List.mem_of_getElem? hx) hf
theorem RR.take {L : List It} {tk : Bool} {lst : Int} {T S : Nat → Int} {i : Nat} {x : It} (g : Nat) (hg : g < 5) (h : RR L tk lst T S) (hn : NextOk L tk lst (g : Int)) (hx : L[i]? = some x) (hf : x.flow = (g : Int))
    (hk : ∀ (k : Nat) (y : It), k < i → L[k]? = some y → ¬ y.flow = (g : Int)) :
    RR (L.eraseIdx i) true (g : Int) (upd T g (T g + 1)) (upd S g x.id) ∧ ∀ k, k < 5 → 0 < cnt (L.eraseIdx i) k → T g + 1 ≤ upd T g (T g + 1) k + 1 := by
  obtain ⟨c, c0, cf, ct⟩ := h.c
  have hmem := List.mem_of_getElem? hx
  obtain ⟨s1, s2⟩ := split_at hx
  have hids := h.ids
  have hlow : ∀ y ∈ L.eraseIdx i, y.flow = (g : Int) → x.id < y.id := by
    intro y hy hyf
    rw [s2, List.mem_append] at hy
    rcases hy with hy | hy
    · obtain ⟨k, hk1, hk2⟩ := List.getElem_of_mem hy
      have hk3 : k < i := by rw [List.length_take] at hk1; omega
      refine absurd hyf (hk k y hk3 ?_)
      have : (L.take i)[k]? = some y := by rw [List.getElem?_eq_some_iff]; exact ⟨hk1, hk2⟩
      rw [List.getElem?_take_of_lt hk3] at this
      exact this
    · rw [s1] at hids
      exact (List.pairwise_cons.1 (List.pairwise_append.1 hids).2.1).1 y hy
  have hall : ∀ c', (∀ k : Nat, k < 5 → (∃ y ∈ L.eraseIdx i, y.flow = (k : Int)) → upd T g (T g + 1) k = if (g : Int) < (k : Int) then c' else c' + 1) → 0 ≤ c' → T g + 1 = c' + 1 →
      RR (L.eraseIdx i) true (g : Int) (upd T g (T g + 1)) (upd S g x.id) ∧ ∀ k, k < 5 → 0 < cnt (L.eraseIdx i) k → T g + 1 ≤ upd T g (T g + 1) k + 1 := by
    intro c' h1 h2 h3
    refine ⟨⟨?_, fun y hy => h.flows y (mem_erase hy), fun k hk5 hpos y hy hyf => ?_, c', h2, fun hh => by (cases hh), fun _ => h1⟩, fun k hk5 hpos => ?_⟩
    · rw [s2]; rw [s1] at hids
      have := List.pairwise_append.1 hids
      exact List.pairwise_append.2 ⟨this.1, (List.pairwise_cons.1 this.2.1).2, fun a ha b hb => this.2.2 a ha b (List.mem_cons_of_mem _ hb)⟩
    · by_cases e : k = g
      · subst e; rw [upd_same]; exact hlow y hy hyf
      · rw [upd_other _ _ e] at hpos ⊢
        exact h.past k hk5 hpos y (mem_erase hy) hyf
    · have := h1 k hk5 (cnt_pos hpos)
      rw [this]; split <;> omega
  rcases hn.above with ⟨htk, hlt, hmin⟩ | ⟨hno, hmin⟩
  · have ct' := ct htk
    have hT : T g = c := by
      have := ct' g hg ⟨x, hmem, hf⟩
      rw [if_pos hlt] at this; exact this
    refine hall c ?_ c0 (by omega)
    rintro k hk5 ⟨y, hy, hyf⟩
    obtain ⟨j, hj, hj2⟩ := List.getElem_of_mem (mem_erase hy)
    have hyj : L[j]? = some y := by rw [List.getElem?_eq_some_iff]; exact ⟨hj, hj2⟩
    by_cases e : k = g
    · subst e; rw [upd_same, if_neg (by omega)]; omega
    · rw [upd_other _ _ e]
      have := ct' k hk5 ⟨y, mem_erase hy, hyf⟩
      rw [this]
      by_cases e2 : lst < (k : Int)
      · have := hmin j y hyj (by rw [hyf]; exact e2)
        rw [hyf] at this
        rw [if_pos e2, if_pos (by omega)]
      · rw [if_neg e2, if_neg (by omega)]
  · cases tk with
    | false =>
      obtain ⟨rfl, hz⟩ := cf rfl
      refine hall 0 ?_ (by omega) (by have := hz g hg; omega)
      rintro k hk5 ⟨y, hy, hyf⟩
      obtain ⟨j, hj, hj2⟩ := List.getElem_of_mem (mem_erase hy)
      have hyj : L[j]? = some y := by rw [List.getElem?_eq_some_iff]; exact ⟨hj, hj2⟩
      have := hmin j y hyj
      have := hz g hg
      by_cases e : k = g
      · subst e; rw [upd_same, if_neg (by omega)]; omega
      · rw [upd_other _ _ e, hz k hk5, if_pos (by omega)]
    | true =>
      have ct' := ct rfl
      have hlast : ∀ y ∈ L, y.flow ≤ lst := by
        intro y hy
        obtain ⟨j, hj, hj2⟩ := List.getElem_of_mem hy
        have := hno j y (by rw [List.getElem?_eq_some_iff]; exact ⟨hj, hj2⟩)
        by_cases e : lst < y.flow
        · exact absurd ⟨rfl, e⟩ this
        · omega
      have hT : T g = c + 1 := by
        have := ct' g hg ⟨x, hmem, hf⟩
        rw [if_neg (by have := hlast x hmem; omega)] at this; exact this
      refine hall (c + 1) ?_ (by omega) (by omega)
      rintro k hk5 ⟨y, hy, hyf⟩
      obtain ⟨j, hj, hj2⟩ := List.getElem_of_mem (mem_erase hy)
      have := hmin j y (by rw [List.getElem?_eq_some_iff]; exact ⟨hj, hj2⟩)
      by_cases e : k = g
      · subst e; rw [upd_same, if_neg (by omega)]; omega
      · rw [upd_other _ _ e]
        have h2 := ct' k hk5 ⟨y, mem_erase hy, hyf⟩
        rw [if_neg (by have := hlast y (mem_erase hy); omega)] at h2
        rw [h2, if_pos (by omega)]
end Go.Proofs.Ytapoikegoknlcaa
