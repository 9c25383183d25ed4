/- A region that draws its order, by an invariant of what is listed: each operation is walked once, whatever stands ahead of it. -/
import Derived.Test.YthblblkifkndiaaBase
import Derived.Orders
namespace Go.Proofs.Ythblblkifkndiaa
open Go.RowKit
theorem countP_lt {l : List Nat} {p q : Nat → Bool} (h : ∀ x ∈ l, q x = true → p x = true) {i : Nat} (hi : i ∈ l) (hp : p i = true) (hq : q i = false) : l.countP q < l.countP p := by
  induction l with
  | nil => simp at hi
  | cons a l ih =>
    have hm : l.countP q ≤ l.countP p := List.countP_mono_left (fun x hx => h x (List.mem_cons_of_mem _ hx))
    rw [List.countP_cons, List.countP_cons]
    rcases List.mem_cons.1 hi with rfl | hi
    · rw [hp, hq]; simp; omega
    · have h1 := ih (fun x hx => h x (List.mem_cons_of_mem _ hx)) hi
      have h2 := h a (by simp)
      by_cases hqa : q a = true
      · rw [if_pos hqa, if_pos (h2 hqa)]; omega
      · rw [if_neg hqa]; split <;> omega
theorem listed_set {listed : Array Bool} {i : Nat} (hi : i < listed.size) : (fun j => (listed.setIfInBounds i true).getD j false) = fun j => (decide (j = i) || listed.getD j false) := by
  funext j
  by_cases e : j = i
  · subst e
    simp [Array.getD, hi]
  · have : (listed.setIfInBounds i true).getD j false = listed.getD j false := by
      simp only [Array.getD_eq_getD_getElem?]
      rw [Array.getElem?_setIfInBounds_ne (fun h => e h.symm)]
    simp [e, this]
theorem wpAny_inv {P : Program} {ops : Array Oper} {Q : Exit → Act → World → Prop} {Inv : (Nat → Bool) → Act → World → Prop}
    (hback : ∀ (i : Nat) (o : Oper), ops[i]? = some o → ∀ e ∈ o.after, Region.binds .any e = true → e.on < i)
    (hstep : ∀ (L : Nat → Bool) (a : Act) (w : World) (i : Nat) (o : Oper), ops[i]? = some o → L i = false → (∀ e ∈ o.after, Region.binds .any e = true → L e.on = true) → Inv L a w →
      Region.wanted o (yielded ops a.tmps) = true ∧ o.wp P a w (fun a' w' => Inv (fun j => decide (j = i) || L j) a' w') Q)
    (hend : ∀ (L : Nat → Bool) (a : Act) (w : World), (∀ i, i < ops.size → L i = true) → Inv L a w → Q .normal a w) :
    ∀ (fuel : Nat) (listed : Array Bool) (a : Act) (w : World), listed.size = ops.size → (List.range ops.size).countP (fun j => !listed.getD j false) ≤ fuel → Inv (fun j => listed.getD j false) a w → wpAny P .any ops Q fuel listed a w := by
  have hfin : ∀ (listed : Array Bool) (a : Act) (w : World), listed.size = ops.size → Inv (fun j => listed.getD j false) a w → Region.ready .any ops listed = [] → Q .normal a w := by
    intro listed a w hs hi hr
    refine hend _ a w ?_ hi
    intro i
    induction i using Nat.strongRecOn with
    | _ i ih =>
      intro hlt
      by_cases hl : listed.getD i false = true
      · exact hl
      · exfalso
        have hmem : i ∈ Region.ready .any ops listed := by
          rw [mem_ready]
          refine ⟨?_, ops[i], by simp [hlt], fun e he hb => ih e.on (hback i _ (by simp [hlt]) e he hb) (Nat.lt_trans (hback i _ (by simp [hlt]) e he hb) hlt)⟩
          simp only [Array.getD_eq_getD_getElem?] at hl ⊢
          rw [Array.getElem?_eq_getElem (by omega)] at hl ⊢
          simpa using hl
        rw [hr] at hmem
        simp at hmem
  intro fuel
  induction fuel with
  | zero =>
    intro listed a w hs hc hi
    have hall : Region.ready .any ops listed = [] := by
      rw [List.eq_nil_iff_forall_not_mem]
      intro i hm
      rw [mem_ready] at hm
      obtain ⟨h0, o, ho, -⟩ := hm
      have hlt : i < ops.size := (Array.getElem?_eq_some_iff.1 ho).1
      have h1 := List.countP_eq_zero.1 (Nat.le_zero.1 hc) i (List.mem_range.2 hlt)
      simp only [Array.getD_eq_getD_getElem?] at h0 h1
      rw [Array.getElem?_eq_getElem (by omega)] at h0 h1
      simp at h0 h1
      rw [h0] at h1; cases h1
    exact ⟨hall, hfin listed a w hs hi hall⟩
  | succ fuel ih =>
    intro listed a w hs hc hi
    refine ⟨hfin listed a w hs hi, fun i hm => ?_⟩
    rw [mem_ready] at hm
    obtain ⟨h0, o, ho, hall⟩ := hm
    have hlt : i < ops.size := (Array.getElem?_eq_some_iff.1 ho).1
    have h0' : listed.getD i false = false := by
      simp only [Array.getD_eq_getD_getElem?] at h0 ⊢
      rw [Array.getElem?_eq_getElem (by omega)] at h0 ⊢
      simpa using h0
    obtain ⟨hw, hwp⟩ := hstep _ a w i o ho h0' hall hi
    unfold wpOp
    rw [ho]
    dsimp only
    rw [if_pos hw]
    refine .inl (Oper.wp_mono (fun a' w' hi' => ?_) hwp)
    rw [← listed_set (by omega)] at hi'
    refine ih _ a' w' (by simpa using hs) ?_ hi'
    have := countP_lt (l := List.range ops.size) (p := fun j => !listed.getD j false) (q := fun j => !(listed.setIfInBounds i true).getD j false) (fun x _ hx => by
      have e := congrFun (listed_set (listed := listed) (i := i) (by omega)) x
      rw [e] at hx
      simp at hx ⊢
      exact hx.2) (List.mem_range.2 hlt) (by simp [h0']) (by
      have e := congrFun (listed_set (listed := listed) (i := i) (by omega)) i
      rw [e]; simp)
    omega
/-- No operation waits for a later one. -/
def backB (ops : Array Oper) : Bool := (List.range ops.size).all fun i => match ops[i]? with
  | some o => o.after.all fun e => !Region.binds .any e || decide (e.on < i)
  | none => true
theorem backB_spec {ops : Array Oper} (h : backB ops = true) (i : Nat) (o : Oper) (ho : ops[i]? = some o) (e : Edge) (he : e ∈ o.after) (hb : Region.binds .any e = true) : e.on < i := by
  have h1 := List.all_eq_true.1 h i (List.mem_range.2 (Array.getElem?_eq_some_iff.1 ho).1)
  rw [ho] at h1
  have h2 := Array.all_eq_true_iff_forall_mem.1 h1 e he
  rw [hb] at h2
  simpa using h2
theorem region_inv {P : Program} {id : Nat} {ops : Array Oper} {Q : Exit → Act → World → Prop} {a : Act} {w : World} (Inv : (Nat → Bool) → Act → World → Prop) (hm : P.follows .mixedOrders = true)
    (hback : backB ops = true)
    (h0 : Inv (fun _ => false) a w.drew)
    (hstep : ∀ (L : Nat → Bool) (a : Act) (w : World) (i : Nat) (o : Oper), ops[i]? = some o → L i = false → (∀ e ∈ o.after, Region.binds .any e = true → L e.on = true) → Inv L a w →
      Region.wanted o (yielded ops a.tmps) = true ∧ o.wp P a w (fun a' w' => Inv (fun j => decide (j = i) || L j) a' w') Q)
    (hend : ∀ (L : Nat → Bool) (a : Act) (w : World), (∀ i, i < ops.size → L i = true) → Inv L a w → Q .normal a w) :
    (Code.region id ops true).wp P Q a w := by
  refine wp_region_any hm (wpAny_inv (backB_spec hback) hstep hend ops.size _ a _ (by simp) ?_ ?_)
  · refine Nat.le_trans List.countP_le_length (by simp)
  · have : (fun j => (Array.replicate ops.size false).getD j false) = fun _ => false := by
      funext j
      simp [Array.getD]
    rw [this]
    exact h0
end Go.Proofs.Ythblblkifkndiaa
