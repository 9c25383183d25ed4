/- Layer 23: the plain law of the places: none is lost. -/
import Derived.Test.YtklbnldkfohkpaaGateL
namespace Go.Proofs.Ytklbnldkfohkpaa
open Go.RowKit
theorem split_at' {α : Type} {l : List α} {i : Nat} {x : α} (h : l[i]? = some x) : l = l.take i ++ x :: l.drop (i + 1) ∧ l.eraseIdx i = l.take i ++ l.drop (i + 1) := by
  obtain ⟨hi, rfl⟩ := List.getElem?_eq_some_iff.1 h
  refine ⟨?_, List.eraseIdx_eq_take_drop_succ _ _⟩
  conv => lhs; rw [← List.take_append_drop i l]
  rw [List.drop_eq_getElem_cons hi]
def cid (l : List It) (id : Int) : Nat := (l.filter (fun x => decide (x.id = id))).length
theorem cid_app (l m : List It) (id : Int) : cid (l ++ m) id = cid l id + cid m id := by simp [cid, List.filter_append]
theorem cid_one (x : It) (id : Int) : cid [x] id = if x.id = id then 1 else 0 := by
  by_cases h : x.id = id <;> simp [cid, h]
theorem cid_erase {l : List It} {i : Nat} {x : It} (h : l[i]? = some x) (id : Int) : cid (l.eraseIdx i) id + (if x.id = id then 1 else 0) = cid l id := by
  obtain ⟨h1, h2⟩ := split_at' h
  have e : cid l id = cid (l.take i) id + (cid [x] id + cid (l.drop (i + 1)) id) := by
    conv => lhs; rw [h1]
    rw [cid_app, ← List.singleton_append, cid_app]
  rw [h2, cid_app, e, cid_one]
  omega
def cR (r : Nat → Row) (id : Int) : Nat := cid (r 0).items id + cid (r 1).items id + cid (r 2).items id + cid (r 3).items id
theorem cR_upd {r : Nat → Row} {p : Nat} (hp : p < 4) (y : Row) (id : Int) : cR (upd r p y) id + cid (r p).items id = cR r id + cid y.items id := by
  unfold cR
  rcases (show p = 0 ∨ p = 1 ∨ p = 2 ∨ p = 3 by omega) with rfl | rfl | rfl | rfl <;> simp [upd] <;> omega
theorem cR_erase {r : Nat → Row} {p i : Nat} {x : It} (hp : p < 4) (hx : (r p).items[i]? = some x) (tk : Bool) (last : Int) (id : Int) : cR (upd r p ⟨(r p).items.eraseIdx i, tk, last⟩) id + (if x.id = id then 1 else 0) = cR r id := by
  have h1 := cR_upd (r := r) hp ⟨(r p).items.eraseIdx i, tk, last⟩ id
  have h2 := cid_erase hx id
  dsimp only at h1
  omega
theorem cR_add {r : Nat → Row} {p : Nat} {x : It} (hp : p < 4) (id : Int) : cR (addIt r p x) id = cR r id + if x.id = id then 1 else 0 := by
  have h1 := cR_upd (r := r) hp ⟨(r p).items ++ [x], (r p).taken, (r p).last⟩ id
  dsimp only at h1
  rw [cid_app, cid_one] at h1
  unfold addIt
  omega
/-- r' is r without x. -/
def Less (r r' : Nat → Row) (x : It) : Prop := ∀ id, cR r' id + (if x.id = id then 1 else 0) = cR r id
theorem take_less {r r' : Nat → Row} {x : It} (h : TakeIs r r' x true) : Less r r' x := by
  cases h with
  | some p i f x h1 h2 h3 h4 h5 h6 => exact fun id => cR_erase h1 h4 _ _ id
theorem take_same {r r' : Nat → Row} {x : It} (h : TakeIs r r' x false) : r' = r := by
  cases h with
  | none h0 => rfl
theorem take_none {r r' : Nat → Row} {x : It} (h : TakeIs r r' x false) : ∀ q, q < 4 → (r q).items = [] := by
  cases h with
  | none h0 => exact h0
theorem drop_less {r r' : Nat → Row} {id : Int} (h : DropIs r id r' true) (y : It) (hy : y.id = id) : Less r r' y := by
  cases h with
  | some p i h1 h2 h3 =>
    obtain ⟨x, hx, hxi⟩ := h3.1
    intro q
    have := cR_erase h1 hx (r p).taken (r p).last q
    rw [hxi] at this
    rw [hy]
    exact this
theorem drop_same {r r' : Nat → Row} {id : Int} (h : DropIs r id r' false) : r' = r := by
  cases h with
  | none h0 => rfl
theorem shed_less {r r' : Nat → Row} {x : It} (h : ShedIs r r' x) : Less r r' x := by
  cases h with
  | some p i f x h1 h2 h3 h4 h5 h6 => exact fun id => cR_erase h1 h4 _ _ id
theorem count_less (l : List Int) (n id : Int) : (lessOf l n).count id = if id = n then 0 else l.count id := by
  unfold lessOf
  induction l with
  | nil => simp
  | cons a l ih =>
    rw [List.filter_cons]
    by_cases e : a = n
    · subst e
      simp only [ne_eq, not_true_eq_false, decide_false, Bool.false_eq_true, if_false, ih]
      by_cases e2 : id = a
      · simp [e2]
      · rw [if_neg e2, if_neg e2, List.count_cons_of_ne (fun h => e2 h.symm)]
    · simp only [ne_eq, e, not_false_eq_true, decide_true, if_true, List.count_cons, ih]
      by_cases e2 : id = n
      · subst e2; simp [e]
      · simp [e2]
theorem length_less (l : List Int) (n : Int) : (lessOf l n).length + l.count n = l.length := by
  unfold lessOf
  induction l with
  | nil => rfl
  | cons a l ih =>
    rw [List.filter_cons]
    by_cases e : a = n
    · subst e; simp; simp at ih; omega
    · simp [e]; simp at ih; omega
/-- Who is where. -/
structure PI (g : Gt) (i : Int) (us ws os : List Int) : Prop where
  ok : g.Ok
  u : g.U = us
  w : ∀ id, ws.count id = cR g.r id
  one : ∀ id, us.count id + ws.count id + os.count id ≤ 1
  past : ∀ id, us.count id + ws.count id + os.count id ≠ 0 → 1 ≤ id ∧ id ≤ i
  wn : (ws.length : Int) = g.n
  le : g.n ≤ g.most
  hi : (us.length : Int) ≤ g.lim.high
theorem erase_less {l : List Int} {n : Int} (h : l.count n ≤ 1) : l.erase n = lessOf l n := by
  unfold lessOf
  induction l with
  | nil => rfl
  | cons a l ih =>
    by_cases e : a = n
    · subst e
      rw [List.count_cons_self] at h
      have h0 : a ∉ l := List.count_eq_zero.1 (by omega)
      rw [List.erase_cons_head, List.filter_cons]
      simp only [ne_eq, not_true_eq_false, decide_false, Bool.false_eq_true, if_false]
      refine (List.filter_eq_self.2 (fun z hz => ?_)).symm
      simp only [decide_eq_true_eq]
      exact fun e => h0 (e ▸ hz)
    · rw [List.count_cons_of_ne e] at h
      rw [List.erase_cons_tail (by simpa using e), List.filter_cons, ih h]
      simp [e]
theorem count_snoc (l : List Int) (x id : Int) : (l ++ [x]).count id = l.count id + if x = id then 1 else 0 := by
  rw [List.count_append, List.count_cons, List.count_nil]
  by_cases e : x = id <;> simp [e]
def OnOk : List Int → List Int → Prop
  | _, [] => True
  | ws, id :: ids => id ∈ ws ∧ OnOk (lessOf ws id) ids
def Full (g : Gt) : Prop := (g.U.length : Int) < g.lim.lim → g.n = 0
theorem PI.next {g g' : Gt} {i : Int} {us ws os ids : List Int} (h : PI g i us ws os) (hr : NextRun g ids g') : OnOk ws ids ∧ PI g' i (us ++ ids) (ids.foldl lessOf ws) os ∧ Full g' := by
  induction hr generalizing us ws with
  | full g hf => exact ⟨trivial, by simpa using h, fun hlt => by omega⟩
  | none g r' x hlt ht =>
    have h0 := take_none ht
    obtain rfl := take_same ht
    refine ⟨trivial, by simpa using h, fun _ => ?_⟩
    have := h.ok.rows.tot
    unfold totN at this
    rw [h0 0 (by omega), h0 1 (by omega), h0 2 (by omega), h0 3 (by omega)] at this
    simpa using this
  | go g g' r' x ids hlt ht hr ih =>
    have hl := take_less ht
    have hx : cR g.r x.id ≠ 0 := by have := hl x.id; rw [if_pos rfl] at this; omega
    have hxw : x.id ∈ ws := List.count_pos_iff.1 (by rw [h.w]; omega)
    have h1 := h.one x.id
    have hc : ws.count x.id = 1 := by have := h.w x.id; omega
    have hnu : x.id ∉ us := List.count_eq_zero.1 (by omega)
    have hU : putU g.U x.id = us ++ [x.id] := by rw [h.u]; unfold putU; rw [if_neg hnu]
    have hp : PI ⟨g.most, g.n - 1, r', g.lim, putU g.U x.id⟩ i (us ++ [x.id]) (lessOf ws x.id) os := by
      refine ⟨h.ok.take ht hlt, hU, fun id => ?_, fun id => ?_, fun id => ?_, ?_, ?_, ?_⟩
      · dsimp only
        have := hl id
        rw [count_less, h.w]
        by_cases e : id = x.id
        · subst e; rw [if_pos rfl] at this ⊢; have := h.w x.id; omega
        · rw [if_neg (fun hh => e hh.symm)] at this; rw [if_neg e]; omega
      · have := h.one id
        rw [count_less, count_snoc]
        by_cases e : id = x.id
        · subst e; rw [if_pos rfl, if_pos rfl]; omega
        · rw [if_neg (fun hh => e hh.symm), if_neg e]; omega
      · intro hne
        refine h.past id ?_
        rw [count_less, count_snoc] at hne
        by_cases e : id = x.id
        · subst e; omega
        · rw [if_neg (fun hh => e hh.symm), if_neg e] at hne; omega
      · have := length_less ws x.id; have := h.wn; dsimp only; omega
      · have := h.le; dsimp only; omega
      · have h2 := h.ok.lim.l2
        have h3 : g.U.length = us.length := by rw [h.u]
        dsimp only
        simp only [List.length_append, List.length_cons, List.length_nil]
        omega
    obtain ⟨a1, a2, a3⟩ := ih hp
    refine ⟨⟨hxw, a1⟩, ?_, a3⟩
    simpa using a2
theorem lim_high (l : Lim) (now u took : Int) (well : Bool) : (l.done now u took well).high = l.high := by
  have hn : (l.note took well).high = l.high := by unfold Lim.note; split <;> rfl
  unfold Lim.done Lim.fall
  split
  · exact hn
  · split <;> exact hn
/-- One of those under way is done. -/
theorem PI.done {g g' : Gt} {i now id took : Int} {well : Bool} {us ws os ids : List Int} (h : PI g i us ws os) (hd : DoneIs g now id took well ids g') (hm : id ∈ us) (h0 : 0 ≤ now) (h1 : now ≤ 1000000) (h2 : 1 ≤ took) (h3 : took ≤ 1000) :
    OnOk ws ids ∧ PI g' i (lessOf us id ++ ids) (ids.foldl lessOf ws) (os ++ [id]) ∧ Full g' := by
  cases hd with
  | no hn => rw [h.u] at hn; exact absurd hm hn
  | yes _ _ hin hr =>
    have hone := h.one id
    have hcu : 1 ≤ us.count id := List.count_pos_iff.2 hm
    refine PI.next (g := ⟨g.most, g.n, g.r, g.lim.done now g.U.length took well, g.U.erase id⟩) ⟨h.ok.done h0 h1 h2 h3, ?_, h.w, fun k => ?_, fun k => ?_, h.wn, h.le, ?_⟩ hr
    · dsimp only; rw [h.u, erase_less (by omega)]
    · have := h.one k
      rw [count_less, count_snoc]
      by_cases e : k = id
      · subst e; rw [if_pos rfl, if_pos rfl]; omega
      · rw [if_neg e, if_neg (fun hh => e hh.symm)]; omega
    · intro hne
      refine h.past k ?_
      rw [count_less, count_snoc] at hne
      by_cases e : k = id
      · subst e; omega
      · rw [if_neg e, if_neg (fun hh => e hh.symm)] at hne; omega
    · have := length_less us id; have := h.hi; dsimp only; rw [lim_high]; omega
theorem PI.doneNo {g g' : Gt} {i now id took : Int} {well : Bool} {us ws os ids : List Int} (h : PI g i us ws os) (hd : DoneIs g now id took well ids g') (hm : ¬ id ∈ us) : ids = [] ∧ g' = g := by
  cases hd with
  | no hn => exact ⟨rfl, rfl⟩
  | yes _ _ hin hr => rw [h.u] at hin; exact absurd hin hm
theorem drop_none {r r' : Nat → Row} {id : Int} (h : DropIs r id r' false) : cR r id = 0 := by
  cases h with
  | none h0 =>
    have hz : ∀ q, q < 4 → cid (r q).items id = 0 := fun q hq => by
      unfold cid
      rw [List.length_eq_zero_iff, List.filter_eq_nil_iff]
      intro z hz
      obtain ⟨j, hj⟩ := List.getElem?_of_mem hz
      simpa using h0 q hq j z hj
    unfold cR
    rw [hz 0 (by omega), hz 1 (by omega), hz 2 (by omega), hz 3 (by omega)]
theorem less_self {l : List Int} {n : Int} (h : l.count n = 0) : lessOf l n = l := by
  unfold lessOf
  refine List.filter_eq_self.2 (fun z hz => ?_)
  simp only [ne_eq, decide_not, Bool.not_eq_eq_eq_not, Bool.not_true, decide_eq_false_iff_not]
  rintro rfl
  have := List.count_pos_iff.2 hz
  omega
/-- One is gone. -/
theorem PI.gone {g g' : Gt} {i id : Int} {us ws os ids : List Int} (h : PI g i us ws os) (hd : GoneIs g id ids g') :
    OnOk (lessOf ws id) ids ∧ PI g' i (lessOf us id ++ ids) (ids.foldl lessOf (lessOf ws id)) (if id ∈ us ∨ id ∈ ws then os ++ [id] else os) ∧ Full g' := by
  have hone := h.one id
  have hou : ∀ k, (if id ∈ us ∨ id ∈ ws then os ++ [id] else os).count k = os.count k + if id = k then us.count id + ws.count id else 0 := fun k => by
    by_cases e : id ∈ us ∨ id ∈ ws
    · rw [if_pos e, count_snoc]
      have : 1 ≤ us.count id + ws.count id := by
        rcases e with e | e
        · have := List.count_pos_iff.2 e; omega
        · have := List.count_pos_iff.2 e; omega
      by_cases e2 : id = k
      · subst e2; rw [if_pos rfl, if_pos rfl]; omega
      · rw [if_neg e2, if_neg e2]
    · rw [if_neg e]
      have h1 : us.count id = 0 := List.count_eq_zero.2 (fun hh => e (.inl hh))
      have h2 : ws.count id = 0 := List.count_eq_zero.2 (fun hh => e (.inr hh))
      split <;> omega
  have hall : ∀ k, (lessOf us id).count k + (lessOf ws id).count k + (if id ∈ us ∨ id ∈ ws then os ++ [id] else os).count k = us.count k + ws.count k + os.count k := fun k => by
    rw [count_less, count_less, hou]
    by_cases e : k = id
    · subst e; rw [if_pos rfl, if_pos rfl, if_pos rfl]; omega
    · rw [if_neg e, if_neg e, if_neg (fun hh => e hh.symm)]; omega
  cases hd with
  | wait r' _ _ hdr hr =>
    have hl := drop_less hdr ⟨id, 0, 0⟩ rfl
    have hc := hl id
    rw [if_pos rfl] at hc
    have hcw := h.w id
    have hu0 : us.count id = 0 := by omega
    refine PI.next (g := ⟨g.most, g.n - 1, r', g.lim, g.U⟩) ⟨h.ok.wait hdr, ?_, fun k => ?_, fun k => ?_, fun k hne => ?_, ?_, ?_, ?_⟩ hr
    · dsimp only; rw [less_self hu0]; exact h.u
    · have := hl k
      rw [count_less]
      dsimp only at this ⊢
      by_cases e : k = id
      · subst e; rw [if_pos rfl] at this ⊢; omega
      · rw [if_neg (fun hh => e hh.symm)] at this; rw [if_neg e, h.w]; omega
    · rw [hall]; exact h.one k
    · rw [hall] at hne; exact h.past k hne
    · have := length_less ws id; have := h.wn; dsimp only; omega
    · have := h.le; dsimp only; omega
    · rw [less_self hu0]; exact h.hi
  | under r' _ _ hdr hr =>
    have hw0 : ws.count id = 0 := by rw [h.w]; exact drop_none hdr
    have hok := h.ok.under hdr
    obtain rfl := drop_same hdr
    refine PI.next (g := ⟨g.most, g.n, g.r, g.lim, g.U.erase id⟩) ⟨hok, ?_, fun k => ?_, fun k => ?_, fun k hne => ?_, ?_, h.le, ?_⟩ hr
    · dsimp only; rw [h.u, erase_less (by omega)]
    · rw [less_self hw0]; exact h.w k
    · rw [hall]; exact h.one k
    · rw [hall] at hne; exact h.past k hne
    · rw [less_self hw0]; exact h.wn
    · have := length_less us id; have := h.hi; dsimp only; omega
theorem put_less {most n n' : Int} {r r' : Nat → Row} {p : Nat} {x y : It} {is : Bool} (hp : p < 4) (h : PutIs most n r p x r' n' y is) :
    (is = false ∧ n' = n + 1 ∧ n + 1 ≤ most ∧ ∀ id, cR r' id = cR r id + if x.id = id then 1 else 0) ∨ (is = true ∧ n' = n ∧ ∀ id, cR r' id + (if y.id = id then 1 else 0) = cR r id + if x.id = id then 1 else 0) := by
  cases h with
  | room h => exact .inl ⟨rfl, rfl, h, cR_add hp⟩
  | over _ _ ho hs => exact .inr ⟨rfl, rfl, fun id => (shed_less hs id).trans (cR_add hp id)⟩
theorem PI.fresh {g : Gt} {i k : Int} {us ws os : List Int} (h : PI g i us ws os) (hk : i < k) : us.count k = 0 ∧ ws.count k = 0 ∧ os.count k = 0 := by
  have := h.past k
  by_cases e : us.count k + ws.count k + os.count k = 0
  · omega
  · have := this e; omega
/-- One comes. -/
theorem PI.enter {g g' : Gt} {i : Int} {us ws os : List Int} {p : Nat} {x sh : It} {what : Int} {is : Bool} (h : PI g i us ws os) (hi : 0 ≤ i) (hf : Full g) (he : EnterIs g p x what sh is g') (hp : p < 4) (hx : x.prio = (p : Int)) (hid : x.id = i + 1) :
    Full g' ∧ ((what = 1 ∧ is = false ∧ PI g' (i + 1) (us ++ [x.id]) ws os) ∨ (what = 2 ∧ is = false ∧ PI g' (i + 1) us (ws ++ [x.id]) os) ∨ (what = 3 ∧ is = false ∧ PI g' (i + 1) us ws (os ++ [x.id])) ∨
      (what = 2 ∧ is = true ∧ sh.id ∈ ws ++ [x.id] ∧ ¬ sh.id = x.id ∧ PI g' (i + 1) us (lessOf (ws ++ [x.id]) sh.id) (os ++ [sh.id]))) := by
  obtain ⟨f1, f2, f3⟩ := h.fresh (k := x.id) (by omega)
  have hm1 := h.ok.m1
  cases he with
  | runs hlt =>
    have hnu : x.id ∉ us := List.count_eq_zero.1 f1
    have hU : putU g.U x.id = us ++ [x.id] := by rw [h.u]; unfold putU; rw [if_neg hnu]
    have hul : g.U.length = us.length := by rw [h.u]
    have hl2 := h.ok.lim.l2
    have hl3 := h.ok.lim.l3
    refine ⟨fun hlt2 => hf hlt, .inl ⟨rfl, rfl, ⟨h.ok.rows, h.ok.n1, h.ok.m0, h.ok.m1, h.ok.lim, ?_⟩, hU, h.w, fun id => ?_, fun id hne => ?_, h.wn, h.le, ?_⟩⟩
    · dsimp only; rw [hU]; simp; omega
    · have := h.one id
      rw [count_snoc]
      by_cases e : x.id = id
      · subst e; rw [if_pos rfl]; omega
      · rw [if_neg e]; omega
    · rw [count_snoc] at hne
      by_cases e : x.id = id
      · omega
      · rw [if_neg e] at hne; have := h.past id (by omega); omega
    · dsimp only; simp; omega
  | waits r' n' y hle hput =>
    rcases put_less hp hput with ⟨-, rfl, hm, hc⟩ | ⟨hh, -⟩
    · refine ⟨fun hlt => by dsimp only at hlt; omega, .inr (.inl ⟨rfl, rfl, ⟨h.ok.rows.put hp hx hput, by dsimp only; omega, h.ok.m0, h.ok.m1, h.ok.lim, h.ok.u⟩, h.u, fun id => ?_, fun id => ?_, fun id hne => ?_, ?_, hm, h.hi⟩)⟩
      · dsimp only; rw [count_snoc, hc, h.w]
      · have := h.one id
        rw [count_snoc]
        by_cases e : x.id = id
        · subst e; rw [if_pos rfl]; omega
        · rw [if_neg e]; omega
      · rw [count_snoc] at hne
        by_cases e : x.id = id
        · omega
        · rw [if_neg e] at hne; have := h.past id (by omega); omega
      · have := h.wn; dsimp only; simp; omega
    · cases hh
  | shed r' n' y hle hput hy =>
    rcases put_less hp hput with ⟨hh, -⟩ | ⟨-, rfl, hc⟩
    · cases hh
    · refine ⟨fun hlt => by dsimp only at hlt; omega, .inr (.inr (.inl ⟨rfl, rfl, ⟨h.ok.rows.put hp hx hput, h.ok.n1, h.ok.m0, h.ok.m1, h.ok.lim, h.ok.u⟩, h.u, fun id => ?_, fun id => ?_, fun id hne => ?_, h.wn, h.le, h.hi⟩))⟩
      · have := hc id; rw [hy] at this; dsimp only; rw [h.w]; omega
      · have := h.one id
        rw [count_snoc]
        by_cases e : x.id = id
        · subst e; rw [if_pos rfl]; omega
        · rw [if_neg e]; omega
      · rw [count_snoc] at hne
        by_cases e : x.id = id
        · omega
        · rw [if_neg e] at hne; have := h.past id (by omega); omega
  | other r' n' y hle hput hy =>
    rcases put_less hp hput with ⟨hh, -⟩ | ⟨-, rfl, hc⟩
    · cases hh
    · have hcs := hc sh.id
      rw [if_pos rfl, if_neg (fun hh => hy hh.symm), ← h.w] at hcs
      have h1 := h.one sh.id
      have hws : 1 ≤ ws.count sh.id := by omega
      refine ⟨fun hlt => by dsimp only at hlt; omega, .inr (.inr (.inr ⟨rfl, rfl, List.mem_append_left _ (List.count_pos_iff.1 hws), hy, ⟨h.ok.rows.put hp hx hput, h.ok.n1, h.ok.m0, h.ok.m1, h.ok.lim, h.ok.u⟩, h.u, fun id => ?_, fun id => ?_, fun id hne => ?_, ?_, h.le, h.hi⟩))⟩
      · have := hc id
        rw [count_less, count_snoc]
        dsimp only
        by_cases e : id = sh.id
        · subst e; rw [if_pos rfl] at this ⊢; rw [if_neg (fun hh => hy hh.symm)] at this; have := h.w sh.id; omega
        · rw [if_neg (fun hh => e hh.symm)] at this; rw [if_neg e, h.w]; omega
      · have := h.one id
        have e3 : ¬ id = sh.id → ¬ sh.id = id := fun e hh => e hh.symm
        rw [count_less, count_snoc, count_snoc]
        by_cases e : id = sh.id
        · subst e; rw [if_pos rfl, if_pos rfl]; omega
        · rw [if_neg e, if_neg (e3 e)]
          by_cases e2 : x.id = id
          · subst e2; rw [if_pos rfl]; omega
          · rw [if_neg e2]; omega
      · rw [count_less, count_snoc, count_snoc] at hne
        by_cases e : id = sh.id
        · subst e; have := h.past sh.id (by omega); omega
        · rw [if_neg e, if_neg (show ¬ sh.id = id from fun hh => e hh.symm)] at hne
          by_cases e2 : x.id = id
          · omega
          · rw [if_neg e2] at hne; have := h.past id (by omega); omega
      · have h2 := length_less (ws ++ [x.id]) sh.id
        rw [count_snoc, if_neg (fun hh => hy hh.symm)] at h2
        have := h.wn
        simp at h2
        dsimp only
        omega
end Go.Proofs.Ytklbnldkfohkpaa
