/- Layer 22: none is lost: the plain law. -/
import Derived.Test.YtapoikegoknlcaaFairV
namespace Go.Proofs.Ytapoikegoknlcaa
open Go.RowKit
def cid (l : List It) (id : Int) : Nat := (l.filter (fun x => decide (x.id = id))).length
theorem cid_app (l m : List It) (id : Int) : cid (l ++ m) id = cid l id + cid m id := by simp [cid, List.filter_append]
theorem cid_one (x : It) (id : Int) : cid [x] id = if x.id = id then 1 else 0 := by
  by_cases h : x.id = id <;> simp [cid, h]
theorem cid_perm {l m : List It} (h : l.Perm m) (id : Int) : cid l id = cid m id := by unfold cid; rw [(h.filter _).length_eq]
theorem cid_erase {l : List It} {i : Nat} {x : It} (h : l[i]? = some x) (id : Int) : cid (l.eraseIdx i) id + (if x.id = id then 1 else 0) = cid l id := by
  obtain ⟨h1, h2⟩ := split_at h
  have e : cid l id = cid (l.take i) id + (cid [x] id + cid (l.drop (i + 1)) id) := by
    conv => lhs; rw [h1]
    rw [cid_app, ← List.singleton_append, cid_app]
  rw [h2, cid_app, e, cid_one]
  omega
def cR (r : Nat → Row) (id : Int) : Nat := cid (r 0).items id + cid (r 1).items id + cid (r 2).items id + cid (r 3).items id
theorem cR_upd {r : Nat → Row} {p : Nat} (hp : p < 4) (y : Row) (id : Int) : cR (upd r p y) id + cid (r p).items id = cR r id + cid y.items id := by
  unfold cR
  rcases (show p = 0 ∨ p = 1 ∨ p = 2 ∨ p = 3 by omega) with rfl | rfl | rfl | rfl <;> simp [upd] <;> omega
theorem cR_erase {r : Nat → Row} {p i : Nat} {x : It} (hp : p < 4) (hx : (r p).items[i]? = some x) (tk : Bool) (last : Int) (id : Int) : cR (upd r p ⟨(r p).items.eraseIdx i, tk, last⟩) id + (if x.id = id then 1 else 0) = cR r id := by
  have h1 := cR_upd (r := r) hp ⟨(r p).items.eraseIdx i, tk, last⟩ id
  have h2 := cid_erase hx id
  dsimp only at h1
  omega
theorem cR_add {r : Nat → Row} {p : Nat} {x : It} (hp : p < 4) (id : Int) : cR (addIt r p x) id = cR r id + if x.id = id then 1 else 0 := by
  have h1 := cR_upd (r := r) hp ⟨(r p).items ++ [x], (r p).taken, (r p).last⟩ id
  dsimp only at h1
  rw [cid_app, cid_one] at h1
  unfold addIt
  omega
theorem AllR.cid {r : Nat → Row} {o : List It} (h : AllR r 0 o) (id : Int) : cid o id = cR r id := by
  obtain ⟨a3, a2, a1, a0, r3, r2, r1, r0, rfl⟩ := h.parts
  simp only [cid_app, cid_perm r3.perm, cid_perm r2.perm, cid_perm r1.perm, cid_perm r0.perm, cR]
  omega
/-- r' is r without x. -/
def Less (r r' : Nat → Row) (x : It) : Prop := ∀ id, cR r' id + (if x.id = id then 1 else 0) = cR r id
theorem take_less {r r' : Nat → Row} {x : It} (h : TakeIs r r' x true) : Less r r' x := by
  cases h with
  | some p i f x h1 h2 h3 h4 h5 h6 => exact fun id => cR_erase h1 h4 _ _ id
theorem take_same {r r' : Nat → Row} {x : It} (h : TakeIs r r' x false) : r' = r := by
  cases h with
  | none h0 => rfl
theorem drop_less {r r' : Nat → Row} {id : Int} (h : DropIs r id r' true) (y : It) (hy : y.id = id) : Less r r' y := by
  cases h with
  | some p i h1 h2 h3 =>
    obtain ⟨x, hx, hxi⟩ := h3.1
    intro q
    have := cR_erase h1 hx (r p).taken (r p).last q
    rw [hxi] at this
    rw [hy]
    exact this
theorem drop_same {r r' : Nat → Row} {id : Int} (h : DropIs r id r' false) : r' = r := by
  cases h with
  | none h0 => rfl
theorem shed_less {r r' : Nat → Row} {x : It} (h : ShedIs r r' x) : Less r r' x := by
  cases h with
  | some p i f x h1 h2 h3 h4 h5 h6 => exact fun id => cR_erase h1 h4 _ _ id
structure LI (r : Nat → Row) (n : Int) (i : Nat) (G : List Int) : Prop where
  ok : RowsOk r n
  len : G.length = 40
  one : ∀ j : Nat, j < 40 → (G.getD j 0 = 1 ↔ cR r j = 1)
  le : ∀ id, cR r id ≤ 1
  past : ∀ id, cR r id ≠ 0 → 0 ≤ id ∧ id < (i : Int)
theorem getD_set {G : List Int} {j q : Nat} (v : Int) (hj : j < G.length) : (G.set j v).getD q 0 = if q = j then v else G.getD q 0 := by
  simp only [List.getD_eq_getElem?_getD, List.getElem?_set]
  by_cases e : q = j
  · subst e; simp [hj]
  · rw [if_neg (fun h => e h.symm), if_neg e]
theorem LI.start : LI (fun _ => ⟨[], false, 0⟩) 0 0 (List.replicate 40 0) :=
  ⟨RowsOk.nil, by simp, fun j hj => by
    constructor
    · intro h
      have e : ∀ m j : Nat, (List.replicate m (0 : Int)).getD j 0 = 0 := fun m j => by
        rw [List.getD_eq_getElem?_getD, List.getElem?_replicate]; split <;> rfl
      rw [e] at h; cases h
    · intro h; simp [cR, cid] at h, fun id => by simp [cR, cid], fun id h => by simp [cR, cid] at h⟩
theorem LI.mono {r : Nat → Row} {n : Int} {i : Nat} {G : List Int} (h : LI r n i G) {i' : Nat} (hi : i ≤ i') : LI r n i' G := ⟨h.ok, h.len, h.one, h.le, fun id hd => by have := h.past id hd; omega⟩
/-- One less. -/
theorem LI.less {r r' : Nat → Row} {n : Int} {i : Nat} {G : List Int} (h : LI r n i G) (hi : i ≤ 40) {x : It} (hl : Less r r' x) (hok : RowsOk r' (n - 1)) : ∃ j : Nat, x.id = (j : Int) ∧ j < 40 ∧ G.getD j 0 = 1 ∧ LI r' (n - 1) i (G.set j 2) := by
  have hx := hl x.id
  rw [if_pos rfl] at hx
  have hle := h.le x.id
  have hp := h.past x.id (by omega)
  obtain ⟨j, hj⟩ : ∃ j : Nat, x.id = (j : Int) := ⟨x.id.toNat, by omega⟩
  refine ⟨j, hj, by omega, (h.one j (by omega)).2 (by rw [← hj]; omega), hok, by simp [h.len], fun q hq => ?_, fun id => ?_, fun id hd => ?_⟩
  · rw [getD_set 2 (by rw [h.len]; omega)]
    have hq2 := hl (q : Int)
    by_cases e : q = j
    · subst e
      rw [if_pos rfl]
      rw [if_pos hj] at hq2
      have := h.le (q : Int)
      constructor
      · intro h; omega
      · intro h; omega
    · rw [if_neg e, h.one q hq]
      rw [if_neg (by omega)] at hq2
      rw [← hq2]; simp
  · have := hl id; have := h.le id; omega
  · have := hl id; exact h.past id (by omega)
/-- One more. -/
theorem LI.more {r : Nat → Row} {n : Int} {i : Nat} {G : List Int} (h : LI r n i G) (hi : i < 40) {p : Nat} {x : It} (hp : p < 4) (hx : x.prio = (p : Int)) (hid : x.id = (i : Int)) : LI (addIt r p x) (n + 1) (i + 1) (G.set i 1) := by
  have h0 : cR r (i : Int) = 0 := by
    rcases Nat.eq_zero_or_pos (cR r (i : Int)) with e | e
    · exact e
    · have := h.past (i : Int) (by omega); omega
  refine ⟨h.ok.add hp hx, by simp [h.len], fun q hq => ?_, fun id => ?_, fun id hd => ?_⟩
  · rw [getD_set 1 (by rw [h.len]; omega), cR_add hp, hid]
    by_cases e : q = i
    · subst e; rw [if_pos rfl, if_pos rfl, h0]; simp
    · rw [if_neg e, if_neg (by omega), h.one q hq]; simp
  · rw [cR_add hp, hid]
    by_cases e : (i : Int) = id
    · subst e; rw [if_pos rfl, h0]; omega
    · rw [if_neg e]; have := h.le id; omega
  · rw [cR_add hp, hid] at hd
    by_cases e : (i : Int) = id
    · omega
    · rw [if_neg e] at hd; have := h.past id (by omega); omega
/-- A row of ints in a block. -/
def IntsAt (W : World) (g : Nat) (G : List Int) : Prop := BlockAt W g 3 (G.map (Value.int .i64))
theorem IntsAt.cell {W : World} {g : Nat} {G : List Int} (h : IntsAt W g G) {j : Nat} (hj : j < G.length) : W.cell? ⟨g, j, none⟩ = some (.int .i64 (G.getD j 0)) := BlockAt.cell h j _ (by simp [List.getD_eq_getElem?_getD, hj])
theorem IntsAt.set {W : World} {g : Nat} {G : List Int} (h : IntsAt W g G) (j : Nat) (v : Int) : IntsAt (W.setCell ⟨g, j, none⟩ (.int .i64 v)) g (G.set j v) := by
  unfold IntsAt
  rw [List.map_set]
  exact BlockAt.set h j _
structure LS (w W : World) (b g : Nat) (k n : Int) (r : Nat → Row) (G : List Int) (S : List Nat) : Prop where
  q : QS w.heap.size W b k n r (g :: S)
  st : Below w.heap.size w W
  ints : IntsAt W g G
  low : w.heap.size ≤ g
theorem LS.next {w W W' : World} {b g : Nat} {k n : Int} {r : Nat → Row} {G : List Int} {S : List Nat} (h : LS w W b g k n r G S) (u : Upd [] W W') : LS w W' b g k n r G S :=
  ⟨h.q.next u, h.st.trans (u.below h.st.size (by simp)), BlockAt.keep h.ints u (by simp), h.low⟩
theorem LS.new {w W : World} {b g : Nat} {k n : Int} {r : Nat → Row} {G : List Int} (h : LS w W b g k n r G []) (o : Obj) : LS w (W.alloc o) b g k n r G [W.heap.size] := by
  refine ⟨?_, h.st.trans ((Upd.alloc [] W o).below h.st.size (by simp)), BlockAt.alloc h.ints o, h.low⟩
  exact (h.q.alloc o).sub (by simp)
theorem LS.step {w W W' : World} {b g : Nat} {k n n' : Int} {r r' : Nat → Row} {G : List Int} {S : List Nat} (h : LS w W b g k n r G S) (hq : QS w.heap.size W' b k n' r' (g :: S)) (hst : QStep w.heap.size (g :: S) W W') : LS w W' b g k n' r' G S :=
  ⟨hq, h.st.trans hst.below, hst.block (by simp) h.ints, h.low⟩
theorem LS.set {w W : World} {b g : Nat} {k n : Int} {r : Nat → Row} {G : List Int} {S : List Nat} (h : LS w W b g k n r G S) (j : Nat) (v : Int) : LS w (W.setCell ⟨g, j, none⟩ (.int .i64 v)) b g k n r (G.set j v) S :=
  ⟨h.q.write (Upd.setCell' (S := [g]) W ⟨g, j, none⟩ _ (by simp)) (by simp), h.st.trans ((Upd.setCell W ⟨g, j, none⟩ _).below h.st.size (by simp; exact h.low)), h.ints.set j v, h.low⟩
theorem LS.other {w W W' : World} {b g s : Nat} {k n : Int} {r : Nat → Row} {G : List Int} {S : List Nat} (h : LS w W b g k n r G S) (hs : s ∈ S) (u : Upd [s] W W') (hg : s ≠ g) (hl : w.heap.size ≤ s) : LS w W' b g k n r G S :=
  ⟨h.q.write u (by simp; exact .inr hs), h.st.trans (u.below h.st.size (by simp; exact hl)), BlockAt.keep h.ints u (by simp; exact fun e => hg e.symm), h.low⟩
theorem LS.drop {w W : World} {b g : Nat} {k n : Int} {r : Nat → Row} {G : List Int} {S : List Nat} (h : LS w W b g k n r G S) : LS w W b g k n r G [] := ⟨h.q.sub (by simp), h.st, h.ints, h.low⟩
end Go.Proofs.Ytapoikegoknlcaa
