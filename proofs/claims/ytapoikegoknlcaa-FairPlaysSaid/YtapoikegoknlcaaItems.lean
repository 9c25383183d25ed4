/- Items in memory of the call's own: a row of them in a block; slices.Delete at such a row. -/
import Derived.Test.YtapoikegoknlcaaAround
import Derived.Deep.RegionLaw
import Derived.Laws.IdiomCopy
namespace Go.Proofs.Ytapoikegoknlcaa
open Go.RowKit
structure It where
  id : Int
  prio : Int
  flow : Int
def It.cells (x : It) : List Value := [.int .i64 x.id, .int .i64 x.prio, .int .i64 x.flow]
def It.val (x : It) : Value := .agg #[.int .i64 x.id, .int .i64 x.prio, .int .i64 x.flow]
def cellsI (l : List It) : List Value := l.flatMap It.cells
theorem cellsI_cons (x : It) (l : List It) : cellsI (x :: l) = x.cells ++ cellsI l := rfl
theorem cellsI_append (l m : List It) : cellsI (l ++ m) = cellsI l ++ cellsI m := by simp [cellsI]
theorem cellsI_length (l : List It) : (cellsI l).length = l.length * 3 := by
  induction l with
  | nil => rfl
  | cons a l ih => rw [cellsI_cons, List.length_append, ih]; simp [It.cells]; omega
theorem cellsI_get : ∀ (l : List It) (k : Nat) (x : It), l[k]? = some x → (cellsI l)[k * 3]? = some (.int .i64 x.id) ∧ (cellsI l)[k * 3 + 1]? = some (.int .i64 x.prio) ∧ (cellsI l)[k * 3 + 2]? = some (.int .i64 x.flow)
  | [], k, x, h => by simp at h
  | y :: l, 0, x, h => by simp at h; subst h; simp [cellsI_cons, It.cells]
  | y :: l, k + 1, x, h => by
    have := cellsI_get l k x (by simpa using h)
    rw [cellsI_cons]
    rw [show (k + 1) * 3 = k * 3 + 3 by omega]
    simpa [It.cells] using this
theorem cellsI_one (l : List It) : ∀ u ∈ cellsI l, u.oneCell' = true := by
  intro u hu
  obtain ⟨x, _, hx⟩ := List.mem_flatMap.1 hu
  simp [It.cells] at hx
  rcases hx with rfl | rfl | rfl <;> rfl
/-- Cells laid over others from a place on. -/
def overlay (cs : List Value) (o : Nat) (vs : List Value) : List Value := cs.take o ++ vs ++ cs.drop (o + vs.length)
theorem overlay_length {cs vs : List Value} {o : Nat} (h : o + vs.length ≤ cs.length) : (overlay cs o vs).length = cs.length := by
  simp [overlay]; omega
theorem overlay_cons {cs : List Value} {o : Nat} {v : Value} {vs : List Value} (h : o < cs.length) : overlay (cs.set o v) (o + 1) vs = overlay cs o (v :: vs) := by
  unfold overlay
  have e1 : (cs.set o v).take (o + 1) = cs.take o ++ [v] := by
    rw [List.take_succ_eq_append_getElem (by simpa using h)]
    simp [List.take_set_of_le]
  have e2 : (cs.set o v).drop (o + 1 + vs.length) = cs.drop (o + (v :: vs).length) := by
    rw [List.drop_set_of_lt (by omega)]
    simp only [List.length_cons]
    congr 1; omega
  rw [e1, e2]; simp
theorem BlockAt.setCells {t : TypeId} {b : Nat} : ∀ (vs : List Value) (w : World) (cs : List Value) (o : Nat), BlockAt w b t cs → o + vs.length ≤ cs.length → BlockAt (w.setCells b o vs) b t (overlay cs o vs)
  | [], w, cs, o, h, _ => by simpa [World.setCells, overlay] using h
  | v :: vs, w, cs, o, h, hl => by
    have h1 : o < cs.length := by simp at hl; omega
    have := BlockAt.setCells vs _ _ (o + 1) (h.set o v) (by simp at hl ⊢; omega)
    rw [overlay_cons h1] at this
    exact this
theorem Upd.setCells (b : Nat) : ∀ (vs : List Value) (w : World) (o : Nat), Upd [b] w (w.setCells b o vs)
  | [], w, o => Upd.refl _ _
  | v :: vs, w, o => (Upd.setCell' w ⟨b, o, none⟩ v (by simp)).trans (Upd.setCells b vs _ (o + 1))
/-- A row of items of the call's own: nil, or at the head of a block. -/
def ItemsAt (w : World) (v : Value) (l : List It) : Prop :=
  (v = .slice none 0 0 ∧ l = []) ∨ ∃ g cap junk, v = .slice (some ⟨g, 0, none⟩) l.length cap ∧ BlockAt w g 27 (cellsI l ++ junk) ∧ (cellsI l ++ junk).length = cap * 3 ∧ cap ≤ maxLen
theorem Try.infoItem : (Try.prog.info? 27).map (fun i => (i.zero, i.size, i.bytes)) = some (some (.agg #[.int .i64 0, .int .i64 0, .int .i64 0]), 3, 24) := by kernel_rfl
theorem del_cells {l : List It} {junk : List Value} {i : Nat} {x : It} (hx : l[i]? = some x) :
    ∃ junk', overlay (overlay (cellsI l ++ junk) (i * 3) (cellsI (l.drop (i + 1)))) ((l.length - 1) * 3) [.int .i64 0, .int .i64 0, .int .i64 0] = cellsI (l.eraseIdx i) ++ junk' := by
  obtain ⟨hi, -⟩ := List.getElem?_eq_some_iff.1 hx
  have e0 : l.eraseIdx i = l.take i ++ l.drop (i + 1) := List.eraseIdx_eq_take_drop_succ ..
  have hA : (cellsI (l.eraseIdx i)).length = (l.length - 1) * 3 := by rw [cellsI_length, List.length_eraseIdx]; simp [hi]
  have hov : overlay (cellsI l ++ junk) (i * 3) (cellsI (l.drop (i + 1))) = cellsI (l.eraseIdx i) ++ (cellsI l ++ junk).drop (i * 3 + (cellsI (l.drop (i + 1))).length) := by
    unfold overlay
    rw [e0, cellsI_append]
    have : (cellsI l ++ junk).take (i * 3) = cellsI (l.take i) := by
      have e1 : cellsI l = cellsI (l.take i) ++ cellsI (l.drop i) := by rw [← cellsI_append, List.take_append_drop]
      have e2 : (cellsI (l.take i)).length = i * 3 := by rw [cellsI_length]; simp; omega
      rw [e1, List.append_assoc, ← e2, List.take_left']
      rfl
    rw [this]
  rw [hov]
  refine ⟨[.int .i64 0, .int .i64 0, .int .i64 0] ++ ((cellsI l ++ junk).drop (i * 3 + (cellsI (l.drop (i + 1))).length)).drop 3, ?_⟩
  unfold overlay
  rw [← hA, List.take_left' rfl, List.append_assoc]
  congr 1
  congr 1
  rw [List.drop_append, List.drop_eq_nil_of_le (by simp), List.nil_append]
  congr 1
  simp
set_option maxHeartbeats 1600000 in
/-- slices.Delete of one item at such a row. -/
theorem del_any (g cap i : Nat) (l : List It) (junk : List Value) (x : It) (w : World) (hx : l[i]? = some x) (hb : BlockAt w g 27 (cellsI l ++ junk)) (hlen : (cellsI l ++ junk).length = cap * 3) (hm : cap ≤ maxLen) :
    Calls Try.prog 37 #[.slice (some ⟨g, 0, none⟩) l.length cap, .int .i64 i, .int .i64 ((i : Int) + 1)] w fun e w' =>
      e = .returned (.slice (some ⟨g, 0, none⟩) (l.length - 1) cap) ∧ (∃ junk', BlockAt w' g 27 (cellsI (l.eraseIdx i) ++ junk') ∧ (cellsI (l.eraseIdx i) ++ junk').length = cap * 3) ∧ Upd [g] w w' := by
  obtain ⟨hi, -⟩ := List.getElem?_eq_some_iff.1 hx
  have hm' : cap ≤ 9223372036854775807 := by unfold maxLen at hm; exact hm
  obtain ⟨n, hn⟩ : ∃ n, l.length = n := ⟨_, rfl⟩
  have hcl := cellsI_length l
  have hnc : n ≤ cap := by rw [List.length_append, hcl, hn] at hlen; omega
  have hD := del_cells (junk := junk) hx
  obtain ⟨mv, hmv⟩ : ∃ mv, cellsI (l.drop (i + 1)) = mv := ⟨_, rfl⟩
  have hmvl : mv.length = (n - (i + 1)) * 3 := by rw [← hmv, cellsI_length]; simp [hn]
  have hmvo : ∀ u ∈ mv, u.oneCell' = true := by rw [← hmv]; exact cellsI_one _
  have hmvg : ∀ j u, mv[j]? = some u → (cellsI l ++ junk)[(i + 1) * 3 + j]? = some u := by
    intro j u hu
    have e1 : cellsI l = cellsI (l.take (i + 1)) ++ cellsI (l.drop (i + 1)) := by rw [← cellsI_append, List.take_append_drop]
    have e2 : (cellsI (l.take (i + 1))).length = (i + 1) * 3 := by rw [cellsI_length]; simp; omega
    rw [e1, List.append_assoc, List.getElem?_append_right (by omega), e2, show (i + 1) * 3 + j - (i + 1) * 3 = j by omega, hmv, List.getElem?_append_left (List.getElem?_eq_some_iff.1 hu).1]
    exact hu
  rw [hn] at hi hD ⊢
  rw [hmv] at hD
  obtain ⟨m, hmn⟩ : ∃ m, n - 1 = m := ⟨_, rfl⟩
  rw [hmn] at hD ⊢
  have m1 : (m : Int) < n := by omega
  have m2 : (n : Int) ≤ m + 1 := by omega
  have m3 : (m : Int) ≤ cap := by omega
  have m4 : ¬ cap = m := by omega
  have m5 : n - m = 1 := by omega
  have i1 : (i : Int) < n := by omega
  have i2 : (i : Int) + 1 ≤ n := by omega
  have i3 : (n : Int) ≤ cap := by omega
  have hic : i ≤ cap := by omega
  have i4 : (0 : Int) ≤ (i : Int) + 1 := by omega
  have i5 : ((i : Int) + 1).toNat = i + 1 := by omega
  have i6 : ((i : Int) == (i : Int) + 1) = false := by rw [beq_eq_false_iff_ne]; omega
  obtain ⟨i0, hi0, hz0, hz1, hz2⟩ := info_parts Try.infoItem
  have hcell : ∀ o u, (cellsI l ++ junk)[o]? = some u → w.cell? ⟨g, o, none⟩ = some u := fun o u hu => hb.cell o u hu
  obtain ⟨A, hA, hnews⟩ : ∃ A : Addr, (if cap = i + 1 then some (⟨g, 0, none⟩ : Addr) else some ⟨g, (i + 1) * 3, none⟩) = some A ∧ Hid (∀ j u, mv[j]? = some u → w.drew.cell? (A.add j) = some u) := by
    by_cases h : cap = i + 1
    · refine ⟨⟨g, 0, none⟩, by simp [h], fun j u hu => ?_⟩
      have h0 : mv.length = 0 := by rw [hmvl]; omega
      rw [List.length_eq_zero_iff.1 h0] at hu
      simp at hu
    · refine ⟨⟨g, (i + 1) * 3, none⟩, by simp [h], fun j u hu => ?_⟩
      rw [Addr.add_lit]
      exact hcell _ _ (hmvg j u hu)
  have s1 : Hid (mv.length = (n - (i + 1)) * 3) := hmvl
  have s2 : Hid (∀ u ∈ mv, u.oneCell' = true) := hmvo
  have s3 : Hid (∀ j, j < mv.length → (w.drew.cell? ⟨g, 0 + i * 3 + j, none⟩).isSome = true ∧ w.drew.frozen? ⟨g, 0 + i * 3 + j, none⟩ = false) := by
    intro j hj
    rw [hmvl] at hj
    refine ⟨?_, hb.free _⟩
    obtain ⟨u, hu⟩ : ∃ u, (cellsI l ++ junk)[0 + i * 3 + j]? = some u := ⟨(cellsI l ++ junk)[0 + i * 3 + j]'(by omega), by simp⟩
    show (w.cell? _).isSome = true
    rw [hcell _ _ hu]; rfl
  have s4 : i + (n - (i + 1)) = m := by omega
  have hbo : BlockAt (w.drew.setCells g (i * 3) mv) g 27 (overlay (cellsI l ++ junk) (i * 3) mv) := by
    exact BlockAt.setCells mv w.drew _ _ hb (by omega)
  have hbl : (overlay (cellsI l ++ junk) (i * 3) mv).length = cap * 3 := by rw [overlay_length (by omega), hlen]
  have hul : Upd [g] w (w.drew.setCells g (i * 3) mv) := (Upd.drew _ w).trans (Upd.setCells g mv _ _)
  obtain ⟨W1, hW1⟩ : ∃ W1, w.drew.setCells g (i * 3) mv = W1 := ⟨_, rfl⟩
  rw [hW1] at hbo hul
  have hclr : ∀ ty, (Builtin.clear_ #[37] ty #[.slice (some ⟨g, m * 3, none⟩) 1 (cap - m)]).run Try.prog W1 = .ok (.tuple #[]) (W1.setCells g (m * 3) [.int .i64 0, .int .i64 0, .int .i64 0]) := by
    intro ty
    have hst := run_storeCells_cells (P := Try.prog) g (m * 3) [.int .i64 0, .int .i64 0, .int .i64 0] 0 W1 (by
      intro j hj
      simp at hj
      obtain ⟨u, hu⟩ : ∃ u, (overlay (cellsI l ++ junk) (i * 3) mv)[m * 3 + 0 + j]? = some u := ⟨(overlay (cellsI l ++ junk) (i * 3) mv)[m * 3 + 0 + j]'(by omega), by simp⟩
      rw [hbo.cell _ _ hu]; rfl) (fun j _ => hbo.free _) (by simp [Value.oneCell'])
    simp only [Nat.add_zero] at hst
    have hz : ∀ W, (zeroValue 27).run Try.prog W = .ok (.agg #[.int .i64 0, .int .i64 0, .int .i64 0]) W := fun _ => by kernel_rfl
    simp [Builtin.clear_, run_underlying Try.underlying37, hz, Result.andThen, Value.cells]
    have hzc : (Builtin.zeroCells #[Value.int .i64 0, Value.int .i64 0, Value.int .i64 0] 1).toList = [Value.int .i64 0, .int .i64 0, .int .i64 0] := by simp [Builtin.zeroCells, Array.range]
    rw [hzc, hst]
  have HBO := Lib.hid hbo
  have HUL := Lib.hid hul
  have HBL := Lib.hid hbl
  have HD := Lib.hid hD
  have HW1 := Lib.hid hW1
  clear hD hb hcl hmvg hmvo hx hcell hbo hul hbl hW1
  go_enter Try.func37, Try.ntmps37
  go_wp2_with fail
  go_region_law (refine step_append_room rfl (.tmp 22) (.tmp 25) 37 rfl 27 i0 3 Try.underlying37 hi0 hz1 g 0 i cap (by simp [Act.eval, Act.put]) A (n - (i + 1)) (cap - (i + 1)) mv (by simp [Act.eval, Act.put]) s1.out hnews.out s2.out (by omega) s3.out ?_)
  all_goals rw [show w.drew.setCells g (i * 3) mv = W1 from HW1.out]
  all_goals
    clear s4 i4 i5 i6 hA hnews s1 s2 s3 hi0 hz0 hz1 hz2 hmvl hlen hmv hn hmn
    have n2 : m ≤ cap := by omega
    have n4 : n ≤ cap := by omega
  all_goals go_wp2_with fail
  all_goals go_ret
  all_goals
    obtain ⟨junk', hj⟩ := HD.out
    have hb2 := BlockAt.setCells [.int .i64 0, .int .i64 0, .int .i64 0] W1 _ (m * 3) HBO.out (by rw [HBL.out]; simp; omega)
    rw [hj] at hb2
    refine ⟨rfl, ⟨junk', hb2, ?_⟩, HUL.out.trans (Upd.setCells g _ _ _)⟩
    rw [← hj, overlay_length (by rw [HBL.out]; simp; omega), HBL.out]
end Go.Proofs.Ytapoikegoknlcaa
