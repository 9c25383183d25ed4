/- Layer 22: rows by their flows, in a map. -/
import Derived.Test.YtapoikegoknlcaaFairO
import Derived.Deep.CutBlock
namespace Go.Proofs.Ytapoikegoknlcaa
open Go.RowKit
theorem tMapRow : Try.prog.underlying 70 = some (.map 3 37) := by kernel_rfl
theorem zeroRow (w : World) : (zeroValue 37).run Try.prog w = .ok (.slice none 0 0) w := by kernel_rfl
/-- 'append(row, x)' of one element that has just been built: and where the row lies then. -/
theorem wpList_append_put {P : Program} {ops : Array Oper} {rest : List Oper} {o : Oper} {a : Act} {Q : Exit → Act → World → Prop} (wr : World) (hgd : o.guard = none) (s x : Operand) (t : TypeId)
    (ho : o.op = .call { callee := .builtin .append, args := #[s, x], argTypes := #[t, t] })
    (base : Nat) (e : TypeId) (size bytes : Nat) {z : Value} (hinfo : (P.info? e).map (fun i => (i.zero, i.size, i.bytes)) = some (some z, size, bytes)) (ht : P.underlying t = some (.slice e)) (hzs : z.cells.size = size) (hsz : 0 < size)
    (v : Value) (n : Nat) (xs : List Value) (hs : a.eval s = v) (hown : wr.ownsRow base e size v n xs)
    (news : List Value) (hx : a.eval x = .slice (some ⟨wr.heap.size, 0, none⟩) 1 1) (hl : news.length = size) (h1 : news.all Value.oneCell' = true)
    (hn : n + 1 ≤ maxLen) (hbytes : (n + 1) * bytes ≤ 140737488355328) (hbase : base ≤ wr.heap.size)
    (h : ∀ g cap w', w'.ownsRow base e size (.slice (some ⟨g, 0, none⟩) (n + 1) cap) (n + 1) (xs ++ news) → Upd v.ownBlock.toList wr w' → (v.ownBlock = some g ∨ wr.heap.size ≤ g) → wpList P ops Q rest (a.put o.dst (.slice (some ⟨g, 0, none⟩) (n + 1) cap)) w') : wpList P ops Q (o :: rest) a (wr.alloc (.cells news.toArray e)) := by
  obtain ⟨i, hi, hz, hz1, hz2⟩ := info_parts hinfo
  refine wpList_step (fun K hK => ?_)
  refine step_append_own hgd s x t ho base e i z size bytes ht hi hz hz1 hz2 hzs hsz v n xs hs (hown.alloc _) ⟨wr.heap.size, 0, none⟩ 1 1 news hx (by omega) (by omega) (cells_new wr e news) (fun u hu => List.all_eq_true.1 h1 u hu) hn hbytes (by simp; omega) ?_
  intro g cap w' hown' hu hg
  refine hK _ _ (h g cap w' hown' ((Upd.alloc _ wr _).trans hu) (hg.imp id (fun hh => ?_)))
  have : (wr.alloc (.cells news.toArray e)).heap.size = wr.heap.size + 1 := by simp
  omega
/-- A map of rows of the call's own. -/
structure MR (W : World) (M lo : Nat) (c : Int → List It) (vf : Int → Value) : Prop where
  at_ : ∃ es clock, MapAt W M es clock ∧ IntKeys es ∧ ∀ k, (getE es k).getD (.slice none 0 0) = vf k
  own : ∀ k, W.ownsRow lo 27 3 (vf k) (c k).length (cellsI (c k))
  apart : ∀ j k g, j ≠ k → (vf j).ownBlock = some g → (vf k).ownBlock ≠ some g
  low : M < lo
theorem MR.keep {S : List Nat} {W W' : World} {M lo : Nat} {c : Int → List It} {vf : Int → Value} (h : MR W M lo c vf) (u : Upd S W W') (hM : M ∉ S) (hS : ∀ k g, (vf k).ownBlock = some g → g ∉ S) : MR W' M lo c vf := by
  obtain ⟨es, clock, h1, h2⟩ := h.at_
  exact ⟨⟨es, clock, h1.keep u hM, h2⟩, fun k => u.owns (h.own k) (hS k), h.apart, h.low⟩
theorem MR.next {W W' : World} {M lo : Nat} {c : Int → List It} {vf : Int → Value} (h : MR W M lo c vf) (u : Upd [] W W') : MR W' M lo c vf := h.keep u (by simp) (by simp)
theorem MR.look {W : World} {M lo : Nat} {c : Int → List It} {vf : Int → Value} (h : MR W M lo c vf) (k : Int) :
    (Instr.lookup 70 (.map (some M)) (.int .i64 k) false).run Try.prog W = .ok (vf k) W := by
  obtain ⟨es, clock, hm, hi, hv⟩ := h.at_
  rw [map_look tMapRow tInt hm hi (zeroRow W) k, hv k]
def setC {α : Type} (c : Int → α) (f : Int) (y : α) : Int → α := fun k => if k = f then y else c k
theorem setC_same {α : Type} (c : Int → α) (f : Int) (y : α) : setC c f y f = y := by simp [setC]
theorem setC_other {α : Type} (c : Int → α) {f k : Int} (y : α) (h : k ≠ f) : setC c f y k = c k := by simp [setC, h]
theorem MR.store {W w1 : World} {M lo : Nat} {c : Int → List It} {vf : Int → Value} (h : MR W M lo c vf) (f : Int) (u : Upd (vf f).ownBlock.toList W w1) {v' : Value} {g' : Nat} {y : List It} (hlo : lo ≤ W.heap.size)
    (ho : w1.ownsRow lo 27 3 v' y.length (cellsI y)) (hv' : v'.ownBlock = some g') (hg : (vf f).ownBlock = some g' ∨ W.heap.size ≤ g') :
    ∃ w2, (Instr.mapUpdate 70 (.map (some M)) (.int .i64 f) v').run Try.prog w1 = .ok () w2 ∧ MR w2 M lo (setC c f y) (setC vf f v') ∧ Upd [M] w1 w2 := by
  obtain ⟨es, clock, hm, hi, hv⟩ := h.at_
  have hlow := h.low
  have hm1 : MapAt w1 M es clock := hm.keep u (by
    intro hh; simp at hh
    have := ((h.own f).lt M hh).1; omega)
  obtain ⟨w2, es', c', h1, h2, h3, h4, h5, h6⟩ := map_store tMapRow tInt hm1 hi f v'
  have hga : ∀ k, k ≠ f → (vf k).ownBlock ≠ some g' := fun k hk hh => by
    rcases hg with hg | hg
    · exact h.apart k f g' hk hh hg
    · have := ((h.own k).lt g' hh).2; omega
  refine ⟨w2, h1, ⟨⟨es', c', h2, h3, fun k => ?_⟩, fun k => ?_, fun j k g hjk hj hk => ?_, h.low⟩, h5⟩
  · rw [h4]
    by_cases e : k = f
    · subst e; rw [if_pos rfl, setC_same]; rfl
    · rw [if_neg e, setC_other _ _ e]; exact hv k
  · by_cases e : k = f
    · subst e; rw [setC_same, setC_same]
      exact h5.owns ho (fun q hq => by simp; have := (ho.lt q hq).1; omega)
    · rw [setC_other _ _ e, setC_other _ _ e]
      refine h5.owns (u.owns (h.own k) (fun q hq => ?_)) (fun q hq => by simp; have := ((h.own k).lt q hq).1; omega)
      simp; intro hh; exact h.apart k f q e hq hh
  · by_cases e1 : j = f
    · subst e1; rw [setC_same, hv'] at hj; cases hj
      rw [setC_other _ _ (Ne.symm hjk)] at hk
      exact hga k (Ne.symm hjk) hk
    · rw [setC_other _ _ e1] at hj
      by_cases e2 : k = f
      · subst e2; rw [setC_same, hv'] at hk; cases hk; exact hga j e1 hj
      · rw [setC_other _ _ e2] at hk; exact h.apart j k g hjk hj hk
theorem MR.new (W : World) (lo : Nat) (h : W.heap.size < lo) : MR (W.alloc (.map #[] 0)) W.heap.size lo (flowOf []) (fun _ => .slice none 0 0) :=
  ⟨⟨[], 0, MapAt.new W, (by intro e he; cases he), fun k => rfl⟩, fun k => World.ownsRow_nil _ _ _ _, fun j k g _ hh => by simp [Value.ownBlock] at hh, h⟩
theorem flowOf_next {l : List It} {j : Nat} {x : It} (h : l[j]? = some x) : flowOf (l.take (j + 1)) = setC (flowOf (l.take j)) x.flow (flowOf (l.take j) x.flow ++ [x]) := by
  funext k
  rw [take_next h]
  unfold setC flowOf
  rw [List.filter_append]
  by_cases e : k = x.flow
  · subst e; simp
  · rw [if_neg e]
    have : ¬ x.flow = k := fun hh => e hh.symm
    simp [this]
def KeysOk (l : List It) (K : List Int) : Prop := K.Nodup ∧ ∀ k, k ∈ K ↔ flowOf l k ≠ []
theorem KeysOk.new {l : List It} {j : Nat} {x : It} {K : List Int} (h : KeysOk (l.take j) K) (hx : l[j]? = some x) (h0 : flowOf (l.take j) x.flow = []) : KeysOk (l.take (j + 1)) (K ++ [x.flow]) := by
  have hn : x.flow ∉ K := fun hh => (h.2 _).1 hh h0
  refine ⟨?_, fun k => ?_⟩
  · rw [List.nodup_append]
    refine ⟨h.1, by simp, fun a ha b hb => ?_⟩
    simp at hb; subst hb
    exact fun e => hn (by rw [← e]; exact ha)
  · rw [flowOf_next hx]
    by_cases e : k = x.flow
    · subst e; rw [setC_same]; simp
    · rw [setC_other _ _ e]; simp [e, h.2 k]
theorem KeysOk.old {l : List It} {j : Nat} {x : It} {K : List Int} (h : KeysOk (l.take j) K) (hx : l[j]? = some x) (h0 : flowOf (l.take j) x.flow ≠ []) : KeysOk (l.take (j + 1)) K := by
  refine ⟨h.1, fun k => ?_⟩
  rw [flowOf_next hx]
  by_cases e : k = x.flow
  · subst e; rw [setC_same]; simp [(h.2 _).2 h0]
  · rw [setC_other _ _ e]; exact h.2 k
theorem nodup_le : ∀ (K L : List Int), K.Nodup → (∀ k ∈ K, k ∈ L) → K.length ≤ L.length
  | [], L, _, _ => by simp
  | a :: K, L, h, hs => by
    have ha := hs a (by simp)
    have h2 := List.nodup_cons.1 h
    have := nodup_le K (L.erase a) h2.2 (fun k hk => (List.mem_erase_of_ne (fun e => h2.1 (by rw [← e]; exact hk))).2 (hs k (by simp [hk])))
    rw [List.length_erase_of_mem ha] at this
    have := List.length_pos_of_mem ha
    simp; omega
theorem KeysOk.len {l : List It} {K : List Int} (h : KeysOk l K) : K.length ≤ l.length := by
  have h1 : K ⊆ l.map (fun x => x.flow) := fun k hk => by
    obtain ⟨x, hx, hf⟩ := flowOf_ne.1 ((h.2 k).1 hk)
    exact List.mem_map.2 ⟨x, hx, hf⟩
  have := nodup_le K _ h.1 h1
  simpa using this
end Go.Proofs.Ytapoikegoknlcaa
