/- Cells laid over others; append onto a row of the call's own: where the row lies behind it. -/
import Derived.Test.YtfmgcnmikopgeaaAround
import Derived.Deep.RegionLaw
import Derived.Laws.IdiomCopy
import Derived.Deep.RegionLawGrows
namespace Go.Proofs.Ytfmgcnmikopgeaa
open Go.RowKit
/-- Cells laid over others from a place on. -/
def overlay (cs : List Value) (o : Nat) (vs : List Value) : List Value := cs.take o ++ vs ++ cs.drop (o + vs.length)
theorem overlay_length {cs vs : List Value} {o : Nat} (h : o + vs.length ≤ cs.length) : (overlay cs o vs).length = cs.length := by
  simp [overlay]; omega
theorem overlay_cons {cs : List Value} {o : Nat} {v : Value} {vs : List Value} (h : o < cs.length) : overlay (cs.set o v) (o + 1) vs = overlay cs o (v :: vs) := by
  unfold overlay
  have e1 : (cs.set o v).take (o + 1) = cs.take o ++ [v] := by
    rw [List.take_succ_eq_append_getElem (by simpa using h)]
    simp [List.take_set_of_le]
  have e2 : (cs.set o v).drop (o + 1 + vs.length) = cs.drop (o + (v :: vs).length) := by
    rw [List.drop_set_of_lt (by omega)]
    simp only [List.length_cons]
    congr 1; omega
  rw [e1, e2]; simp
theorem BlockAt.setCells {t : TypeId} {b : Nat} : ∀ (vs : List Value) (w : World) (cs : List Value) (o : Nat), BlockAt w b t cs → o + vs.length ≤ cs.length → BlockAt (w.setCells b o vs) b t (overlay cs o vs)
  | [], w, cs, o, h, _ => by simpa [World.setCells, overlay] using h
  | v :: vs, w, cs, o, h, hl => by
    have h1 : o < cs.length := by simp at hl; omega
    have := BlockAt.setCells vs _ _ (o + 1) (h.set o v) (by simp at hl ⊢; omega)
    rw [overlay_cons h1] at this
    exact this
theorem Upd.setCells (b : Nat) : ∀ (vs : List Value) (w : World) (o : Nat), Upd [b] w (w.setCells b o vs)
  | [], w, o => Upd.refl _ _
  | v :: vs, w, o => (Upd.setCell' w ⟨b, o, none⟩ v (by simp)).trans (Upd.setCells b vs _ (o + 1))
theorem own_some {W : World} {base : Nat} {e : TypeId} {size : Nat} {v : Value} {n : Nat} {xs : List Value} (h : W.ownsRow base e size v n xs) (hn : 0 < n) : ∃ g cap, v = .slice (some ⟨g, 0, none⟩) n cap := by
  rcases h.2 with ⟨-, h0⟩ | ⟨g, cap, cur, hv, -⟩
  · omega
  · exact ⟨g, cap, hv⟩
theorem ownsRow_mono {W : World} {b b' : Nat} {e : TypeId} {size : Nat} {v : Value} {n : Nat} {xs : List Value} (h : W.ownsRow b' e size v n xs) (hb : b ≤ b') : W.ownsRow b e size v n xs := by
  refine ⟨h.1, ?_⟩
  rcases h.2 with h0 | ⟨g, cap, cur, hv, hg, rest⟩
  · exact .inl h0
  · exact .inr ⟨g, cap, cur, hv, by omega, rest⟩
theorem step_append_own {P : Program} {ops : Array Oper} {o : Oper} {a : Act} {w : World} {K : Act → World → Prop} {Q : Exit → Act → World → Prop} {E : Prop} (hg : o.guard = none) (s x : Operand) (t : TypeId)
    (ho : o.op = .call { callee := .builtin .append, args := #[s, x], argTypes := #[t, t] })
    (base : Nat) (e : TypeId) (i : TypeInfo) (z : Value) (size bytes : Nat) (ht : P.underlying t = some (.slice e)) (hi : P.info? e = some i) (hz : i.zero = some z)
    (hsize : i.size = size) (hby : i.bytes = bytes) (hzs : z.cells.size = size) (hsz : 0 < size)
    (v : Value) (n : Nat) (xs : List Value) (hs : a.eval s = v) (hown : w.ownsRow base e size v n xs)
    (ad : Addr) (m c : Nat) (news : List Value) (hx : a.eval x = .slice (some ad) m c) (hm : 0 < m) (hl : news.length = m * size) (hnews : ∀ j u, news[j]? = some u → w.cell? (ad.add j) = some u) (h1 : ∀ u ∈ news, u.oneCell' = true)
    (h63 : n + m ≤ maxLen) (hbytes : (n + m) * bytes ≤ 140737488355328) (hbase : base ≤ w.heap.size)
    (h : ∀ g cap w', w'.ownsRow base e size (.slice (some ⟨g, 0, none⟩) (n + m) cap) (n + m) (xs ++ news) → Upd v.ownBlock.toList w w' → (v.ownBlock = some g ∨ w.heap.size ≤ g) → K (a.put o.dst (.slice (some ⟨g, 0, none⟩) (n + m) cap)) w') :
    if Region.wanted o (yielded ops a.tmps) = true then Oper.wp P o a w K Q else E := by
  have grow : ∀ (ao : Option Addr) (cap : Nat), v = .slice ao n cap → (ao = none → n = 0 ∧ cap = 0) → (∀ b, ao = some b → ∀ j u, xs[j]? = some u → w.cell? (b.add j) = some u) → cap < n + m →
      (if Region.wanted o (yielded ops a.tmps) = true then Oper.wp P o a w K Q else E) := by
    intro ao cap hv hnone holds hfull
    refine step_append_grows hg s x t ho e i z size bytes ht hi hz hsize hby hzs hsz ao n cap xs (hs.trans hv) hnone hown.1 holds ad m c news hx hl hnews h1 hfull h63 hbytes ?_
    intro v' w' ho' hg'
    obtain ⟨g, cap', rfl⟩ := own_some ho' (by omega)
    refine h g cap' w' (ownsRow_mono ho' hbase) ((Upd.grown hg').mono (by simp)) (.inr ?_)
    exact (ho'.lt g rfl).1
  rcases hown.2 with ⟨hv, h0⟩ | ⟨g, cap, cur, hv, hbg, hgg, hnc, hcm, hcs, htk⟩
  · exact grow none 0 (by rw [hv, h0]) (fun _ => ⟨h0, rfl⟩) (fun b hb => by cases hb) (by omega)
  · by_cases hroom : n + m ≤ cap
    · have hb : BlockAt w g e cur.toList := by unfold BlockAt; simpa using hgg
      have hlen : n * size + news.length ≤ cur.toList.length := by
        have : (n + m) * size ≤ cap * size := Nat.mul_le_mul_right _ hroom
        rw [Nat.add_mul] at this
        simp only [Array.length_toList]; omega
      refine step_append_room hg s x t ho e i size ht hi hsize g 0 n cap (hs.trans hv) ad m c news hx hl hnews h1 hroom ?_ ?_
      · intro j hj
        refine ⟨?_, hb.free _⟩
        rw [Nat.zero_add]
        obtain ⟨u, hu⟩ : ∃ u, cur.toList[n * size + j]? = some u := ⟨cur.toList[n * size + j]'(by omega), List.getElem?_eq_getElem _⟩
        rw [hb.cell _ _ hu]; rfl
      · rw [Nat.zero_add]
        have hb2 := BlockAt.setCells news w _ (n * size) hb hlen
        refine h g cap _ ⟨by rw [List.length_append, hown.1, hl, Nat.add_mul], .inr ⟨g, cap, (overlay cur.toList (n * size) news).toArray, rfl, hbg, hb2, hroom, hcm, ?_, ?_⟩⟩ ?_ (.inl (by rw [hv]; rfl))
        · rw [List.size_toArray, overlay_length hlen]; simpa using hcs
        · unfold overlay
          rw [htk, List.append_assoc]
          have : (n + m) * size = (xs ++ news).length := by rw [List.length_append, hown.1, hl, Nat.add_mul]
          rw [this, ← List.append_assoc, List.take_left' rfl]
        · rw [hv]; exact (Upd.setCells g news w _).mono (by simp [Value.ownBlock])
    · refine grow (some ⟨g, 0, none⟩) cap hv (fun hh => by cases hh) (fun b hb j u hu => ?_) (by omega)
      cases hb
      exact hown.cells (g := g) (by rw [hv]; rfl) j u hu
theorem wpList_append_put {P : Program} {ops : Array Oper} {rest : List Oper} {o : Oper} {a : Act} {Q : Exit → Act → World → Prop} (wr : World) (hgd : o.guard = none) (s x : Operand) (t : TypeId)
    (ho : o.op = .call { callee := .builtin .append, args := #[s, x], argTypes := #[t, t] })
    (base : Nat) (e : TypeId) (size bytes : Nat) {z : Value} (hinfo : (P.info? e).map (fun i => (i.zero, i.size, i.bytes)) = some (some z, size, bytes)) (ht : P.underlying t = some (.slice e)) (hzs : z.cells.size = size) (hsz : 0 < size)
    (v : Value) (n : Nat) (xs : List Value) (hs : a.eval s = v) (hown : wr.ownsRow base e size v n xs)
    (news : List Value) (hx : a.eval x = .slice (some ⟨wr.heap.size, 0, none⟩) 1 1) (hl : news.length = size) (h1 : news.all Value.oneCell' = true)
    (hn : n + 1 ≤ maxLen) (hbytes : (n + 1) * bytes ≤ 140737488355328) (hbase : base ≤ wr.heap.size)
    (h : ∀ g cap w', w'.ownsRow base e size (.slice (some ⟨g, 0, none⟩) (n + 1) cap) (n + 1) (xs ++ news) → Upd v.ownBlock.toList wr w' → (v.ownBlock = some g ∨ wr.heap.size ≤ g) → wpList P ops Q rest (a.put o.dst (.slice (some ⟨g, 0, none⟩) (n + 1) cap)) w') : wpList P ops Q (o :: rest) a (wr.alloc (.cells news.toArray e)) := by
  obtain ⟨i, hi, hz, hz1, hz2⟩ := info_parts hinfo
  refine wpList_step (fun K hK => ?_)
  refine step_append_own hgd s x t ho base e i z size bytes ht hi hz hz1 hz2 hzs hsz v n xs hs (hown.alloc _) ⟨wr.heap.size, 0, none⟩ 1 1 news hx (by omega) (by omega) (cells_new wr e news) (fun u hu => List.all_eq_true.1 h1 u hu) hn hbytes (by simp; omega) ?_
  intro g cap w' hown' hu hg
  refine hK _ _ (h g cap w' hown' ((Upd.alloc _ wr _).trans hu) (hg.imp id (fun hh => ?_)))
  have : (wr.alloc (.cells news.toArray e)).heap.size = wr.heap.size + 1 := by simp
  omega
theorem own_len {base : Nat} {w : World} {v : Value} {zs : List Int} (h : OwnInts base w v zs) : ∃ ao cap, v = .slice ao zs.length cap := by
  rcases h.read with ⟨rfl, rfl⟩ | ⟨g, cap, hv, -⟩
  · exact ⟨none, 0, rfl⟩
  · exact ⟨_, cap, hv⟩
end Go.Proofs.Ytfmgcnmikopgeaa
