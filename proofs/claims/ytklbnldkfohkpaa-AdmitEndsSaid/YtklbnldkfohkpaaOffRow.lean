/- A row of integers of the call's own, that may begin behind its block's head; append of one integer onto it. -/
import Derived.Test.YtklbnldkfohkpaaGateC
namespace Go.Proofs.Ytklbnldkfohkpaa
open Go.RowKit
def OffInts (base : Nat) (w : World) (v : Value) (zs : List Int) : Prop :=
  (v = .slice none 0 0 ∧ zs = []) ∨ ∃ g o cap cs, v = .slice (some ⟨g, o, none⟩) zs.length cap ∧ base ≤ g ∧ BlockAt w g 3 cs ∧ o + cap ≤ cs.length ∧ zs.length ≤ cap ∧ cap ≤ maxLen ∧ ∀ j z, zs[j]? = some z → cs[o + j]? = some (.int .i64 z)
theorem OffInts.nil (base : Nat) (w : World) : OffInts base w (.slice none 0 0) [] := .inl ⟨rfl, rfl⟩
theorem OwnInts.off {base : Nat} {w : World} {v : Value} {zs : List Int} (h : OwnInts base w v zs) : OffInts base w v zs := by
  rcases h.2 with ⟨hv, h0⟩ | ⟨g, cap, cur, hv, hb, hgg, hnc, hcm, hcs, htk⟩
  · exact .inl ⟨hv, List.eq_nil_of_length_eq_zero h0⟩
  · refine .inr ⟨g, 0, cap, cur.toList, hv, hb, by unfold BlockAt; simpa using hgg, by simp only [Array.length_toList]; omega, hnc, hcm, fun j z hz => ?_⟩
    have hj := (List.getElem?_eq_some_iff.1 hz).1
    have := congrArg (fun l : List Value => l[j]?) htk
    rw [List.getElem?_take_of_lt (by omega), List.getElem?_map, hz] at this
    rw [Nat.zero_add]
    exact this
theorem OffInts.lt {base : Nat} {w : World} {v : Value} {zs : List Int} (h : OffInts base w v zs) : ∀ k, v.ownBlock = some k → base ≤ k ∧ k < w.heap.size := by
  intro k hk
  rcases h with ⟨rfl, -⟩ | ⟨g, o, cap, cs, rfl, hb, hgg, -⟩
  · simp [Value.ownBlock] at hk
  · simp only [Value.ownBlock, Option.some.injEq] at hk
    subst hk
    exact ⟨hb, hgg.lt⟩
theorem OffInts.owns {S : List Nat} {base : Nat} {w w' : World} {v : Value} {zs : List Int} (h : OffInts base w v zs) (u : Upd S w w') (hs : ∀ k, v.ownBlock = some k → k ∉ S) : OffInts base w' v zs := by
  rcases h with h | ⟨g, o, cap, cs, rfl, hb, hgg, rest⟩
  · exact .inl h
  · exact .inr ⟨g, o, cap, cs, rfl, hb, hgg.keep u (hs g rfl), rest⟩
theorem OffInts.mono {b b' : Nat} {w : World} {v : Value} {zs : List Int} (h : OffInts b' w v zs) (hb : b ≤ b') : OffInts b w v zs := by
  rcases h with h | ⟨g, o, cap, cs, rfl, hg, rest⟩
  · exact .inl h
  · exact .inr ⟨g, o, cap, cs, rfl, Nat.le_trans hb hg, rest⟩
theorem OffInts.isIn {base : Nat} {w : World} {v : Value} {zs : List Int} (h : OffInts base w v zs) (hr : ∀ z ∈ zs, -9223372036854775808 ≤ z ∧ z ≤ 9223372036854775807) : IntsIn w v zs := by
  rcases h with ⟨rfl, rfl⟩ | ⟨g, o, cap, cs, rfl, hb, hgg, hoc, hnc, hcm, hc⟩
  · exact intsIn_nil _ _ _
  · refine ⟨_, cap, rfl, by unfold maxLen at hcm; omega, hr, .inr ⟨g, o, rfl, fun j hj => ?_⟩⟩
    obtain ⟨z, hz⟩ : ∃ z, zs[j]? = some z := ⟨zs[j], by simp [hj]⟩
    rw [hgg.cell _ _ (hc j z hz), List.getD, hz]; rfl
theorem OffInts.read {base : Nat} {w : World} {v : Value} {zs : List Int} (h : OffInts base w v zs) : (v = .slice none 0 0 ∧ zs = []) ∨
    ∃ g o cap, v = .slice (some ⟨g, o, none⟩) zs.length cap ∧ zs.length ≤ cap ∧ cap ≤ maxLen ∧ ∀ j z, zs[j]? = some z → w.cell? ⟨g, o + j, none⟩ = some (.int .i64 z) := by
  rcases h with h | ⟨g, o, cap, cs, rfl, hb, hgg, hoc, hnc, hcm, hc⟩
  · exact .inl h
  · exact .inr ⟨g, o, cap, rfl, hnc, hcm, fun j z hz => hgg.cell _ _ (hc j z hz)⟩
theorem OffInts.len {base : Nat} {w : World} {v : Value} {zs : List Int} (h : OffInts base w v zs) : ∃ ao cap, v = .slice ao zs.length cap := by
  rcases h with ⟨rfl, rfl⟩ | ⟨g, o, cap, cs, rfl, -⟩
  · exact ⟨none, 0, rfl⟩
  · exact ⟨_, _, rfl⟩
/-- l[1:] -/
theorem OffInts.tail {base : Nat} {w : World} {g o cap : Nat} {z : Int} {zs : List Int} (h : OffInts base w (.slice (some ⟨g, o, none⟩) (zs.length + 1) cap) (z :: zs)) :
    OffInts base w (.slice (if cap = 1 then some ⟨g, o, none⟩ else some ⟨g, o + 1, none⟩) zs.length (cap - 1)) zs := by
  rcases h with ⟨h, -⟩ | ⟨g', o', cap', cs, hv, hb, hgg, hoc, hnc, hcm, hc⟩
  · cases h
  · cases hv
    simp only [List.length_cons] at hnc
    by_cases e : cap = 1
    · rw [if_pos e]
      exact .inr ⟨g, o, cap - 1, cs, rfl, hb, hgg, by omega, by omega, by omega, fun j y hj => by
        have := (List.getElem?_eq_some_iff.1 hj).1; omega⟩
    · rw [if_neg e]
      refine .inr ⟨g, o + 1, cap - 1, cs, rfl, hb, hgg, by omega, by omega, by omega, fun j y hj => ?_⟩
      have := hc (j + 1) y (by simpa using hj)
      rwa [show o + 1 + j = o + (j + 1) by omega]
/-- append(l, z) -/
theorem step_append_off {P : Program} {ops : Array Oper} {o : Oper} {a : Act} {w : World} {K : Act → World → Prop} {Q : Exit → Act → World → Prop} {E : Prop} (hg : o.guard = none) (s x : Operand) (t : TypeId)
    (ho : o.op = .call { callee := .builtin .append, args := #[s, x], argTypes := #[t, t] })
    (base : Nat) (ht : P.underlying t = some (.slice 3)) (hinfo : (P.info? 3).map (fun i => (i.zero, i.size, i.bytes)) = some (some (.int .i64 0), 1, 8))
    (v : Value) (zs : List Int) (hs : a.eval s = v) (hown : OffInts base w v zs)
    (ad : Addr) (z : Int) (hx : a.eval x = .slice (some ad) 1 1) (hnews : w.cell? ad = some (.int .i64 z))
    (hn : (zs.length : Int) ≤ 100000) (hbase : base ≤ w.heap.size)
    (h : ∀ g o' cap w', OffInts base w' (.slice (some ⟨g, o', none⟩) (zs.length + 1) cap) (zs ++ [z]) → Upd v.ownBlock.toList w w' → (v.ownBlock = some g ∨ w.heap.size ≤ g) → K (a.put o.dst (.slice (some ⟨g, o', none⟩) (zs.length + 1) cap)) w') :
    if Region.wanted o (yielded ops a.tmps) = true then Oper.wp P o a w K Q else E := by
  obtain ⟨i, hi, hz, hz1, hz2⟩ := info_parts hinfo
  have hnews' : ∀ j u, [Value.int .i64 z][j]? = some u → w.cell? (ad.add j) = some u := fun j u hu => by
    obtain ⟨rfl, rfl⟩ : j = 0 ∧ Value.int .i64 z = u := by
      rcases j with _ | j
      · simpa using hu
      · simp at hu
    rw [show ad.add 0 = ad by simp [Addr.add]]; exact hnews
  have h1c : ∀ u ∈ [Value.int .i64 z], u.oneCell' = true := by simp [Value.oneCell']
  have grow : ∀ (ao : Option Addr) (cap : Nat), v = .slice ao zs.length cap → (ao = none → zs.length = 0 ∧ cap = 0) → (∀ b, ao = some b → ∀ j u, (zs.map (Value.int .i64))[j]? = some u → w.cell? (b.add j) = some u) → cap < zs.length + 1 →
      (if Region.wanted o (yielded ops a.tmps) = true then Oper.wp P o a w K Q else E) := by
    intro ao cap hv hnone holds hfull
    refine step_append_grows hg s x t ho 3 i _ 1 8 ht hi hz hz1 hz2 rfl (by decide) ao zs.length cap (zs.map (Value.int .i64)) (hs.trans hv) hnone (by simp) holds ad 1 1 [.int .i64 z] hx rfl hnews' h1c hfull (by unfold maxLen; omega) (by omega) ?_
    intro v' w' ho' hg'
    obtain ⟨g, cap', rfl⟩ := own_some ho' (by omega)
    have ho2 : OwnInts base w' (.slice (some ⟨g, 0, none⟩) (zs.length + 1) cap') (zs ++ [z]) := OwnInts.of (ownsRow_mono ho' hbase) (by simp) (by simp)
    exact h g 0 cap' w' ho2.off ((Upd.grown hg').mono (by simp)) (.inr (ho'.lt g rfl).1)
  rcases hown with ⟨hv, rfl⟩ | ⟨g, o', cap, cs, hv, hbg, hgg, hoc, hnc, hcm, hc⟩
  · exact grow none 0 (by rw [hv]; rfl) (fun _ => ⟨rfl, rfl⟩) (fun b hb => by cases hb) (by simp)
  · by_cases hroom : zs.length + 1 ≤ cap
    · refine step_append_room hg s x t ho 3 i 1 ht hi hz1 g o' zs.length cap (hs.trans hv) ad 1 1 [.int .i64 z] hx rfl hnews' h1c hroom ?_ ?_
      · intro j hj
        simp at hj
        subst hj
        refine ⟨?_, hgg.free _⟩
        obtain ⟨u, hu⟩ : ∃ u, cs[o' + zs.length * 1 + 0]? = some u := ⟨cs[o' + zs.length * 1 + 0]'(by omega), List.getElem?_eq_getElem _⟩
        rw [hgg.cell _ _ hu]; rfl
      · have hset : w.setCells g (o' + zs.length * 1) [.int .i64 z] = w.setCell ⟨g, o' + zs.length, none⟩ (.int .i64 z) := by simp [World.setCells]
        rw [hset]
        refine h g o' cap _ (.inr ⟨g, o', cap, cs.set (o' + zs.length) (.int .i64 z), by simp, hbg, hgg.set _ _, by simpa using hoc, by simpa using hroom, hcm, fun j y hj => ?_⟩) ?_ (.inl (by rw [hv]; rfl))
        · by_cases e : j < zs.length
          · rw [List.getElem?_append_left e] at hj
            rw [List.getElem?_set_ne (by omega)]
            exact hc j y hj
          · rw [List.getElem?_append_right (by omega)] at hj
            have hlt := (List.getElem?_eq_some_iff.1 hj).1
            simp at hlt
            obtain rfl : j = zs.length := by omega
            simp at hj
            subst hj
            rw [List.getElem?_set_self (by omega)]
        · rw [hv]; exact Upd.setCell' _ _ _ (by simp [Value.ownBlock])
    · refine grow (some ⟨g, o', none⟩) cap hv (fun hh => by cases hh) (fun b hb j u hu => ?_) (by omega)
      cases hb
      rw [List.getElem?_map] at hu
      obtain ⟨y, hy, rfl⟩ := Option.map_eq_some_iff.1 hu
      rw [Addr.add_lit]
      exact hgg.cell _ _ (hc j y hy)
theorem wpList_append_off {P : Program} {ops : Array Oper} {rest : List Oper} {o : Oper} {a : Act} {Q : Exit → Act → World → Prop} (wr : World) (hgd : o.guard = none) (s x : Operand) (t : TypeId)
    (ho : o.op = .call { callee := .builtin .append, args := #[s, x], argTypes := #[t, t] })
    (base : Nat) (ht : P.underlying t = some (.slice 3)) (hinfo : (P.info? 3).map (fun i => (i.zero, i.size, i.bytes)) = some (some (.int .i64 0), 1, 8))
    (v : Value) (zs : List Int) (hs : a.eval s = v) (hown : OffInts base wr v zs) (z : Int)
    (hx : a.eval x = .slice (some ⟨wr.heap.size, 0, none⟩) 1 1)
    (hn : (zs.length : Int) ≤ 100000) (hbase : base ≤ wr.heap.size)
    (h : ∀ g o' cap w', OffInts base w' (.slice (some ⟨g, o', none⟩) (zs.length + 1) cap) (zs ++ [z]) → Upd v.ownBlock.toList wr w' → (v.ownBlock = some g ∨ wr.heap.size ≤ g) → wpList P ops Q rest (a.put o.dst (.slice (some ⟨g, o', none⟩) (zs.length + 1) cap)) w') :
    wpList P ops Q (o :: rest) a (wr.alloc (.cells #[.int .i64 z] 3)) := by
  refine wpList_step (fun K hK => ?_)
  refine step_append_off hgd s x t ho base ht hinfo v zs hs (hown.owns (Upd.alloc [] _ _) (by simp)) ⟨wr.heap.size, 0, none⟩ z hx (BlockAt.cell (BlockAt.new wr 3 [.int .i64 z]) 0 _ rfl) hn (by simp; omega) ?_
  intro g o' cap w' hown' hu hg
  refine hK _ _ (h g o' cap w' hown' ((Upd.alloc _ wr _).trans hu) (hg.imp id (fun hh => ?_)))
  have : (wr.alloc (.cells #[.int .i64 z] 3)).heap.size = wr.heap.size + 1 := by simp
  omega
end Go.Proofs.Ytklbnldkfohkpaa
