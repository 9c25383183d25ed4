/- Layer 11: the iterator of each; count and ids over it. -/
import Derived.RangeFuncNested
import Derived.RangeFuncBound
import Derived.RangeFuncCalls
import Derived.RangeFuncLeaves
import Derived.RangeFuncBox
import Derived.Shelf.Abstract
import Derived.Shelf.RegionOpen
import Derived.WalkKit
import Derived.OwnWalkIn
import Derived.TacticsInMore
import Derived.LoopNIn
import Derived.LoopIn
import Derived.Maps.AppendAt
import Derived.Test.YthblblkifkndiaaZoneAsk
namespace Go.Proofs.Ythblblkifkndiaa
open Go.RowKit Go.Shelf
attribute [local go_sem] Oper.semAt_some
theorem Upd.grownBy {w w' : World} (h : Upd [] w w') : w.grownBy w' none := ⟨h.os, h.tape, h.output, h.size, fun k hk _ => h.block k hk (by simp)⟩
theorem filter_take {l : List En} {p : En → Bool} {j : Nat} {e : En} (h : l[j]? = some e) : (l.take (j + 1)).filter p = (l.take j).filter p ++ if p e then [e] else [] := by
  rw [List.take_add_one, h, List.filter_append]
  simp only [Option.toList, List.filter_cons, List.filter_nil]
theorem filter_lt {l : List En} {p : En → Bool} {j : Nat} (h : j < l.length) : ((l.take j).filter p).length < l.length :=
  Nat.lt_of_le_of_lt (List.length_filter_le _ _) (by rw [List.length_take]; omega)
set_option maxRecDepth 100000 in
set_option maxHeartbeats 2000000 in
/-- The closure of each. -/
theorem each1_in (n l Bs Ba n₀ len cap k : Nat) (a : Option Addr) (caps : Array Value) (p : En → Bool) (es : List En) (hn : 1 ≤ n) (hlen : es.length = len) (hl1 : (len : Int) ≤ 1000) (hB1 : Bs < n₀) (hB2 : Ba < n₀) (J Jx : List En → World → Prop) (W : World) (hn₀ : n₀ ≤ W.heap.size)
    (hent : ∀ args w, (callFunc k args).run Try.prog w = .ok (.enter k args) w)
    (hJ : ∀ pre A B, J pre A → Upd [] A B → J pre B)
    (hask : ∀ x W1, Below n₀ W W1 → Calls Try.prog k (#[x.val] ++ caps) W1 (AskPost (p x) W1))
    (hY : ∀ pre x W, J pre W → pre.length < len → YieldAt Fence.wide (n - 1) Try.prog l #[En.val x] W fun e W' =>
      (e = .returned (.bool true) ∧ J (pre ++ [x]) W' ∧ Below n₀ W W') ∨ (e = .returned (.bool false) ∧ Jx (pre ++ [x]) W'))
    (hBs : W.cell? ⟨Bs, 0, none⟩ = some (.slice a len cap)) (hBa : W.cell? ⟨Ba, 0, none⟩ = some (.func (.func k) #[] caps))
    (hdata : es = [] ∨ ∃ b off, a = some ⟨b, off, none⟩ ∧ b < n₀ ∧ ∀ (j : Nat) (e : En), es[j]? = some e → ∀ (c : Nat) (u : Value), e.cells[c]? = some u → W.cell? ⟨b, off + j * 3 + c, none⟩ = some u) (h0 : J [] W) :
    CallsIn Fence.wide n Try.prog 33 #[.func (.yield l) #[] #[], .pointer (some ⟨Bs, 0, none⟩), .pointer (some ⟨Ba, 0, none⟩)] W fun e W' => (∃ v, e = .returned v) ∧
      ((∃ ys, ys = es.filter p ∧ J ys W') ∨ (∃ pre, pre.length ≤ len ∧ Jx pre W')) := by
  refine callsIn_of_wp Try.func33 rfl trivial ?_ rfl
  simp only [Try.ntmps33, List.size_toArray, List.length_cons, List.length_nil, Nat.reduceAdd, Nat.reduceSub, Array.replicate_succ, Array.replicate_zero, List.push_toArray, List.append_toArray, List.nil_append, List.cons_append]
  gi_wp2
  gi_loopw [8] (fun i wr => ∃ k : Nat, k ≤ len ∧ i = .int .i64 k ∧ J ((es.take k).filter p) wr ∧ Below n₀ W wr)
    (fun i _ => len - (intOf i).toNat)
  case atStart => exact ⟨0, Nat.zero_le _, rfl, by simpa using h0, Below.refl _ _⟩
  case round =>
    obtain ⟨q, hq, rfl, hJs, hnx⟩ := hrel
    by_cases hlt : q < len
    · obtain ⟨x, hx⟩ : ∃ x, es[q]? = some x := ⟨es[q]'(by omega), by simp [hlen, hlt]⟩
      obtain ⟨b, off, rfl, hb, hc⟩ : ∃ b off, a = some ⟨b, off, none⟩ ∧ b < n₀ ∧ ∀ (j : Nat) (e : En), es[j]? = some e → ∀ (c : Nat) (u : Value), e.cells[c]? = some u → W.cell? ⟨b, off + j * 3 + c, none⟩ = some u := by
        rcases hdata with h | h
        · rw [h] at hx; simp at hx
        · exact h
      have x0 := (hnx.cell (p := ⟨b, off + q * 3 + 0, none⟩) hb).trans (hc q x hx 0 _ rfl)
      have x1 := (hnx.cell (p := ⟨b, off + q * 3 + 1, none⟩) hb).trans (hc q x hx 1 _ rfl)
      have x2 := (hnx.cell (p := ⟨b, off + q * 3 + 2, none⟩) hb).trans (hc q x hx 2 _ rfl)
      have a0 := (hnx.cell (p := ⟨Ba, 0, none⟩) hB2).trans hBa
      rw [Nat.add_zero] at x0
      have uA := Upd.alloc [] wr (.cells #[.int .i64 x.id, .int .i64 x.svc, .int .i64 x.zone] 35)
      have a1 := uA.cell a0 (by simp)
      have hbx := BlockAt.new wr 35 x.cells
      have y0 := hbx.cell 0 _ rfl
      have y1 := hbx.cell 1 _ rfl
      have y2 := hbx.cell 2 _ rfl
      have hbA : Below n₀ W (wr.alloc (.cells #[.int .i64 x.id, .int .i64 x.svc, .int .i64 x.zone] 35)) := hnx.trans (uA.below (by have := hnx.size; omega) (by simp))
      gi_wp2
      refine ⟨trivial, ?_⟩
      refine (callsIn_wide.2 (hask x _ hbA)).mono ?_
      rintro e w3 ⟨rfl, hu3⟩
      have z0 := hu3.cell y0 (by simp)
      have z1 := hu3.cell y1 (by simp)
      have z2 := hu3.cell y2 (by simp)
      have hJ3 := hJ _ _ _ hJs (uA.trans hu3)
      have hb3 : Below n₀ W w3 := hbA.trans (hu3.below (by have := hbA.size; omega) (by simp))
      have hft := filter_take (p := p) hx
      cases hp : p x with
      | true =>
        rw [hp, if_pos rfl] at hft
        obtain ⟨fn, tmps, assign, body, hy, hR⟩ := hY _ x w3 hJ3 (by rw [← hlen]; exact filter_lt (by omega))
        unfold En.val at hy
        gi_wp2
        refine hR.mono ?_
        rintro e W3 (⟨rfl, hJ4, hk4⟩ | ⟨rfl, hJx4⟩)
        · gi_wp2
          go_roundw
          case rel => exact ⟨q + 1, by omega, by simp, by rw [hft]; exact hJ4, hb3.trans hk4⟩
          case measure => simp [intOf]; omega
        · gi_wp2
          refine bodyPost_ret (results_none rfl _ _ _) rfl ?_
          exact ⟨⟨_, rfl⟩, .inr ⟨_, by rw [List.length_append]; have := filter_lt (l := es) (p := p) (j := q) (by omega); simp; omega, hJx4⟩⟩
      | false =>
        rw [hp] at hft
        gi_wp2
        refine ⟨fun _ h => (by cases h), ?_⟩
        gi_wp2
        go_roundw
        case rel => exact ⟨q + 1, by omega, by simp, by rw [hft]; simpa using hJ3, hb3⟩
        case measure => simp [intOf]; omega
    · obtain rfl : q = len := by omega
      gi_wp2
      go_end0
      exact ⟨⟨_, rfl⟩, .inl ⟨_, rfl, by rw [← hlen, List.take_length] at hJs; exact hJs⟩⟩
/-- A value that tells those of es of which p is so. -/
def SeqIs (w : World) (f : Value) (es : List En) (p : En → Bool) : Prop := ∃ (Bs Ba k : Nat) (caps : Array Value) (sv : Value), f = .func (.func 33) #[] #[.pointer (some ⟨Bs, 0, none⟩), .pointer (some ⟨Ba, 0, none⟩)] ∧
  w.cell? ⟨Bs, 0, none⟩ = some sv ∧ EnsIn w sv es ∧ w.cell? ⟨Ba, 0, none⟩ = some (.func (.func k) #[] caps) ∧ (∀ args w, (callFunc k args).run Try.prog w = .ok (.enter k args) w) ∧
  ∀ x W1, Below w.heap.size w W1 → Calls Try.prog k (#[x.val] ++ caps) W1 (AskPost (p x) W1)
theorem SeqIs.stops {w : World} {f : Value} {es : List En} {p : En → Bool} (h : SeqIs w f es p) (n : Nat) (hn : 1 ≤ n) : ∃ Bs Ba : Nat, f = .func (.func 33) #[] #[.pointer (some ⟨Bs, 0, none⟩), .pointer (some ⟨Ba, 0, none⟩)] ∧ (es.length : Int) ≤ 1000 ∧
    SeqStopsK Fence.wide n Try.prog 33 #[.pointer (some ⟨Bs, 0, none⟩), .pointer (some ⟨Ba, 0, none⟩)] (fun x : En => #[x.val]) (Below w.heap.size) (fun ys => ys = es.filter p) (fun pre => pre.length ≤ es.length) es.length w := by
  obtain ⟨Bs, Ba, k, caps, sv, rfl, hBs, ⟨a, cap, rfl, hl, hdata⟩, hBa, hent, hask⟩ := h
  refine ⟨Bs, Ba, rfl, hl, fun l J Jx W hW hJ _ hY h0 => ?_⟩
  have hb1 := World.block_lt_of_cell? w _ hBs
  have hb2 := World.block_lt_of_cell? w _ hBa
  refine each1_in n l Bs Ba w.heap.size es.length cap k a caps p es hn rfl hl hb1 hb2 J Jx W hW.size hent (fun pre A B hj u => hJ pre A B none hj u.grownBy (fun r e => by cases e)) (fun x W1 hb => hask x W1 (hW.trans hb)) hY ((hW.cell (p := ⟨Bs, 0, none⟩) hb1).trans hBs) ((hW.cell (p := ⟨Ba, 0, none⟩) hb2).trans hBa) ?_ h0
  rcases hdata with h | ⟨b, off, ha, hb, hc⟩
  · exact .inl h
  · exact .inr ⟨b, off, ha, hb, fun j e he c u hu => (hW.cell (p := ⟨b, off + j * 3 + c, none⟩) hb).trans (hc j e he c u hu)⟩
set_option maxRecDepth 100000 in
set_option maxHeartbeats 2000000 in
theorem count_in (n : Nat) (hn : 3 ≤ n) (f : Value) (es : List En) (p : En → Bool) (w : World) (h : SeqIs w f es p) :
    CallsIn Fence.wide n Try.prog 22 #[f] w fun e W' => e = .returned (.int .i64 (es.countP p)) ∧ Below w.heap.size w W' := by
  have h1 : 1 ≤ n := by omega
  obtain ⟨Bs, Ba, rfl, hl, hseq⟩ := h.stops (n - 1) (by omega)
  refine callsIn_of_wp_marks Try.func22 rfl trivial ?_ rfl
  simp only [Try.ntmps22, List.size_toArray, List.length_cons, List.length_nil, Nat.reduceAdd, Nat.reduceSub, Array.replicate_succ, Array.replicate_zero, List.push_toArray, List.append_toArray, List.nil_append, List.cons_append]
  gi_wp2
  have bS := Boxed.new w 3 (.int .i64 0)
  have hB0 : Below w.heap.size w (w.alloc (.cells #[.int .i64 0] 3)) := (Below.refl _ w).alloc (Nat.le_refl _) _
  refine wpIn_rangeFunc_ownG rfl h1 (gf := 33) (lb := #[.pointer (some ⟨Bs, 0, none⟩), .pointer (some ⟨Ba, 0, none⟩)]) rfl trivial (enters_of Try.func33 (by kernel_rfl) rfl)
    hseq belowK_t (belowK_b (by simp)) hB0 (fun _ => rfl)
    (fun pre W => (W.cell? ⟨w.heap.size, 0, none⟩ = some (.int .i64 (pre.length : Int)) ∧ W.frozen? ⟨w.heap.size, 0, none⟩ = false) ∧ Below w.heap.size w W)
    (fun _ _ _ => False)
    (OwnFrom.and (Own.from (fun s A B row hs hg hr => ⟨cell_kept hs.1 hg hr, (frozen_kept hs.1 hg hr).trans hs.2⟩) _) (ownFrom_below (Nat.le_refl _) (by simp)))
    (fun _ _ _ _ _ hs _ _ => hs)
    ⟨⟨bS.cell, bS.frozen⟩, hB0⟩
    (fun x => { tmps := #[.func (.func 33) #[] #[.pointer (some ⟨Bs, 0, none⟩), .pointer (some ⟨Ba, 0, none⟩)], undef, .int .i64 0, .pointer (some ⟨w.heap.size, 0, none⟩), .func (.func 33) #[] #[.pointer (some ⟨Bs, 0, none⟩), .pointer (some ⟨Ba, 0, none⟩)], x.val, undef, undef, undef], defers := [] }) ?assign ?body ?done ?stop
  case assign =>
    intro l x W K hK
    gi_wp2
    simpa using hK
  case body =>
    rintro l pre x W ⟨⟨hc, hf⟩, hB⟩ hlt
    have ew := IntWalk.i64_in ((pre.length : Int) + 1) (by omega)
    gi_wp2
    exact ⟨(KeepsOthers.setCell _ _ _).from _, (Below.refl w.heap.size W).setCell (p := ⟨w.heap.size, 0, none⟩) (Nat.le_refl _) _, ⟨by rw [List.length_append]; exact World.cell?_setCell_same' _ _ _ (by rw [hc]; rfl), by rw [World.frozen?_setCell]; exact hf⟩, hB.setCell (p := ⟨w.heap.size, 0, none⟩) (Nat.le_refl _) _⟩
  case done =>
    rintro D ys W hD rfl ⟨⟨hc, _⟩, hB⟩ hK
    gi_wp2
    refine ⟨by simp, .inl ⟨_, _, rfl, run_takeDeferred hK, ?_⟩⟩
    exact ⟨_, results_tmp rfl _ _ _, by rw [List.countP_eq_length_filter]; rfl, hB.trans (belowK_b (w := w) (Nat.le_refl _) W D _ _ (by simp at hD; omega) hK rfl rfl)⟩
  case stop =>
    rintro D c pre W _ _ h _
    exact h.elim
theorem count_any (f : Value) (es : List En) (p : En → Bool) (w : World) (h : SeqIs w f es p) :
    Calls Try.prog 22 #[f] w fun e W' => e = .returned (.int .i64 (es.countP p)) ∧ Below w.heap.size w W' := callsIn_wide.1 (count_in 3 (by omega) f es p w h)
end Go.Proofs.Ythblblkifkndiaa
