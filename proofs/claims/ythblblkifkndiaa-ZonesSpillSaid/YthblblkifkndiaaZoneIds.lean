/- Layer 11: ids over each. -/
import Derived.Test.YthblblkifkndiaaZoneIter
import Derived.Test.YthblblkifkndiaaSortK
namespace Go.Proofs.Ythblblkifkndiaa
open Go.RowKit Go.Shelf
attribute [local go_sem] Oper.semAt_some
def EnAt (W : World) (B : Nat) (x : En) : Prop := W.heap[B]? = some (.cells #[.int .i64 x.id, .int .i64 x.svc, .int .i64 x.zone] 35 (0, 0))
theorem sort_isIds {l : List En} {p : En → Bool} {zs : List Int} (h : zs = (l.filter p).map En.id) : IsIds l p (zs.mergeSort fun x y => decide (x ≤ y)) := by
  refine ⟨(List.mergeSort_perm _ _).trans (by rw [h]), ?_⟩
  have := List.pairwise_mergeSort (le := fun x y : Int => decide (x ≤ y)) (fun a b c h1 h2 => by simp at *; omega) (fun a b => by simp; omega) zs
  exact this.imp (fun hh => by simpa using hh)
set_option maxRecDepth 100000 in
set_option maxHeartbeats 2000000 in
theorem ids_in (n : Nat) (hn : 3 ≤ n) (f : Value) (es : List En) (p : En → Bool) (w : World) (h : SeqIs w f es p) :
    CallsIn Fence.wide n Try.prog 29 #[f] w fun e W' => ∃ v s, e = .returned v ∧ IsIds es p s ∧ OwnInts w.heap.size W' v s ∧ Below w.heap.size w W' := by
  have h1 : 1 ≤ n := by omega
  obtain ⟨i0, hi, hz0, hz1, hz2⟩ := info_parts Try.infoInt
  obtain ⟨Bs, Ba, rfl, hl, hseq⟩ := h.stops (n - 1) (by omega)
  refine callsIn_of_wp_marks Try.func29 rfl trivial ?_ rfl
  simp only [Try.ntmps29, List.size_toArray, List.length_cons, List.length_nil, Nat.reduceAdd, Nat.reduceSub, Array.replicate_succ, Array.replicate_zero, List.push_toArray, List.append_toArray, List.nil_append, List.cons_append]
  gi_wp2
  have bS := Boxed.new w 22 (.slice none 0 0)
  have hB0 : Below w.heap.size w (w.alloc (.cells #[.slice none 0 0] 22)) := (Below.refl _ w).alloc (Nat.le_refl _) _
  refine wpIn_rangeFunc_ownH rfl h1 (gf := 33) (lb := #[.pointer (some ⟨Bs, 0, none⟩), .pointer (some ⟨Ba, 0, none⟩)]) rfl trivial (enters_of Try.func33 (by kernel_rfl) rfl)
    hseq belowK_t (belowK_b (by simp)) hB0 (fun _ => rfl)
    (fun (pre : List En) W => (∃ v, Boxed W w.heap.size 22 v ∧ W.ownsRow w.heap.size 3 1 v pre.length (pre.map (fun x => Value.int .i64 x.id)) ∧ True) ∧ Below w.heap.size w W)
    (fun _ _ _ => False)
    (OwnFrom.and (Own.from (holdsRow_own w.heap.size w.heap.size 22 3 1 (fun (pre : List En) => pre.length) (fun (pre : List En) => pre.map (fun x : En => Value.int .i64 x.id)) (fun _ _ => True)) _) (ownFrom_below (Nat.le_refl _) (by simp)))
    (fun _ _ _ _ _ hs _ _ => hs)
    ⟨⟨_, bS, World.ownsRow_nil _ _ _ _, trivial⟩, hB0⟩
    (fun x a' W => ∃ Bx, w.heap.size < Bx ∧ EnAt W Bx x ∧ a' = { tmps := #[.func (.func 33) #[] #[.pointer (some ⟨Bs, 0, none⟩), .pointer (some ⟨Ba, 0, none⟩)], undef, .slice none 0 0, .pointer (some ⟨w.heap.size, 0, none⟩), .pointer (some ⟨Bx, 0, none⟩), .func (.func 33) #[] #[.pointer (some ⟨Bs, 0, none⟩), .pointer (some ⟨Ba, 0, none⟩)], x.val, undef, undef, undef, undef, undef, undef, undef, undef], defers := [] })
    (fun x a' _ X Y row hs hg hr => by
      obtain ⟨Bx, h1, h2, h3⟩ := hs
      refine ⟨Bx, h1, (hg.block Bx (lt_of_some h2) (fun e => ?_)).trans h2, h3⟩
      obtain ⟨-, o, ho, hc⟩ := hr Bx e.symm
      rw [show X.heap[Bx]? = _ from h2] at ho
      cases ho; cases hc)
    ?assign ?body ?done ?stop
  case assign =>
    rintro l pre x W K ⟨⟨v, hv, hrow, -⟩, hB⟩ hK
    have hz : (#[6].zip #[x.val] : Array (Nat × Value)) = #[((6 : Nat), x.val)] := by simp
    rw [hz]
    unfold En.val
    gi_wp2
    have hlt := hv.lt
    refine hK _ _ ((KeepsOthers.alloc _ _).from _) ((Below.refl _ W).alloc hB.size _) ⟨⟨v, hv.alloc _, hrow.alloc _, trivial⟩, hB.alloc hB.size _⟩ ⟨W.heap.size, hlt, ?_, rfl⟩
    exact heap_alloc_new W _
  case body =>
    rintro l pre x a' W hl2 ⟨r, hr⟩ ⟨⟨v, hv, hrow, -⟩, hB⟩ ⟨Bx, hBx, bX, rfl⟩ hlt
    have cS := hv.cell
    have bX2 : BlockAt W Bx 35 [.int .i64 x.id, .int .i64 x.svc, .int .i64 x.zone] := bX
    have x0 := bX2.cell 0 _ rfl
    gi_wp2_with (gi_at_builtin; refine wpListIn_append_own _ rfl _ _ 22 rfl w.heap.size 3 i0 (.int .i64 0) 1 8 Try.underlying22 hi hz0 hz1 hz2 rfl (by decide) _ _ _ rfl (hrow.alloc _) ⟨W.heap.size, 0, none⟩ 1 1 [.int .i64 x.id] rfl rfl (cell_one_new _ _ _) (by simp [Value.oneCell']) (by unfold maxLen; omega) (by omega) (by have := hB.size; simp; omega) ?_; intro v' w1 hown' hgrow _; obtain ⟨g', cap', rfl⟩ := ownsRow_succ hown'; obtain ⟨hv1, hv2, hr2, hk2, hb2⟩ := hv.appended (by decide) hrow hB.size (Nat.le_refl _) hown' hgrow; have hc1 := hv1.cell; have hf1 := hv1.frozen)
    refine ⟨hk2.from _, hb2, ⟨⟨_, hv2, ?_, trivial⟩, hB.trans hb2⟩⟩
    rw [List.length_append, List.map_append]
    exact hr2
  case done =>
    rintro D ys W hD rfl ⟨⟨v, hv, hrow, -⟩, hB⟩ hK
    have cS := hv.cell
    obtain ⟨zs, hzs⟩ : ∃ zs, (es.filter p).map En.id = zs := ⟨_, rfl⟩
    have hown : OwnInts w.heap.size W v zs := by rw [← hzs]; exact OwnInts.of hrow (by simp) (by simp)
    have hlen : (zs.length : Int) ≤ 1000 := by rw [← hzs, List.length_map]; have := List.length_filter_le p es; omega
    have CS := Lib.hid (sortK_any w.heap.size v zs W hown (by omega))
    have hnb : ∀ k, v.ownBlock = some k → k ≠ w.heap.size ∧ k ≠ D := fun k hk => by
      refine ⟨fun e => hv.not_row (by decide) hrow (by rw [hk, e]), fun e => ?_⟩
      rcases hrow.2 with ⟨h1, -⟩ | ⟨g, c2, cur, h1, -, hg, -⟩
      · rw [h1] at hk; simp [Value.ownBlock] at hk
      · rw [h1] at hk
        simp only [Value.ownBlock, Option.some.injEq] at hk
        subst hk; subst e
        rw [hK] at hg; cases hg
    have HF : Hid (∀ w2, OwnInts w.heap.size w2 v (zs.mergeSort fun x y => decide (x ≤ y)) → Upd v.ownBlock.toList W w2 → w2.cell? ⟨w.heap.size, 0, none⟩ = some v ∧ w2.heap[D]? = some (.deferred (some [])) ∧ Below w.heap.size w w2) := Lib.hid (fun w2 _ hu2 => ⟨Boxed.cell (t := 22) (show Boxed w2 w.heap.size 22 v from hu2.keep hv (fun hm => (hnb _ (by simpa using hm)).1 rfl)), hu2.keep hK (fun hm => (hnb _ (by simpa using hm)).2 rfl), hB.trans (hu2.below hB.size (fun k hk => (hown.lt k (by simpa using hk)).1))⟩)
    have HZ := Lib.hid (sort_isIds (p := p) (l := es) hzs.symm)
    obtain ⟨ao, cap, rfl⟩ := own_len hown
    obtain ⟨m, hm⟩ : ∃ m, zs.length = m := ⟨_, rfl⟩
    rw [hm] at CS HF cS
    clear hown hlen hnb hrow hv hm hzs
    gi_wp2
    refine ⟨trivial, callsIn_wide.2 (CS.out.mono ?_)⟩
    rintro e w2 ⟨rfl, hs2, hu2⟩
    obtain ⟨cS2, hK2, hB2⟩ := HF.out w2 hs2 hu2
    clear CS cS
    gi_wp2
    refine ⟨by simp, .inl ⟨_, _, rfl, run_takeDeferred hK2, ?_⟩⟩
    exact ⟨_, results_tmp rfl _ _ _, .slice ao m cap, _, rfl, HZ.out, ownsRow_putObj hs2 _ hK2 rfl, hB2.trans (belowK_b (w := w) (Nat.le_refl _) w2 D _ _ (by simp at hD; omega) hK2 rfl rfl)⟩
  case stop =>
    rintro D c pre W _ _ h _
    exact h.elim
theorem ids_any (f : Value) (es : List En) (p : En → Bool) (w : World) (h : SeqIs w f es p) :
    Calls Try.prog 29 #[f] w fun e W' => ∃ v s, e = .returned v ∧ IsIds es p s ∧ OwnInts w.heap.size W' v s ∧ Below w.heap.size w W' := callsIn_wide.1 (ids_in 3 (by omega) f es p w h)
end Go.Proofs.Ythblblkifkndiaa
