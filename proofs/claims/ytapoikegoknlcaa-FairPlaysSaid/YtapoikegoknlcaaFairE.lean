/- Layer 22: the walk of Put, where there is room. -/
import Derived.Test.YtapoikegoknlcaaFairD
import Derived.Test.YtapoikegoknlcaaAppend
namespace Go.Proofs.Ytapoikegoknlcaa
open Go.RowKit
def zeroIt : It := ⟨0, 0, 0⟩
def PutPost (base b : Nat) (most n : Int) (v : Nat → Value) (r : Nat → Row) (p : Nat) (x : It) (w : World) (e : Ending) (w' : World) : Prop :=
  e = .returned (.tuple #[zeroIt.val, .bool false]) ∧ (∃ v', QAt w' base b most (n + 1) v' (upd r p ⟨(r p).items ++ [x], (r p).taken, (r p).last⟩) ∧ OwnFrom w v v') ∧ QUpd b v w w'
set_option maxHeartbeats 2000000 in
theorem put_room (base b : Nat) (most n : Int) (v : Nat → Value) (r : Nat → Row) (p : Nat) (id f : Int) (w : World) (h : QAt w base b most n v r) (hp : p < 4) (hn0 : 0 ≤ n) (hn : n + 1 ≤ most) (hm : most ≤ 1000000) (hlen : ((r p).items.length : Int) ≤ 1000000) (hbw : base ≤ w.heap.size) :
    Calls Try.prog 12 #[.pointer (some ⟨b, 0, none⟩), It.val ⟨id, (p : Int), f⟩] w (PutPost base b most n v r p ⟨id, (p : Int), f⟩ w) := by
  obtain ⟨i0, hi0, hz0, hz1, hz2⟩ := info_parts Try.infoItem
  have hq := h.blk
  have hbl := hq.lt
  obtain ⟨g0, g1, g2⟩ := qCs_get most n v r p hp
  have c0 := hq.cell _ _ g0
  have cm := hq.cell 0 _ (qCs_most most n v r).1
  have cn := hq.cell 1 _ (qCs_most most n v r).2
  have fn := hq.free 1
  have eb : w.heap.size ≠ b := Nat.ne_of_gt hbl
  have eb2 : w.heap.size + 1 ≠ b := by omega
  have eb3 : w.heap.size + 1 + 1 ≠ b := by omega
  have HQ := Lib.hid h
  have p0 : (0 : Int) ≤ p := by omega
  have p1 : (p : Int) ≤ 3 := by omega
  have p2 : (p : Int) < 4 := by omega
  have HP := Lib.hid hp
  unfold It.val
  dsimp only
  have CC := Lib.hid (fun w => clamp3_any (p : Int) w p0 p1)
  have HCN := Lib.hid (fun (m : Nat) => show ∀ j u, [Value.int .i64 id, .int .i64 (p : Int), .int .i64 f][j]? = some u → ((((w.alloc (.cells #[.int .i64 id, .int .i64 (p : Int), .int .i64 f] 27)).alloc (.cells #[.int .i64 0, .int .i64 0, .int .i64 0] 27)).drewN m).drew.alloc (.cells #[.int .i64 id, .int .i64 (p : Int), .int .i64 f] 27)).cell? ((⟨w.heap.size + 1 + 1, 0, none⟩ : Addr).add j) = some u by
    have := cells_new (((w.alloc (.cells #[.int .i64 id, .int .i64 (p : Int), .int .i64 f] 27)).alloc (.cells #[.int .i64 0, .int .i64 0, .int .i64 0] 27)).drewN m).drew 27 [.int .i64 id, .int .i64 (p : Int), .int .i64 f]
    simpa using this)
  have c0' : ∀ m, ((((w.alloc (.cells #[.int .i64 id, .int .i64 (p : Int), .int .i64 f] 27)).alloc (.cells #[.int .i64 0, .int .i64 0, .int .i64 0] 27)).drewN m).alloc (.cells #[.int .i64 id, .int .i64 (p : Int), .int .i64 f] 27)).cell? ⟨b, 2 + p * 3, none⟩ = some (v p) := fun m => BlockAt.cell (b := b) (t := 60) ((BlockAt.drewN ((hq.alloc _).alloc _) m).alloc _) _ _ g0
  have HG0 := Lib.hid g0
  have HBB := Lib.hid hq
  have HBS := Lib.hid hbl
  have hne : ∀ g, (v p).ownBlock = some g → g ≠ b := fun g hg => h.ne p g hp hg
  have HNE := Lib.hid hne
  have HOWN := Lib.hid (h.own p hp)
  have HLEN := Lib.hid (show (r p).items.length + 1 ≤ maxLen ∧ ((r p).items.length + 1) * 24 ≤ 140737488355328 by unfold maxLen; omega)
  clear h hq g0 g1 g2 hp hne hlen
  go_enter Try.func12, Try.ntmps12
  go_wp2_with fail
  go_quiet ((go_at_call 19; exact quietSame (CC.out _)))
  go_wp2_with fail
  go_region_law (refine step_append_own rfl (.tmp 18) (.tmp 20) 37 rfl base 27 i0 _ 3 24 Try.underlying37 hi0 hz0 hz1 hz2 rfl (by decide) (v p) (r p).items.length (cellsI (r p).items) (by simp [Act.eval]) (((HOWN.out.alloc _).alloc _).alloc _) ⟨w.heap.size + 1 + 1, 0, none⟩ 1 1 [.int .i64 id, .int .i64 (p : Int), .int .i64 f] (by simp [Act.eval]) (by decide) rfl (HCN.out _) (by simp [Value.oneCell']) HLEN.out.1 HLEN.out.2 (by simp; omega) ?_; intro g' cap' w1 hown1 hu1 hg1; have hb1 : BlockAt w1 b 60 (qCs most n v r) := (by refine BlockAt.keep ?_ hu1 (by simp; intro hh; exact HNE.out _ hh rfl); exact ((HBB.out.alloc _).alloc _).alloc _); have c1' := hb1.cell _ _ HG0.out; have f1' := hb1.free (2 + p * 3))
  all_goals
    have hU : Upd [] w ((((w.alloc (.cells #[.int .i64 id, .int .i64 (p : Int), .int .i64 f] 27)).alloc (.cells #[.int .i64 0, .int .i64 0, .int .i64 0] 27)).drewN (nq + 1)).alloc (.cells #[.int .i64 id, .int .i64 (p : Int), .int .i64 f] 27)) := (((Upd.alloc _ _ _).trans (Upd.alloc _ _ _)).trans (Upd.drewN _ _ _)).trans (Upd.alloc _ _ _)
    have hres : BlockAt ((((w.alloc (.cells #[.int .i64 id, .int .i64 (p : Int), .int .i64 f] 27)).alloc (.cells #[.int .i64 0, .int .i64 0, .int .i64 0] 27)).drewN (nq + 1)).alloc (.cells #[.int .i64 id, .int .i64 (p : Int), .int .i64 f] 27)) (w.heap.size + 1) 27 [.int .i64 0, .int .i64 0, .int .i64 0] := by
      have := BlockAt.new (w.alloc (.cells #[.int .i64 id, .int .i64 (p : Int), .int .i64 f] 27)) 27 [.int .i64 0, .int .i64 0, .int .i64 0]
      have e : (w.alloc (.cells #[.int .i64 id, .int .i64 (p : Int), .int .i64 f] 27)).heap.size = w.heap.size + 1 := by simp
      rw [e] at this
      exact (BlockAt.drewN this (nq + 1)).alloc _
    have hsz : w.heap.size + 3 ≤ ((((w.alloc (.cells #[.int .i64 id, .int .i64 (p : Int), .int .i64 f] 27)).alloc (.cells #[.int .i64 0, .int .i64 0, .int .i64 0] 27)).drewN (nq + 1)).alloc (.cells #[.int .i64 id, .int .i64 (p : Int), .int .i64 f] 27)).heap.size := by simp
    obtain ⟨W, hW⟩ : ∃ W, ((((w.alloc (.cells #[.int .i64 id, .int .i64 (p : Int), .int .i64 f] 27)).alloc (.cells #[.int .i64 0, .int .i64 0, .int .i64 0] 27)).drewN (nq + 1)).alloc (.cells #[.int .i64 id, .int .i64 (p : Int), .int .i64 f] 27)) = W := ⟨_, rfl⟩
    rw [hW] at hU hres hsz hu1 hg1
    clear hW
    have hown : ∀ k, (v p).ownBlock = some k → k < w.heap.size ∧ base ≤ k := fun k hk => by have := HOWN.out.lt k hk; omega
    have hZown : ∀ q k, q < 4 → (v q).ownBlock = some k → k < w.heap.size := fun q k hq hk => ((HQ.out.own q hq).lt k hk).2
    have hput := QAt.put (HQ.out.next hU) HP.out hu1 (it := (r p).items ++ [⟨id, (p : Int), f⟩]) (by rw [cellsI_append, List.length_append]; exact hown1) rfl hg1
    have hlow : QUpd b v w (w1.setCell ⟨b, 2 + p * 3, none⟩ (.slice (some ⟨g', 0, none⟩) ((r p).items.length + 1) cap')) :=
      (((QUpd.refl b v w).step hU (by simp)).step hu1 (by intro k hk; simp at hk; exact .inl (.inr ⟨p, HP.out, hk⟩))).step (Upd.setCell w1 ⟨b, 2 + p * 3, none⟩ _) (by simp; exact .inl (.inl rfl))
    have hof : OwnFrom w v (upd v p (.slice (some ⟨g', 0, none⟩) ((r p).items.length + 1) cap')) := fun q k hq hk => by
      by_cases e : q = p
      · subst e; rw [upd_same] at hk; cases hk
        rcases hg1 with hh | hh
        · exact .inl ⟨q, HP.out, hh⟩
        · exact .inr (by show w.heap.size ≤ g'; omega)
      · rw [upd_other _ _ e] at hk; exact .inl ⟨q, hq, hk⟩
    have HOF := Lib.hid hof
    have hr1 := (hres.keep hu1 (by simp; intro hh; have := (hown _ hh).1; omega)).setOther (a := ⟨b, 2 + p * 3, none⟩) (by simp; omega) (.slice (some ⟨g', 0, none⟩) ((r p).items.length + 1) cap')
    have hgz : g' ≠ w.heap.size + 1 := by
      rcases hg1 with hh | hh
      · have := (hown _ hh).1; omega
      · omega
    obtain ⟨W3, hW3⟩ : ∃ W3, w1.setCell ⟨b, 2 + p * 3, none⟩ (.slice (some ⟨g', 0, none⟩) ((r p).items.length + 1) cap') = W3 := ⟨_, rfl⟩
    have hput2 : QAt W3 base b most n (upd v p (.slice (some ⟨g', 0, none⟩) ((r p).items.length + 1) cap')) (upd r p ⟨(r p).items ++ [⟨id, (p : Int), f⟩], (r p).taken, (r p).last⟩) := by rw [← hW3]; exact hput
    rw [hW3] at hlow hr1 ⊢
    obtain ⟨Z, hZ⟩ : ∃ Z, w.heap.size + 1 = Z := ⟨_, rfl⟩
    have hbZ : b ≠ Z := by omega
    have hZ0 : base ≤ Z := by omega
    have hown2 : ∀ q k, q < 4 → ((upd v p (.slice (some ⟨g', 0, none⟩) ((r p).items.length + 1) cap')) q).ownBlock = some k → k ≠ Z := fun q k hq hk => by
      by_cases e : q = p
      · subst e; rw [upd_same] at hk; cases hk; show g' ≠ Z; omega
      · rw [upd_other _ _ e] at hk; have := hZown q k hq hk; omega
    rw [hZ] at hr1 ⊢
    have HPUT := Lib.hid hput2
    have HLOW := Lib.hid hlow
    have HR1 := Lib.hid hr1
    have HO2 := Lib.hid hown2
    have HBZ := Lib.hid (And.intro hbZ (show w.heap.size ≤ Z by omega))
    have cm3 := hput2.blk.cell 0 _ (qCs_most most n _ _).1
    have cn3 := hput2.blk.cell 1 _ (qCs_most most n _ _).2
    have fn3 := hput2.blk.free 1
    clear hU hres hsz hown hZown hput hput2 hlow hr1 hgz hW3 hZ hown2 hof hown1 hu1 hg1 hb1 c1' f1' c0' c0 cm cn fn eb eb2 eb3 hi0 hz0 hz1 hz2 hbl hZ0
  all_goals go_wp2_with fail
  all_goals
    have hq4 := HPUT.out.count (n + 1)
    have hr4 := HR1.out.setOther (a := ⟨b, 1, none⟩) (by simp; exact HBZ.out.1) (.int .i64 (n + 1))
    have hl4 : QUpd b v w (W3.setCell ⟨b, 1, none⟩ (.int .i64 (n + 1))) := HLOW.out.step (Upd.setCell W3 ⟨b, 1, none⟩ _) (by simp; exact .inl (.inl rfl))
    obtain ⟨W4, hW4⟩ : ∃ W4, W3.setCell ⟨b, 1, none⟩ (.int .i64 (n + 1)) = W4 := ⟨_, rfl⟩
    rw [hW4] at hq4 hr4 hl4 ⊢
    have cm4 := hq4.blk.cell 0 _ (qCs_most most (n + 1) _ _).1
    have cn4 := hq4.blk.cell 1 _ (qCs_most most (n + 1) _ _).2
    have r0 := hr4.cell 0 _ rfl
    have r1 := hr4.cell 1 _ rfl
    have r2 := hr4.cell 2 _ rfl
    have f0 := hr4.free 0
    have f1 := hr4.free 1
    have f2 := hr4.free 2
    have HQ4 := Lib.hid hq4
    have HR4 := Lib.hid hr4
    have HL4 := Lib.hid hl4
    have d4 : decide (n + 1 ≤ most) = true := by simpa using hn
    clear hq4 hr4 hl4 hW4 cm3 cn3 fn3
  all_goals go_quiet (fail)
  all_goals go_wp2_with fail
  all_goals
    refine bodyPost_ret (v := .tuple #[zeroIt.val, .bool false]) (by simp [results, Try.results12, go_sem, r0, r1, r2, zeroIt, It.val]) rfl ?_
    have hu5 : ∀ k, Upd [Z] W4 ((((W4.drewN k).setCell ⟨Z, 0, none⟩ (.int .i64 0)).setCell ⟨Z, 1, none⟩ (.int .i64 0)).setCell ⟨Z, 2, none⟩ (.int .i64 0)) := fun k =>
      (((Upd.drewN _ _ k).trans (Upd.setCell' _ _ _ (by simp))).trans (Upd.setCell' _ _ _ (by simp))).trans (Upd.setCell' _ _ _ (by simp))
    refine ⟨rfl, ⟨_, HQ4.out.away (hu5 _) (by simp; exact HBZ.out.1) (fun q k hq hk => by simp; exact HO2.out q k hq hk), HOF.out⟩, HL4.out.step (hu5 _) (by simp; exact .inr HBZ.out.2)⟩
end Go.Proofs.Ytapoikegoknlcaa
