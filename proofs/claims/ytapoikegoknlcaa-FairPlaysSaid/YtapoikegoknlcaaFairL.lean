/- Layer 22: Put whole. -/
import Derived.Test.YtapoikegoknlcaaFairK
import Derived.Test.YtapoikegoknlcaaFairE
namespace Go.Proofs.Ytapoikegoknlcaa
open Go.RowKit
def addIt (r : Nat → Row) (p : Nat) (x : It) : Nat → Row := upd r p ⟨(r p).items ++ [x], (r p).taken, (r p).last⟩
/-- What Put does. -/
inductive PutIs (most n : Int) (r : Nat → Row) (p : Nat) (x : It) : (Nat → Row) → Int → It → Bool → Prop
  | room : n + 1 ≤ most → PutIs most n r p x (addIt r p x) (n + 1) zeroIt false
  | over (r' : Nat → Row) (y : It) : most < n + 1 → ShedIs (addIt r p x) r' y → PutIs most n r p x r' n y true
def PutIsPost (base b : Nat) (most n : Int) (r : Nat → Row) (S : List Nat) (p : Nat) (x : It) (w : World) (e : Ending) (w' : World) : Prop :=
  ∃ r' n' y is, PutIs most n r p x r' n' y is ∧ e = .returned (.tuple #[y.val, .bool is]) ∧ QPost base b most n' r' S w w'
set_option maxHeartbeats 4000000 in
theorem put_over (base b : Nat) (most n : Int) (r : Nat → Row) (S : List Nat) (p : Nat) (id f : Int) (w : World) (hqs : QS base w b most n r S) (hp : p < 4) (hn0 : 0 ≤ n) (hn : most < n + 1) (hm : n ≤ 900000) (hlen1 : ∀ q, q < 4 → ((r q).items.length : Int) ≤ 900000) (_ : most ≤ 1000000) (_ : -1000000 ≤ most) :
    Calls Try.prog 12 #[.pointer (some ⟨b, 0, none⟩), It.val ⟨id, (p : Int), f⟩] w (PutIsPost base b most n r S p ⟨id, (p : Int), f⟩ w) := by
  obtain ⟨v, h, hbw, hS⟩ := hqs
  have hlen := hlen1 p hp
  have HLE1 := Lib.hid hlen1
  obtain ⟨i0, hi0, hz0, hz1, hz2⟩ := info_parts Try.infoItem
  have hq := h.blk
  have hbl := hq.lt
  obtain ⟨g0, g1, g2⟩ := qCs_get most n v r p hp
  have c0 := hq.cell _ _ g0
  have cm := hq.cell 0 _ (qCs_most most n v r).1
  have cn := hq.cell 1 _ (qCs_most most n v r).2
  have fn := hq.free 1
  have eb : w.heap.size ≠ b := Nat.ne_of_gt hbl
  have eb2 : w.heap.size + 1 ≠ b := by omega
  have eb3 : w.heap.size + 1 + 1 ≠ b := by omega
  have HQ := Lib.hid h
  have HSS := Lib.hid hS
  have HBW := Lib.hid hbw
  have p0 : (0 : Int) ≤ p := by omega
  have p1 : (p : Int) ≤ 3 := by omega
  have p2 : (p : Int) < 4 := by omega
  have HP := Lib.hid hp
  unfold It.val
  dsimp only
  have CC := Lib.hid (fun w => clamp3_any (p : Int) w p0 p1)
  have HCN := Lib.hid (fun (m : Nat) => show ∀ j u, [Value.int .i64 id, .int .i64 (p : Int), .int .i64 f][j]? = some u → ((((w.alloc (.cells #[.int .i64 id, .int .i64 (p : Int), .int .i64 f] 27)).alloc (.cells #[.int .i64 0, .int .i64 0, .int .i64 0] 27)).drewN m).drew.alloc (.cells #[.int .i64 id, .int .i64 (p : Int), .int .i64 f] 27)).cell? ((⟨w.heap.size + 1 + 1, 0, none⟩ : Addr).add j) = some u by
    have := cells_new (((w.alloc (.cells #[.int .i64 id, .int .i64 (p : Int), .int .i64 f] 27)).alloc (.cells #[.int .i64 0, .int .i64 0, .int .i64 0] 27)).drewN m).drew 27 [.int .i64 id, .int .i64 (p : Int), .int .i64 f]
    simpa using this)
  have c0' : ∀ m, ((((w.alloc (.cells #[.int .i64 id, .int .i64 (p : Int), .int .i64 f] 27)).alloc (.cells #[.int .i64 0, .int .i64 0, .int .i64 0] 27)).drewN m).alloc (.cells #[.int .i64 id, .int .i64 (p : Int), .int .i64 f] 27)).cell? ⟨b, 2 + p * 3, none⟩ = some (v p) := fun m => BlockAt.cell (b := b) (t := 60) ((BlockAt.drewN ((hq.alloc _).alloc _) m).alloc _) _ _ g0
  have HG0 := Lib.hid g0
  have HBB := Lib.hid hq
  have HBS := Lib.hid hbl
  have hne : ∀ g, (v p).ownBlock = some g → g ≠ b := fun g hg => h.ne p g hp hg
  have HNE := Lib.hid hne
  have HOWN := Lib.hid (h.own p hp)
  have HLEN := Lib.hid (show (r p).items.length + 1 ≤ maxLen ∧ ((r p).items.length + 1) * 24 ≤ 140737488355328 by unfold maxLen; omega)
  clear h hq g0 g1 g2 hp hne hlen hS hbw hlen1
  go_enter Try.func12, Try.ntmps12
  go_wp2_with fail
  go_quiet ((go_at_call 19; exact quietSame (CC.out _)))
  go_wp2_with fail
  go_region_law (refine step_append_own rfl (.tmp 18) (.tmp 20) 37 rfl base 27 i0 _ 3 24 Try.underlying37 hi0 hz0 hz1 hz2 rfl (by decide) (v p) (r p).items.length (cellsI (r p).items) (by simp [Act.eval]) (((HOWN.out.alloc _).alloc _).alloc _) ⟨w.heap.size + 1 + 1, 0, none⟩ 1 1 [.int .i64 id, .int .i64 (p : Int), .int .i64 f] (by simp [Act.eval]) (by decide) rfl (HCN.out _) (by simp [Value.oneCell']) HLEN.out.1 HLEN.out.2 (by have := HBW.out; simp; omega) ?_; intro g' cap' w1 hown1 hu1 hg1; have hb1 : BlockAt w1 b 60 (qCs most n v r) := (by refine BlockAt.keep ?_ hu1 (by simp; intro hh; exact HNE.out _ hh rfl); exact ((HBB.out.alloc _).alloc _).alloc _); have c1' := hb1.cell _ _ HG0.out; have f1' := hb1.free (2 + p * 3))
  all_goals
    have hU : Upd [] w ((((w.alloc (.cells #[.int .i64 id, .int .i64 (p : Int), .int .i64 f] 27)).alloc (.cells #[.int .i64 0, .int .i64 0, .int .i64 0] 27)).drewN (nq + 1)).alloc (.cells #[.int .i64 id, .int .i64 (p : Int), .int .i64 f] 27)) := (((Upd.alloc _ _ _).trans (Upd.alloc _ _ _)).trans (Upd.drewN _ _ _)).trans (Upd.alloc _ _ _)
    have hres : BlockAt ((((w.alloc (.cells #[.int .i64 id, .int .i64 (p : Int), .int .i64 f] 27)).alloc (.cells #[.int .i64 0, .int .i64 0, .int .i64 0] 27)).drewN (nq + 1)).alloc (.cells #[.int .i64 id, .int .i64 (p : Int), .int .i64 f] 27)) (w.heap.size + 1) 27 [.int .i64 0, .int .i64 0, .int .i64 0] := by
      have := BlockAt.new (w.alloc (.cells #[.int .i64 id, .int .i64 (p : Int), .int .i64 f] 27)) 27 [.int .i64 0, .int .i64 0, .int .i64 0]
      have e : (w.alloc (.cells #[.int .i64 id, .int .i64 (p : Int), .int .i64 f] 27)).heap.size = w.heap.size + 1 := by simp
      rw [e] at this
      exact (BlockAt.drewN this (nq + 1)).alloc _
    have hsz : w.heap.size + 3 ≤ ((((w.alloc (.cells #[.int .i64 id, .int .i64 (p : Int), .int .i64 f] 27)).alloc (.cells #[.int .i64 0, .int .i64 0, .int .i64 0] 27)).drewN (nq + 1)).alloc (.cells #[.int .i64 id, .int .i64 (p : Int), .int .i64 f] 27)).heap.size := by simp
    obtain ⟨W, hW⟩ : ∃ W, ((((w.alloc (.cells #[.int .i64 id, .int .i64 (p : Int), .int .i64 f] 27)).alloc (.cells #[.int .i64 0, .int .i64 0, .int .i64 0] 27)).drewN (nq + 1)).alloc (.cells #[.int .i64 id, .int .i64 (p : Int), .int .i64 f] 27)) = W := ⟨_, rfl⟩
    rw [hW] at hU hres hsz hu1 hg1
    clear hW
    have hSW : ∀ k ∈ (w.heap.size + 1) :: S, k < W.heap.size ∧ ¬ QMay b v k := fun k hk => by
      rcases List.mem_cons.1 hk with rfl | hk
      · refine ⟨by omega, ?_⟩
        rintro (rfl | ⟨q, hq, hk⟩)
        · have := HQ.out.blk.lt; omega
        · have := ((HQ.out.own q hq).lt _ hk).2; omega
      · exact ⟨by have := (HSS.out k hk).1; omega, (HSS.out k hk).2⟩
    have hput := QAt.put (HQ.out.next hU) HP.out hu1 (it := (r p).items ++ [⟨id, (p : Int), f⟩]) (by rw [cellsI_append, List.length_append]; exact hown1) rfl hg1
    have hlow : QUpd b v W (w1.setCell ⟨b, 2 + p * 3, none⟩ (.slice (some ⟨g', 0, none⟩) ((r p).items.length + 1) cap')) :=
      ((QUpd.refl b v W).step hu1 (by intro k hk; simp at hk; exact .inl (.inr ⟨p, HP.out, hk⟩))).step (Upd.setCell w1 ⟨b, 2 + p * 3, none⟩ _) (by simp; exact .inl (.inl rfl))
    have hof : OwnFrom W v (upd v p (.slice (some ⟨g', 0, none⟩) ((r p).items.length + 1) cap')) := fun q k hq hk => by
      by_cases e : q = p
      · subst e; rw [upd_same] at hk; cases hk
        rcases hg1 with hh | hh
        · exact .inl ⟨q, HP.out, hh⟩
        · exact .inr hh
      · rw [upd_other _ _ e] at hk; exact .inl ⟨q, hq, hk⟩
    have hq3 := QS.of (HQ.out.next hU) (by have := HBW.out; omega) hSW hput hof hlow
    obtain ⟨hq3, hst3⟩ := hq3
    have hst30 := (QStep.upd hU HBW.out (by simp) (fun k hk => (HSS.out k hk).1)).trans (hst3.sub (T := S) (by simp +contextual))
    have hr3 := hst3.block (by simp) hres
    obtain ⟨W3, hW3⟩ : ∃ W3, w1.setCell ⟨b, 2 + p * 3, none⟩ (.slice (some ⟨g', 0, none⟩) ((r p).items.length + 1) cap') = W3 := ⟨_, rfl⟩
    rw [show upd r p ⟨(r p).items ++ [⟨id, (p : Int), f⟩], (r p).taken, (r p).last⟩ = addIt r p ⟨id, (p : Int), f⟩ from rfl] at hq3
    rw [hW3] at hq3 hst30 hr3 ⊢
    have hzb := hq3.ne (w.heap.size + 1) (by simp)
    have HZL := Lib.hid (show base ≤ w.heap.size + 1 ∧ w.heap.size + 1 ∉ S from ⟨by have := HBW.out; omega, fun hh => by have := (HSS.out _ hh).1; omega⟩)
    obtain ⟨Z, hZ⟩ : ∃ Z, w.heap.size + 1 = Z := ⟨_, rfl⟩
    rw [hZ] at hq3 hr3 hzb HZL ⊢
    have HQ3 := Lib.hid hq3
    have HST3 := Lib.hid hst30
    have HR3 := Lib.hid hr3
    obtain ⟨cm3, cn3, fn3⟩ := hq3.cells
    have HZB := Lib.hid hzb
    clear hU hres hsz hSW hput hlow hof hq3 hst3 hst30 hr3 hzb hW3 hZ hown1 hu1 hg1 hb1 c1' f1' c0' c0 cm cn fn eb eb2 eb3 hi0 hz0 hz1 hz2 hbl
  all_goals go_wp2_with fail
  all_goals
    have hq4 := HQ3.out.count (n + 1)
    have hu4 : Upd [b] W3 (W3.setCell ⟨b, 1, none⟩ (.int .i64 (n + 1))) := Upd.setCell' _ _ _ (by simp)
    have hr4 := HR3.out.setOther (a := ⟨b, 1, none⟩) (by exact fun e => HZB.out e.symm) (.int .i64 (n + 1))
    have hst4 := HST3.out.trans (QStep.upd hu4 HQ3.out.base_le (by simp; exact ⟨HQ3.out.blk_lt.2, fun hh => HQ3.out.ne b (by simp [hh]) rfl⟩) (fun k hk => HQ3.out.lt k (by simp [hk])))
    obtain ⟨W4, hW4⟩ : ∃ W4, W3.setCell ⟨b, 1, none⟩ (.int .i64 (n + 1)) = W4 := ⟨_, rfl⟩
    rw [hW4] at hq4 hr4 hst4 ⊢
    obtain ⟨cm4, cn4, fn4⟩ := hq4.cells
    have HQ4 := Lib.hid hq4
    have HR4 := Lib.hid hr4
    have HST4 := Lib.hid hst4
    have d4 : decide (n + 1 ≤ most) = false := by simp; omega
    clear hq4 hr4 hst4 hu4 hW4 cm3 cn3 fn3
  all_goals go_quiet (fail)
  all_goals go_wp2_with fail
  all_goals
    have CS := fun W (hq : QS base W b most (n + 1) (addIt r p ⟨id, (p : Int), f⟩) (Z :: S)) => shed_qs base b most (n + 1) (addIt r p ⟨id, (p : Int), f⟩) (Z :: S) W hq (by omega) (by omega) (fun q hq4 => by
      unfold addIt
      by_cases e : q = p
      · rw [e, upd_same]; simp; have := HLE1.out p HP.out; omega
      · rw [upd_other _ _ e]; have := HLE1.out q hq4; omega) ⟨p, HP.out, by unfold addIt; rw [upd_same]; simp⟩
    refine (CS _ (HQ4.out.next (Upd.drewN [] _ _))).mono ?_
    rintro e w5 ⟨r', y, hsh, rfl, hq5, hst5⟩
    have HSH := Lib.hid hsh
    have HQ5 := Lib.hid hq5
    have HST5 := Lib.hid ((HST4.out.trans (QStep.upd (Upd.drewN [] _ _) HQ4.out.base_le (by simp) (fun k hk => HQ4.out.lt k (by simp [hk])))).trans (hst5.sub (T := S) (by simp +contextual)))
    have hr5 := hst5.block (by simp) (HR4.out.drewN _)
    have f0 := hr5.free 0
    have f1 := hr5.free 1
    have f2 := hr5.free 2
    have r0 := hr5.cell 0 _ rfl
    have r1 := hr5.cell 1 _ rfl
    have r2 := hr5.cell 2 _ rfl
    have HR5 := Lib.hid hr5
    obtain ⟨yi, yp, yf⟩ := y
    unfold It.val
    dsimp only
    clear hsh hq5 hst5 hr5 CS cm4 cn4 fn4
  all_goals go_wp2_with fail
  all_goals
    have hz6 : BlockAt (((w5.setCell ⟨Z, 0, none⟩ (.int .i64 yi)).setCell ⟨Z, 1, none⟩ (.int .i64 yp)).setCell ⟨Z, 2, none⟩ (.int .i64 yf)) Z 27 [.int .i64 yi, .int .i64 yp, .int .i64 yf] := ((HR5.out.set 0 _).set 1 _).set 2 _
    have hu6 : Upd [Z] w5 (((w5.setCell ⟨Z, 0, none⟩ (.int .i64 yi)).setCell ⟨Z, 1, none⟩ (.int .i64 yp)).setCell ⟨Z, 2, none⟩ (.int .i64 yf)) := ((Upd.setCell' _ _ _ (by simp)).trans (Upd.setCell' _ _ _ (by simp))).trans (Upd.setCell' _ _ _ (by simp))
    have hq6 := (HQ5.out.write hu6 (by simp)).sub (T := S) (by simp +contextual)
    have hst6 := HST5.out.trans (QStep.upd hu6 HQ5.out.base_le (by have := HZL.out; simp; exact this) (fun k hk => HQ5.out.lt k (by simp [hk])))
    obtain ⟨W6, hW6⟩ : ∃ W, (((w5.setCell ⟨Z, 0, none⟩ (.int .i64 yi)).setCell ⟨Z, 1, none⟩ (.int .i64 yp)).setCell ⟨Z, 2, none⟩ (.int .i64 yf)) = W := ⟨_, rfl⟩
    rw [hW6] at hz6 hq6 hst6 ⊢
    have q0 := hz6.cell 0 _ rfl
    have q1 := hz6.cell 1 _ rfl
    have q2 := hz6.cell 2 _ rfl
    refine bodyPost_ret (v := .tuple #[.agg #[.int .i64 yi, .int .i64 yp, .int .i64 yf], .bool true]) (by simp [results, Try.results12, go_sem, q0, q1, q2]) rfl ?_
    exact ⟨r', n, ⟨yi, yp, yf⟩, true, PutIs.over r' _ (by omega) HSH.out, rfl, by simpa using hq6, hst6⟩
theorem put_qs (base b : Nat) (most n : Int) (r : Nat → Row) (S : List Nat) (p : Nat) (x : It) (w : World) (h : QS base w b most n r S) (hp : p < 4) (hx : x.prio = (p : Int)) (hn0 : 0 ≤ n) (hm : n ≤ 900000) (hlen : ∀ q, q < 4 → ((r q).items.length : Int) ≤ 900000) (hm2 : most ≤ 1000000) (hm3 : -1000000 ≤ most) :
    Calls Try.prog 12 #[.pointer (some ⟨b, 0, none⟩), x.val] w (PutIsPost base b most n r S p x w) := by
  obtain ⟨id, px, f⟩ := x
  dsimp only at hx
  subst hx
  rcases Int.lt_or_le most (n + 1) with ho | ho
  · exact put_over base b most n r S p id f w h hp hn0 ho hm hlen hm2 hm3
  · obtain ⟨v, h, hbw, hS⟩ := h
    refine (put_room base b most n v r p id f w h hp hn0 ho hm2 (by have := hlen p hp; omega) hbw).mono ?_
    rintro e w' ⟨rfl, ⟨v', hq, hof⟩, hu⟩
    exact ⟨_, _, _, _, PutIs.room ho, rfl, QS.of h hbw hS hq hof hu⟩
end Go.Proofs.Ytapoikegoknlcaa
