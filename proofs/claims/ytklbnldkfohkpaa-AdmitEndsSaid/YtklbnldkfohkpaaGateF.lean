/- Layer 23: SameInts; the example. -/
import Derived.Test.YtklbnldkfohkpaaGateE
namespace Go.Proofs.Ytklbnldkfohkpaa
open Go.RowKit
def TruePost (w : World) (e : Ending) (w' : World) : Prop := e = .returned (.bool true) ∧ Below w.heap.size w w'
set_option maxHeartbeats 2000000 in
theorem sameInts_any (v1 v2 : Value) (zs : List Int) (w : World) (h1 : IntsIn w v1 zs) (h2 : IntsIn w v2 zs) (hl : (zs.length : Int) ≤ 100000) :
    Calls Try.prog 17 #[v1, v2] w fun e w' => e = .returned (.bool true) ∧ Upd [] w w' := by
  obtain ⟨a1, c1, rfl, -, -, hr1⟩ := h1
  obtain ⟨a2, c2, rfl, -, -, hr2⟩ := h2
  have HR1 := Lib.hid hr1
  have HR2 := Lib.hid hr2
  have HU : Hid (Upd [] w w) := Lib.hid (Upd.refl _ _)
  obtain ⟨n, hn⟩ : ∃ n, zs.length = n := ⟨_, rfl⟩
  have HN := Lib.hid hn
  rw [hn] at hl ⊢
  clear hr1 hr2 hn
  go_enter Try.func17, Try.ntmps17
  go_wp2_with fail
  go_loopw [5] (fun i wr => ∃ q : Nat, q ≤ n ∧ i = .int .i64 q ∧ Hid (Upd [] w wr)) (fun i _ => n - (intOf i).toNat)
  case atStart => exact ⟨0, by omega, rfl, HU⟩
  case round =>
    obtain ⟨q, hq, rfl, HU2⟩ := hrel
    clear HU
    by_cases hqn : q < n
    · have hqz : q < zs.length := by rw [HN.out]; exact hqn
      obtain ⟨b1, o1, rfl, x0⟩ : ∃ b off, a1 = some ⟨b, off, none⟩ ∧ w.cell? ⟨b, off + q, none⟩ = some (.int .i64 (zs.getD q 0)) := by
        rcases HR1.out with h | ⟨b, off, rfl, hc⟩
        · subst h; simp at hqz
        · exact ⟨b, off, rfl, hc q hqz⟩
      obtain ⟨b2, o2, rfl, y0⟩ : ∃ b off, a2 = some ⟨b, off, none⟩ ∧ w.cell? ⟨b, off + q, none⟩ = some (.int .i64 (zs.getD q 0)) := by
        rcases HR2.out with h | ⟨b, off, rfl, hc⟩
        · subst h; simp at hqz
        · exact ⟨b, off, rfl, hc q hqz⟩
      have x1 := HU2.out.cell x0 (by simp)
      have y1 := HU2.out.cell y0 (by simp)
      obtain ⟨z, hz⟩ : ∃ z, zs.getD q 0 = z := ⟨_, rfl⟩
      rw [hz] at x1 y1
      have q0 : (0 : Int) ≤ q := by omega
      have q1 : (q : Int) < n := by omega
      clear x0 y0 hz hqz hqn
      go_wp2_with fail
      go_quiet (fail)
      go_wp2_with fail
      have HU3 : ∀ m, Hid (Upd [] w (wr.drewN m)) := fun m => Lib.hid (HU2.out.trans (Upd.drewN [] wr m))
      go_roundw
      case rel => exact ⟨q + 1, by omega, by go_num, HU3 _⟩
      case measure => simp [intOf] <;> omega
    · obtain rfl : q = n := by omega
      clear hqn
      go_wp2_with fail
      go_ret
      exact ⟨rfl, HU2.out⟩
theorem enter_runs {g g' : Gt} {p : Nat} {x sh : It} {what : Int} {is : Bool} (h : EnterIs g p x what sh is g') (hlt : (g.U.length : Int) < g.lim.lim) : what = 1 ∧ sh = zeroIt ∧ is = false ∧ g' = ⟨g.most, g.n, g.r, g.lim, putU g.U x.id⟩ := by
  cases h with
  | runs h => exact ⟨rfl, rfl, rfl, rfl⟩
  | waits r' n' y h _ => omega
  | shed r' n' y h _ _ => omega
  | other r' n' y h _ _ => omega
theorem enter_room {g g' : Gt} {p : Nat} {x sh : It} {what : Int} {is : Bool} (h : EnterIs g p x what sh is g') (hle : g.lim.lim ≤ g.U.length) (hn : g.n + 1 ≤ g.most) : what = 2 ∧ sh = zeroIt ∧ is = false ∧ g' = ⟨g.most, g.n + 1, addIt g.r p x, g.lim, g.U⟩ := by
  cases h with
  | runs h => omega
  | waits r' n' y h hp =>
    cases hp with
    | room _ => exact ⟨rfl, rfl, rfl, rfl⟩
  | shed r' n' y h hp _ =>
    cases hp with
    | over _ _ ho _ => omega
  | other r' n' y h hp _ =>
    cases hp with
    | over _ _ ho _ => omega
theorem enter_over {g g' : Gt} {p : Nat} {x sh : It} {what : Int} {is : Bool} (h : EnterIs g p x what sh is g') (hle : g.lim.lim ≤ g.U.length) (hn : g.most < g.n + 1) : ∃ r' y, ShedIs (addIt g.r p x) r' y ∧ g' = ⟨g.most, g.n, r', g.lim, g.U⟩ ∧ ((y.id = x.id ∧ what = 3 ∧ sh = zeroIt ∧ is = false) ∨ (¬ y.id = x.id ∧ what = 2 ∧ sh = y ∧ is = true)) := by
  cases h with
  | runs h => omega
  | waits r' n' y h hp =>
    cases hp with
    | room _ => omega
  | shed r' n' y h hp e =>
    cases hp with
    | over _ _ ho hs => exact ⟨r', y, hs, rfl, .inl ⟨e, rfl, rfl, rfl⟩⟩
  | other r' n' y h hp e =>
    cases hp with
    | over _ _ ho hs => exact ⟨r', sh, hs, rfl, .inr ⟨e, rfl, rfl, rfl⟩⟩
theorem GateAt.next {base : Nat} {W W' : World} {gb : Nat} {g : Gt} {S : List Nat} (h : GateAt base W gb g S) (u : Upd [] W W') : GateAt base W' gb g S := by
  obtain ⟨qb, lb, um, h⟩ := h; exact ⟨qb, lb, um, h.next u⟩
theorem GateAt.sub {base : Nat} {W : World} {gb : Nat} {g : Gt} {S T : List Nat} (h : GateAt base W gb g S) (hs : ∀ k ∈ T, k ∈ S) : GateAt base W gb g T := by
  obtain ⟨qb, lb, um, h⟩ := h; exact ⟨qb, lb, um, h.sub hs⟩
theorem GateAt.new {base : Nat} {W W' : World} {gb : Nat} {g : Gt} {S : List Nat} (h : GateAt base W gb g S) (u : Upd [] W W') {z : Nat} (hz : W.heap.size ≤ z) (hz' : z < W'.heap.size) : GateAt base W' gb g (z :: S) := by
  obtain ⟨qb, lb, um, h⟩ := h; exact ⟨qb, lb, um, h.new u hz hz'⟩
theorem GateAt.base_le {base : Nat} {W : World} {gb : Nat} {g : Gt} {S : List Nat} (h : GateAt base W gb g S) : base ≤ W.heap.size := by
  obtain ⟨qb, lb, um, h⟩ := h; exact h.q.base_le
theorem GateAt.lt {base : Nat} {W : World} {gb : Nat} {g : Gt} {S : List Nat} (h : GateAt base W gb g S) : ∀ k ∈ S, k < W.heap.size := by
  obtain ⟨qb, lb, um, h⟩ := h; exact fun k hk => h.q.lt k (by simp [hk])
theorem GateAt.step0 {base : Nat} {W W' : World} {gb : Nat} {g : Gt} {S : List Nat} (h : GateAt base W gb g S) (u : Upd [] W W') : QStep base S W W' := QStep.upd u h.base_le (by simp) h.lt
def noRows : Nat → Row := fun _ => ⟨[], false, 0⟩
theorem live_shed {r' : Nat → Row} {y : It} (h : ShedIs (addIt (addIt noRows 0 ⟨2, 0, 0⟩) 1 ⟨3, 1, 0⟩) r' y) : y = ⟨2, 0, 0⟩ ∧ (r' 0).items = [] ∧ (r' 1).items = [⟨3, 1, 0⟩] ∧ (r' 2).items = [] ∧ (r' 3).items = [] := by
  cases h with
  | some p i f x h1 h2 h3 h4 h5 h6 =>
    have hp : p = 0 := by
      rcases Nat.eq_zero_or_pos p with e | e
      · exact e
      · have := h2 0 e
        simp [addIt, upd, noRows] at this
    subst hp
    simp [addIt, upd, noRows] at h4
    match i, h4 with
    | 0, h4 =>
      simp at h4
      exact ⟨h4.symm, by simp [addIt, upd, noRows], by simp [addIt, upd, noRows], by simp [addIt, upd, noRows], by simp [addIt, upd, noRows]⟩
    | i + 1, h4 => simp at h4
theorem live_take {r r' : Nat → Row} {x : It} {is : Bool} (h1 : (r 1).items = [⟨3, 1, 0⟩]) (h2 : (r 2).items = []) (h3 : (r 3).items = []) (h0 : (r 0).items = []) (h : TakeIs r r' x is) : is = true ∧ x = ⟨3, 1, 0⟩ := by
  cases h with
  | none hn => have := hn 1 (by omega); rw [h1] at this; cases this
  | some p i f x k1 k2 k3 k4 k5 k6 =>
    refine ⟨rfl, ?_⟩
    rcases (show p = 0 ∨ p = 1 ∨ p = 2 ∨ p = 3 by omega) with rfl | rfl | rfl | rfl
    · rw [h0] at k4; simp at k4
    · rw [h1] at k4
      match i, k4 with
      | 0, k4 => simp at k4; exact k4.symm
      | i + 1, k4 => simp at k4
    · rw [h2] at k4; simp at k4
    · rw [h3] at k4; simp at k4
theorem live_next {g g' : Gt} {ids : List Int} (hU : g.U = []) (hl : g.lim.lim = 1) (h1 : (g.r 1).items = [⟨3, 1, 0⟩]) (h2 : (g.r 2).items = []) (h3 : (g.r 3).items = []) (h0 : (g.r 0).items = []) (h : NextRun g ids g') : ids = [3] ∧ g'.U = [3] ∧ g'.n = g.n - 1 := by
  cases h with
  | full _ h => rw [hU, hl] at h; simp at h
  | none _ r' x h ht => have := (live_take h1 h2 h3 h0 ht).1; cases this
  | go _ _ r' x ids h ht hr =>
    obtain ⟨-, rfl⟩ := live_take h1 h2 h3 h0 ht
    have hU1 : putU g.U 3 = [3] := by rw [hU]; rfl
    cases hr with
    | full _ h => exact ⟨rfl, hU1, rfl⟩
    | none _ r'' x h ht' => dsimp only at h; rw [hU1, hl] at h; simp at h
    | go _ _ r'' x ids h ht' hr' => dsimp only at h; rw [hU1, hl] at h; simp at h
set_option maxRecDepth 100000 in
set_option maxHeartbeats 4000000 in
theorem lives_any (w : World) : Calls Try.prog 16 #[] w (TruePost w) := by
  have CN := Lib.hid (newGate_any 1 4 1 w.heap.size w (Nat.le_refl _))
  go_enter Try.func16, Try.ntmps16
  go_wp2_with fail
  refine CN.out.mono ?_
  rintro e w1 ⟨gb, rfl, hg, hst, hgb⟩
  have HG1 := Lib.hid hg
  have HST1 := Lib.hid hst
  have HO1 : Hid (Gt.Ok (newGt 1 4 1)) := Lib.hid ⟨RowsOk.nil, by decide, by decide, by decide, ⟨by decide, by decide, by decide, by decide, by decide, by decide, by decide, by decide⟩, by decide⟩
  clear hg hst hgb CN
  have C1 := Lib.hid (enter_any w.heap.size gb (newGt 1 4 1) [] 0 ⟨1, 0, 0⟩ w1 HG1.out HO1.out (by omega) rfl)
  unfold It.val at C1
  dsimp only at C1
  go_wp2_with fail
  refine C1.out.mono ?_
  rintro e w2 ⟨what, sh, is, g2, he, rfl, hp⟩
  obtain ⟨rfl, rfl, rfl, rfl⟩ := enter_runs he (by decide)
  have hg2 : GateAt w.heap.size w2 gb ⟨1, 0, noRows, newLim 1 4, [1]⟩ [] := hp.at_
  have HG2 := Lib.hid (hg2.next (Upd.alloc [] w2 (.cells #[.int .i64 0, .int .i64 0, .int .i64 0] 29)))
  have HST2 := Lib.hid ((HST1.out.trans hp.st).trans (hg2.step0 (Upd.alloc [] w2 (.cells #[.int .i64 0, .int .i64 0, .int .i64 0] 29))))
  have HO2 : Hid (Gt.Ok ⟨1, 0, noRows, newLim 1 4, [1]⟩) := Lib.hid ⟨RowsOk.nil, by decide, by decide, by decide, HO1.out.lim, by decide⟩
  unfold It.val zeroIt
  dsimp only
  clear he hp hg2 C1 HG1 HST1
  go_upto_region 5 with fail
  obtain ⟨W2, hW2⟩ : ∃ W, w2.alloc (.cells #[.int .i64 0, .int .i64 0, .int .i64 0] 29) = W := ⟨_, rfl⟩
  rw [hW2] at HG2 HST2 ⊢
  clear hW2
  have C2 := Lib.hid (enter_any w.heap.size gb ⟨1, 0, noRows, newLim 1 4, [1]⟩ [] 0 ⟨2, 0, 0⟩ W2 HG2.out HO2.out (by omega) rfl)
  unfold It.val at C2
  dsimp only at C2
  go_wp2_with fail
  refine C2.out.mono ?_
  rintro e w3 ⟨what, sh, is, g3, he, rfl, hp⟩
  obtain ⟨rfl, rfl, rfl, rfl⟩ := enter_room he (by decide) (by decide)
  have hg3 : GateAt w.heap.size w3 gb ⟨1, 1, addIt noRows 0 ⟨2, 0, 0⟩, newLim 1 4, [1]⟩ [] := hp.at_
  have HG3 := Lib.hid (hg3.next (Upd.alloc [] w3 (.cells #[.int .i64 0, .int .i64 0, .int .i64 0] 29)))
  have HST3 := Lib.hid ((HST2.out.trans hp.st).trans (hg3.step0 (Upd.alloc [] w3 (.cells #[.int .i64 0, .int .i64 0, .int .i64 0] 29))))
  have HO3 : Hid (Gt.Ok ⟨1, 1, addIt noRows 0 ⟨2, 0, 0⟩, newLim 1 4, [1]⟩) := Lib.hid ⟨by simpa using HO2.out.rows.add (p := 0) (x := ⟨2, 0, 0⟩) (by omega) rfl, by decide, by decide, by decide, HO1.out.lim, by decide⟩
  unfold It.val zeroIt
  dsimp only
  clear he hp hg3 C2 HG2 HST2
  go_upto_region 6 with fail
  obtain ⟨W3, hW3⟩ : ∃ W, w3.alloc (.cells #[.int .i64 0, .int .i64 0, .int .i64 0] 29) = W := ⟨_, rfl⟩
  rw [hW3] at HG3 HST3 ⊢
  clear hW3
  have C3 := Lib.hid (enter_any w.heap.size gb ⟨1, 1, addIt noRows 0 ⟨2, 0, 0⟩, newLim 1 4, [1]⟩ [] 1 ⟨3, 1, 0⟩ W3 HG3.out HO3.out (by omega) rfl)
  unfold It.val at C3
  dsimp only at C3
  go_wp2_with fail
  refine C3.out.mono ?_
  rintro e w4 ⟨what, sh, is, g4, he, rfl, hp⟩
  obtain ⟨r', y, hsh, rfl, hh⟩ := enter_over he (by decide) (by decide)
  obtain ⟨rfl, l0, l1, l2, l3⟩ := live_shed hsh
  rcases hh with ⟨hh, -⟩ | ⟨-, rfl, rfl, rfl⟩
  · cases hh
  have hg4 : GateAt w.heap.size w4 gb ⟨1, 1, r', newLim 1 4, [1]⟩ [] := hp.at_
  have HG4 := Lib.hid (hg4.new (Upd.alloc [] w4 (.cells #[.int .i64 2, .int .i64 0, .int .i64 0] 29)) (z := w4.heap.size) (Nat.le_refl _) (by simp))
  have HZ4 : Hid (BlockAt (w4.alloc (.cells #[.int .i64 2, .int .i64 0, .int .i64 0] 29)) w4.heap.size 29 [.int .i64 2, .int .i64 0, .int .i64 0]) := Lib.hid (BlockAt.new w4 _ _)
  have HST4 := Lib.hid ((HST3.out.trans hp.st).trans (hg4.step0 (Upd.alloc [] w4 (.cells #[.int .i64 2, .int .i64 0, .int .i64 0] 29))))
  have HO4 : Hid (Gt.Ok ⟨1, 1, r', newLim 1 4, [1]⟩) := Lib.hid ⟨by simpa using ((HO3.out.rows.add (p := 1) (x := ⟨3, 1, 0⟩) (by omega) rfl).shed hsh).1, by dsimp only; omega, by dsimp only; omega, by dsimp only; omega, HO1.out.lim, by simp⟩
  unfold It.val
  dsimp only
  have HL := Lib.hid (And.intro l0 (And.intro l1 (And.intro l2 l3)))
  clear he hp hg4 C3 HG3 HST3 hsh l0 l1 l2 l3
  go_upto_region 7 with fail
  obtain ⟨W4, hW4⟩ : ∃ W, w4.alloc (.cells #[.int .i64 2, .int .i64 0, .int .i64 0] 29) = W := ⟨_, rfl⟩
  obtain ⟨Z, hZ⟩ : ∃ Z, w4.heap.size = Z := ⟨_, rfl⟩
  rw [hW4, hZ] at HG4 HZ4
  rw [hW4] at HST4
  rw [hW4, hZ]
  clear hW4 hZ
  have C4 := Lib.hid (gdone_any w.heap.size gb ⟨1, 1, r', newLim 1 4, [1]⟩ 5 1 3 false [Z] W4 HG4.out HO4.out (by omega) (by omega) (by omega) (by omega))
  go_wp2_with fail
  refine C4.out.mono ?_
  rintro e w5 ⟨ids, v, g5, hd, rfl, hi, hg5, hst5⟩
  obtain ⟨rfl, hU5, hn5⟩ : ids = [3] ∧ g5.U = [3] ∧ g5.n = 0 := by
    obtain ⟨l0, l1, l2, l3⟩ := HL.out
    cases hd with
    | no h => simp at h
    | yes _ _ h hr =>
      have := live_next (g := ⟨1, 1, r', (newLim 1 4).done 5 1 3 false, [1].erase 1⟩) rfl (show ((newLim 1 4).done 5 1 3 false).lim = 1 by decide) l1 l2 l3 l0 hr
      exact ⟨this.1, this.2.1, by rw [this.2.2]; rfl⟩
  have HG5 := Lib.hid hg5
  have HI5 := Lib.hid (OwnInts.isIn hi (by simp))
  have hz5 := hst5.block (by simp) HZ4.out
  have z0 := hz5.cell 0 _ rfl
  have z1 := hz5.cell 1 _ rfl
  have z2 := hz5.cell 2 _ rfl
  have HB5 := Lib.hid (HST4.out.below.trans hst5.below)
  have CS := Lib.hid (sameInts_any v (.slice (some ⟨w5.heap.size, 0, none⟩) 1 1) [3] (w5.alloc (.cells #[.int .i64 3] 3)) (HI5.out.keep (Upd.alloc [] _ _) (by simp)) ⟨_, 1, rfl, by simp, by simp, .inr ⟨w5.heap.size, 0, rfl, fun j hj => by
    have : j = 0 := by simp at hj; omega
    subst this
    exact (BlockAt.new w5 3 [.int .i64 3]).cell 0 _ rfl⟩⟩ (by simp))
  have HS5 := Lib.hid (show w.heap.size ≤ w5.heap.size from hg5.base_le)
  clear hd hi hg5 hst5 hz5 C4 HL HI5
  go_wp2_with fail
  refine CS.out.mono ?_
  rintro e w6 ⟨rfl, hu6⟩
  have HG6 := Lib.hid (HG5.out.next ((Upd.alloc [] w5 (.cells #[.int .i64 3] 3)).trans hu6))
  have HB6 := Lib.hid (HB5.out.trans (((Upd.alloc [] w5 (.cells #[.int .i64 3] 3)).trans hu6).below HS5.out (by simp)))
  have CU := Lib.hid (under_any w.heap.size gb g5 _ w6 HG6.out)
  have CW := Lib.hid (waiting_any w.heap.size gb g5 _ w6 HG6.out)
  rw [hU5] at CU
  rw [hn5] at CW
  clear hu6 CS
  go_wp2_with fail
  refine CU.out.mono ?_
  rintro e w7 ⟨rfl, rfl⟩
  go_wp2_with fail
  refine CW.out.mono ?_
  rintro e w7 ⟨rfl, rfl⟩
  go_wp2_with fail
  go_ret
  exact ⟨rfl, HB6.out⟩
end Go.Proofs.Ytklbnldkfohkpaa
