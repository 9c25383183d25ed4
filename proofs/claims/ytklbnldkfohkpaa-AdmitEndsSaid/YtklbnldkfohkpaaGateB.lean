/- Layer 23: the walk of Enter. -/
import Derived.Test.YtklbnldkfohkpaaGateA
import Derived.Deep.DeepCutAuto
import Derived.RegionTactic
namespace Go.Proofs.Ytklbnldkfohkpaa
open Go.RowKit
set_option maxRecDepth 100000 in
set_option maxHeartbeats 4000000 in
theorem enter_any (base gb : Nat) (g : Gt) (S : List Nat) (p : Nat) (x : It) (w : World) (h : GateAt base w gb g S) (ho : g.Ok) (hp : p < 4) (hx : x.prio = (p : Int)) :
    Calls Try.prog 11 #[.pointer (some ⟨gb, 0, none⟩), x.val] w (EnterPost base gb g p x S w) := by
  obtain ⟨qb, lb, um, h⟩ := h
  have HG := Lib.hid h
  have HO := Lib.hid ho
  have HPX := Lib.hid (And.intro hp hx)
  have HSL := Lib.hid h.q.lt
  have HB := Lib.hid h.q.base_le
  obtain ⟨xi, xp, xf⟩ := x
  unfold It.val
  dsimp only
  have u1 : Upd [] w ((w.alloc (.cells #[.int .i64 xi, .int .i64 xp, .int .i64 xf] 29)).alloc (.cells #[.int .i64 0, .int .i64 0, .int .i64 0] 29)) := (Upd.alloc [] _ _).trans (Upd.alloc [] _ _)
  have e1 : (w.alloc (.cells #[.int .i64 xi, .int .i64 xp, .int .i64 xf] 29)).heap.size = w.heap.size + 1 := by simp
  have HG1 : Hid (GateIs base ((w.alloc (.cells #[.int .i64 xi, .int .i64 xp, .int .i64 xf] 29)).alloc (.cells #[.int .i64 0, .int .i64 0, .int .i64 0] 29)) gb qb lb um g ((w.heap.size + 1) :: w.heap.size :: S)) := Lib.hid
    ((h.new (Upd.alloc [] w _) (Nat.le_refl _) (by simp)).new (Upd.alloc [] _ _) (by rw [e1]; exact Nat.le_refl _) (by simp))
  have HX1 : Hid (BlockAt ((w.alloc (.cells #[.int .i64 xi, .int .i64 xp, .int .i64 xf] 29)).alloc (.cells #[.int .i64 0, .int .i64 0, .int .i64 0] 29)) w.heap.size 29 [.int .i64 xi, .int .i64 xp, .int .i64 xf]) := Lib.hid ((BlockAt.new w _ [.int .i64 xi, .int .i64 xp, .int .i64 xf]).alloc _)
  have HZ1 : Hid (BlockAt ((w.alloc (.cells #[.int .i64 xi, .int .i64 xp, .int .i64 xf] 29)).alloc (.cells #[.int .i64 0, .int .i64 0, .int .i64 0] 29)) (w.heap.size + 1) 29 [.int .i64 0, .int .i64 0, .int .i64 0]) := Lib.hid (by
    have := BlockAt.new (w.alloc (.cells #[.int .i64 xi, .int .i64 xp, .int .i64 xf] 29)) 29 [.int .i64 0, .int .i64 0, .int .i64 0]
    rwa [e1] at this)
  have HST1 : Hid (QStep base S w ((w.alloc (.cells #[.int .i64 xi, .int .i64 xp, .int .i64 xf] 29)).alloc (.cells #[.int .i64 0, .int .i64 0, .int .i64 0] 29))) := Lib.hid (QStep.upd u1 HB.out (by simp) (fun k hk => HSL.out k (by simp [hk])))
  clear h ho hp hx u1 e1
  go_enter Try.func11, Try.ntmps11
  go_upto_region 1 with fail
  obtain ⟨W, hW⟩ : ∃ W, ((w.alloc (.cells #[.int .i64 xi, .int .i64 xp, .int .i64 xf] 29)).alloc (.cells #[.int .i64 0, .int .i64 0, .int .i64 0] 29)) = W := ⟨_, rfl⟩
  obtain ⟨X, hX⟩ : ∃ X, w.heap.size = X := ⟨_, rfl⟩
  obtain ⟨Z, hZ⟩ : ∃ Z, X + 1 = Z := ⟨_, rfl⟩
  have HXS : Hid (base ≤ X ∧ X ∉ S ∧ base ≤ Z ∧ Z ∉ S ∧ X ≠ Z) := Lib.hid ⟨by have := HB.out; omega, fun hh => by have := HSL.out X (by simp [hh]); omega, by have := HB.out; omega, fun hh => by have := HSL.out Z (by simp [hh]); omega, by omega⟩
  rw [hW, hX, hZ] at HG1 HZ1
  rw [hW, hX] at HX1
  rw [hW] at HST1
  rw [hW, hX, hZ]
  clear hW hX hZ HG
  have CU := Lib.hid (under_any base gb g _ W ⟨qb, lb, um, HG1.out⟩)
  have CL := Lib.hid (limit_any base gb g _ W ⟨qb, lb, um, HG1.out⟩)
  go_wp2_with fail
  refine CU.out.mono ?_
  rintro e w' ⟨rfl, rfl⟩
  go_wp2_with fail
  refine CL.out.mono ?_
  rintro e w' ⟨rfl, rfl⟩
  clear CU CL
  obtain ⟨c0, c1, c2⟩ := HG1.out.cells
  have x0 := HX1.out.cell 0 _ rfl
  have x1 := HX1.out.cell 1 _ rfl
  have x2 := HX1.out.cell 2 _ rfl
  by_cases hlt : (g.U.length : Int) < g.lim.lim
  · obtain ⟨w2, hst, hm2, hu2, -⟩ := MapU.store (w := W.drew) (HG1.out.set.keep (Upd.drew [] _) (by simp)) tMapBool tInt xi
    have hg2 := (HG1.out.next (Upd.drew [] W)).map hm2 hu2
    have HG2 := Lib.hid hg2
    have hz2 := (HZ1.out.drew).keep hu2 (by simp; exact fun e => HG1.out.ap.2.2 (by simp [e]))
    have HZ2 := Lib.hid hz2
    have HST2 : Hid (QStep base S w w2) := Lib.hid (HST1.out.trans (QStep.upd ((Upd.drew [um] W).trans hu2) HG1.out.q.base_le (by simp; exact ⟨HG1.out.low.2.2, fun hh => HG1.out.ap.2.2 (by simp [hh])⟩) (fun k hk => HG1.out.q.lt k (by simp [hk]))))
    have HE := Lib.hid (EnterIs.runs (g := g) (p := p) (x := ⟨xi, xp, xf⟩) hlt)
    have f0 := hz2.free 0
    have f1 := hz2.free 1
    have f2 := hz2.free 2
    have z0 := hz2.cell 0 _ rfl
    have z1 := hz2.cell 1 _ rfl
    have z2 := hz2.cell 2 _ rfl
    clear hm2 hu2 hg2 hz2
    go_wp2_with fail
    go_still_tail 6, (by kernel_rfl)
    change wpList _ _ _ _ _ W.drew
    go_wp2_with fail
    have hz3 : BlockAt (((w2.setCell ⟨Z, 0, none⟩ (.int .i64 0)).setCell ⟨Z, 1, none⟩ (.int .i64 0)).setCell ⟨Z, 2, none⟩ (.int .i64 0)) Z 29 [.int .i64 0, .int .i64 0, .int .i64 0] := ((HZ2.out.set 0 _).set 1 _).set 2 _
    have hu3 : Upd [Z] w2 (((w2.setCell ⟨Z, 0, none⟩ (.int .i64 0)).setCell ⟨Z, 1, none⟩ (.int .i64 0)).setCell ⟨Z, 2, none⟩ (.int .i64 0)) := ((Upd.setCell' _ _ _ (by simp)).trans (Upd.setCell' _ _ _ (by simp))).trans (Upd.setCell' _ _ _ (by simp))
    have hg3 := (HG2.out.write hu3 (by simp)).sub (T := S) (by simp +contextual)
    have hst3 := HST2.out.trans (QStep.upd hu3 HG2.out.q.base_le (by simp; exact ⟨HXS.out.2.2.1, HXS.out.2.2.2.1⟩) (fun k hk => HG2.out.q.lt k (by simp [hk])))
    obtain ⟨W3, hW3⟩ : ∃ W, (((w2.setCell ⟨Z, 0, none⟩ (.int .i64 0)).setCell ⟨Z, 1, none⟩ (.int .i64 0)).setCell ⟨Z, 2, none⟩ (.int .i64 0)) = W := ⟨_, rfl⟩
    rw [hW3] at hz3 hg3 hst3 ⊢
    have q0 := hz3.cell 0 _ rfl
    have q1 := hz3.cell 1 _ rfl
    have q2 := hz3.cell 2 _ rfl
    refine bodyPost_ret (v := .tuple #[.int .i64 1, zeroIt.val, .bool false]) (by simp [results, Try.results11, go_sem, q0, q1, q2, zeroIt, It.val]) rfl ?_
    exact ⟨1, zeroIt, false, _, HE.out, rfl, ⟨qb, lb, um, hg3⟩, hst3⟩
  · have hle : g.lim.lim ≤ g.U.length := by omega
    have HLE := Lib.hid hle
    have CP := Lib.hid (put_qs base qb g.most g.n g.r (gb :: lb :: um :: Z :: X :: S) p ⟨xi, xp, xf⟩ W.drew (HG1.out.next (Upd.drew [] W)).q HPX.out.1 HPX.out.2 HO.out.n0 (by have := HO.out.n1; omega) (fun q hq => by have := HO.out.len q hq; omega) (by have := HO.out.m1; omega) (by have := HO.out.m0; omega))
    unfold It.val at CP
    dsimp only at CP
    clear hle c1 c2
    go_upto_region 4 with fail
    go_cut [6] (fun iv wx => ∃ (r' : Nat → Row) (n' : Int) (y : It) (is : Bool), iv = .bool is ∧ Hid (PutIs g.most g.n g.r p ⟨xi, xp, xf⟩ r' n' y is) ∧ Hid (GateIs base wx gb qb lb um ⟨g.most, n', r', g.lim, g.U⟩ (Z :: X :: S)) ∧ Hid (BlockAt wx Z 29 [.int .i64 y.id, .int .i64 y.prio, .int .i64 y.flow]) ∧ Hid (BlockAt wx X 29 [.int .i64 xi, .int .i64 xp, .int .i64 xf]) ∧ Hid (QStep base S w wx))
    case first =>
      go_region_with (go_at_call 12; refine CP.out.mono ?_; rintro e w5 ⟨r', n', y, is, hput, rfl, hq5, hst5⟩; obtain ⟨yi, yp, yf⟩ := y; unfold It.val; dsimp only; have HPUT := Lib.hid hput; have HQ5 := Lib.hid hq5; have HS5 := Lib.hid hst5; have hz5 := hst5.block (by simp) HZ1.out.drew; have f0 := hz5.free 0; have f1 := hz5.free 1; have f2 := hz5.free 2; have z0 := hz5.cell 0 _ rfl; have z1 := hz5.cell 1 _ rfl; have z2 := hz5.cell 2 _ rfl; have HZ5 := Lib.hid hz5; clear hput hq5 hst5 hz5)
      all_goals
        have hu6 : Upd [Z] w5 (((w5.setCell ⟨Z, 0, none⟩ (.int .i64 yi)).setCell ⟨Z, 1, none⟩ (.int .i64 yp)).setCell ⟨Z, 2, none⟩ (.int .i64 yf)) := ((Upd.setCell' _ _ _ (by simp)).trans (Upd.setCell' _ _ _ (by simp))).trans (Upd.setCell' _ _ _ (by simp))
        have hg5 : GateIs base w5 gb qb lb um ⟨g.most, n', r', g.lim, g.U⟩ (Z :: X :: S) := (HG1.out.next (Upd.drew [] W)).queue HQ5.out HS5.out
        have HG6 := Lib.hid (hg5.write hu6 (by simp))
        have HZ6 : Hid (BlockAt (((w5.setCell ⟨Z, 0, none⟩ (.int .i64 yi)).setCell ⟨Z, 1, none⟩ (.int .i64 yp)).setCell ⟨Z, 2, none⟩ (.int .i64 yf)) Z 29 [.int .i64 yi, .int .i64 yp, .int .i64 yf]) := Lib.hid (((HZ5.out.set 0 _).set 1 _).set 2 _)
        have HX6 := Lib.hid ((HS5.out.block (by simp) HX1.out.drew).keep hu6 (by simp; exact HXS.out.2.2.2.2))
        have HST6 := Lib.hid (((HST1.out.trans (QStep.upd (Upd.drew [] W) HG1.out.q.base_le (by simp) (fun k hk => HG1.out.q.lt k (by simp [hk])))).trans (HS5.out.sub (by simp +contextual))).trans (QStep.upd hu6 hg5.q.base_le (by simp; exact ⟨HXS.out.2.2.1, HXS.out.2.2.2.1⟩) (fun k hk => hg5.q.lt k (by simp [hk]))))
        clear hu6 hg5
      all_goals go_wp2_with fail
      all_goals
        go_meet
        exact ⟨r', n', ⟨yi, yp, yf⟩, is, rfl, HPUT, HG6, HZ6, HX6, HST6⟩
    case rest =>
      obtain ⟨r', n', y, is, rfl, HPUT, HG2, HZ2, HX2, HST2⟩ := hcut
      clear HG1 HZ1 HX1 HST1 CP x0 x1 x2 c0
      obtain ⟨yi, yp, yf⟩ := y
      dsimp only at HZ2
      have f0 := HZ2.out.free 0
      have f1 := HZ2.out.free 1
      have f2 := HZ2.out.free 2
      have z0 := HZ2.out.cell 0 _ rfl
      have z1 := HZ2.out.cell 1 _ rfl
      have z2 := HZ2.out.cell 2 _ rfl
      have x0 := HX2.out.cell 0 _ rfl
      have HFIN : Hid (∀ W', Upd [Z] wc W' → GateAt base W' gb ⟨g.most, n', r', g.lim, g.U⟩ S ∧ QStep base S w W') := Lib.hid (fun W' hu => ⟨⟨qb, lb, um, (HG2.out.write hu (by simp)).sub (by simp +contextual)⟩, HST2.out.trans (QStep.upd hu HG2.out.q.base_le (by simp; exact ⟨HXS.out.2.2.1, HXS.out.2.2.2.1⟩) (fun k hk => HG2.out.q.lt k (by simp [hk])))⟩)
      cases is with
      | false =>
        have HE := Lib.hid (EnterIs.waits (g := g) (p := p) (x := ⟨xi, xp, xf⟩) r' n' _ HLE.out HPUT.out)
        go_wp2_with fail
        have hz3 : BlockAt (((wc.setCell ⟨Z, 0, none⟩ (.int .i64 0)).setCell ⟨Z, 1, none⟩ (.int .i64 0)).setCell ⟨Z, 2, none⟩ (.int .i64 0)) Z 29 [.int .i64 0, .int .i64 0, .int .i64 0] := ((HZ2.out.set 0 _).set 1 _).set 2 _
        have hu3 : Upd [Z] wc (((wc.setCell ⟨Z, 0, none⟩ (.int .i64 0)).setCell ⟨Z, 1, none⟩ (.int .i64 0)).setCell ⟨Z, 2, none⟩ (.int .i64 0)) := ((Upd.setCell' _ _ _ (by simp)).trans (Upd.setCell' _ _ _ (by simp))).trans (Upd.setCell' _ _ _ (by simp))
        have hf := HFIN.out _ hu3
        obtain ⟨W3, hW3⟩ : ∃ W, (((wc.setCell ⟨Z, 0, none⟩ (.int .i64 0)).setCell ⟨Z, 1, none⟩ (.int .i64 0)).setCell ⟨Z, 2, none⟩ (.int .i64 0)) = W := ⟨_, rfl⟩
        rw [hW3] at hz3 hf ⊢
        have q0 := hz3.cell 0 _ rfl
        have q1 := hz3.cell 1 _ rfl
        have q2 := hz3.cell 2 _ rfl
        refine bodyPost_ret (v := .tuple #[.int .i64 2, zeroIt.val, .bool false]) (by simp [results, Try.results11, go_sem, q0, q1, q2, zeroIt, It.val]) rfl ?_
        exact ⟨2, zeroIt, false, _, HE.out, rfl, hf.1, hf.2⟩
      | true =>
        by_cases hid : yi = xi
        · have HE := Lib.hid (EnterIs.shed (g := g) (p := p) (x := ⟨xi, xp, xf⟩) r' n' _ HLE.out HPUT.out hid)
          subst hid
          go_wp2_with fail
          have hz3 : BlockAt (((wc.setCell ⟨Z, 0, none⟩ (.int .i64 0)).setCell ⟨Z, 1, none⟩ (.int .i64 0)).setCell ⟨Z, 2, none⟩ (.int .i64 0)) Z 29 [.int .i64 0, .int .i64 0, .int .i64 0] := ((HZ2.out.set 0 _).set 1 _).set 2 _
          have hu3 : Upd [Z] wc (((wc.setCell ⟨Z, 0, none⟩ (.int .i64 0)).setCell ⟨Z, 1, none⟩ (.int .i64 0)).setCell ⟨Z, 2, none⟩ (.int .i64 0)) := ((Upd.setCell' _ _ _ (by simp)).trans (Upd.setCell' _ _ _ (by simp))).trans (Upd.setCell' _ _ _ (by simp))
          have hf := HFIN.out _ hu3
          obtain ⟨W3, hW3⟩ : ∃ W, (((wc.setCell ⟨Z, 0, none⟩ (.int .i64 0)).setCell ⟨Z, 1, none⟩ (.int .i64 0)).setCell ⟨Z, 2, none⟩ (.int .i64 0)) = W := ⟨_, rfl⟩
          rw [hW3] at hz3 hf ⊢
          have q0 := hz3.cell 0 _ rfl
          have q1 := hz3.cell 1 _ rfl
          have q2 := hz3.cell 2 _ rfl
          refine bodyPost_ret (v := .tuple #[.int .i64 3, zeroIt.val, .bool false]) (by simp [results, Try.results11, go_sem, q0, q1, q2, zeroIt, It.val]) rfl ?_
          exact ⟨3, zeroIt, false, _, HE.out, rfl, hf.1, hf.2⟩
        · have HE := Lib.hid (EnterIs.other (g := g) (p := p) (x := ⟨xi, xp, xf⟩) r' n' _ HLE.out HPUT.out hid)
          have hd : (yi == xi) = false := by simpa using hid
          clear hid
          go_wp2_with fail
          go_region
          all_goals
            have hu3 : Upd [Z] wc ((((wc.setCell ⟨Z, 0, none⟩ (.int .i64 yi)).setCell ⟨Z, 1, none⟩ (.int .i64 yp)).setCell ⟨Z, 2, none⟩ (.int .i64 yf)).drew) := (((Upd.setCell' _ _ _ (by simp)).trans (Upd.setCell' _ _ _ (by simp))).trans (Upd.setCell' _ _ _ (by simp))).trans (Upd.drew [Z] _)
            have hz3 : BlockAt ((((wc.setCell ⟨Z, 0, none⟩ (.int .i64 yi)).setCell ⟨Z, 1, none⟩ (.int .i64 yp)).setCell ⟨Z, 2, none⟩ (.int .i64 yf)).drew) Z 29 [.int .i64 yi, .int .i64 yp, .int .i64 yf] := (((HZ2.out.set 0 _).set 1 _).set 2 _).drew
            have hf := HFIN.out _ hu3
          all_goals go_wp2_with fail
          all_goals
            obtain ⟨W3, hW3⟩ : ∃ W, ((((wc.setCell ⟨Z, 0, none⟩ (.int .i64 yi)).setCell ⟨Z, 1, none⟩ (.int .i64 yp)).setCell ⟨Z, 2, none⟩ (.int .i64 yf)).drew) = W := ⟨_, rfl⟩
            rw [hW3] at hz3 hf ⊢
            have q0 := hz3.cell 0 _ rfl
            have q1 := hz3.cell 1 _ rfl
            have q2 := hz3.cell 2 _ rfl
            refine bodyPost_ret (v := .tuple #[.int .i64 2, .agg #[.int .i64 yi, .int .i64 yp, .int .i64 yf], .bool true]) (by simp [results, Try.results11, go_sem, q0, q1, q2]) rfl ?_
            exact ⟨2, ⟨yi, yp, yf⟩, true, _, HE.out, rfl, hf.1, hf.2⟩
end Go.Proofs.Ytklbnldkfohkpaa
