/- Layer 22: the fullest flow of a row. -/
import Derived.Test.YtapoikegoknlcaaFairI
import Derived.Outline
import Derived.Deep.DeepCutAuto
import Derived.RegionTactic
import Derived.StillTailTactics
namespace Go.Proofs.Ytapoikegoknlcaa
open Go.RowKit
def MapIs (es : List MapEntry) (c : Int → Int) : Prop := IntKeys es ∧ ∀ k, (getE es k).getD (.int .i64 0) = .int .i64 (c k)
def MapOf (w : World) (m : Nat) (c : Int → Int) : Prop := ∃ es clock, MapAt w m es clock ∧ MapIs es c
theorem MapOf.keep {S : List Nat} {w w' : World} {m : Nat} {c : Int → Int} (h : MapOf w m c) (u : Upd S w w') (hm : m ∉ S) : MapOf w' m c := by
  obtain ⟨es, clock, h2, h3⟩ := h
  exact ⟨es, clock, h2.keep u hm, h3⟩
theorem MapOf.lt {w : World} {m : Nat} {c : Int → Int} (h : MapOf w m c) : m < w.heap.size := by
  obtain ⟨es, clock, h2, -⟩ := h
  exact h2.lt
theorem tMapInt : Try.prog.underlying 74 = some (.map 3 3) := by kernel_rfl
theorem tInt : Try.prog.underlying 3 = some (.int .i64) := by kernel_rfl
theorem zeroInt (w : World) : (zeroValue 3).run Try.prog w = .ok (.int .i64 0) w := by kernel_rfl
theorem MapOf.look {w : World} {m : Nat} {c : Int → Int} (h : MapOf w m c) (k : Int) :
    (Instr.lookup 74 (.map (some m)) (.int .i64 k) false).run Try.prog w = .ok (.int .i64 (c k)) w := by
  obtain ⟨es, clock, hm, hi⟩ := h
  rw [map_look tMapInt tInt hm hi.1 (zeroInt w) k, hi.2 k]
def setAt (c : Int → Int) (k v : Int) : Int → Int := fun j => if j = k then v else c j
theorem MapOf.store {w : World} {m : Nat} {c : Int → Int} (h : MapOf w m c) (k v : Int) :
    ∃ w', (Instr.mapUpdate 74 (.map (some m)) (.int .i64 k) (.int .i64 v)).run Try.prog w = .ok () w' ∧ MapOf w' m (setAt c k v) ∧ Upd [m] w w' := by
  obtain ⟨es, clock, hm, hi⟩ := h
  obtain ⟨w', es', c', h1, h2, h3, h4, h5, h6⟩ := map_store tMapInt tInt hm hi.1 k (.int .i64 v)
  refine ⟨w', h1, ⟨es', c', h2, h3, fun j => ?_⟩, h5⟩
  rw [h4]
  unfold setAt
  split
  · rfl
  · exact hi.2 j
/-- How many items of a flow. -/
def cntZ (l : List It) (f : Int) : Int := ((l.filter (fun x => decide (x.flow = f))).length : Int)
theorem cntZ_app (l m : List It) (f : Int) : cntZ (l ++ m) f = cntZ l f + cntZ m f := by simp [cntZ, List.filter_append]
theorem cntZ_one (x : It) (f : Int) : cntZ [x] f = if x.flow = f then 1 else 0 := by
  by_cases h : x.flow = f <;> simp [cntZ, h]
theorem cntZ_nonneg (l : List It) (f : Int) : 0 ≤ cntZ l f := by unfold cntZ; omega
theorem cntZ_le (l : List It) (f : Int) : cntZ l f ≤ l.length := by
  have := List.length_filter_le (fun x : It => decide (x.flow = f)) l
  unfold cntZ; omega
theorem take_next {l : List It} {j : Nat} {x : It} (h : l[j]? = some x) : l.take (j + 1) = l.take j ++ [x] := by
  obtain ⟨hj, rfl⟩ := List.getElem?_eq_some_iff.1 h
  rw [List.take_succ_eq_append_getElem hj]
theorem cntZ_next {l : List It} {j : Nat} {x : It} (h : l[j]? = some x) : cntZ (l.take (j + 1)) = setAt (cntZ (l.take j)) x.flow (cntZ (l.take j) x.flow + 1) := by
  funext f
  rw [take_next h, cntZ_app, cntZ_one]
  unfold setAt
  by_cases e : f = x.flow
  · subst e; simp
  · rw [if_neg e, if_neg (fun hh => e hh.symm)]; omega
/-- The fullest flow of a row: of those that have as many the greatest. -/
structure FullOk (l : List It) (f : Int) : Prop where
  is : ∃ (k : Nat) (x : It), l[k]? = some x ∧ x.flow = f
  most : ∀ (k : Nat) (x : It), l[k]? = some x → cntZ l x.flow < cntZ l f ∨ (cntZ l x.flow = cntZ l f ∧ x.flow ≤ f)
/-- On the way. -/
structure Fx (l : List It) (j : Nat) (f : Int) : Prop where
  is : ∃ (k : Nat) (x : It), l[k]? = some x ∧ x.flow = f
  most : ∀ (k : Nat) (x : It), k < j → l[k]? = some x → cntZ l x.flow < cntZ l f ∨ (cntZ l x.flow = cntZ l f ∧ x.flow ≤ f)
theorem Fx.done {l : List It} {f : Int} (h : Fx l l.length f) : FullOk l f := ⟨h.is, fun k x hx => h.most k x (List.getElem?_eq_some_iff.1 hx).1 hx⟩
theorem Fx.stay {l : List It} {j : Nat} {f : Int} {x : It} (h : Fx l j f) (hx : l[j]? = some x) (hn : cntZ l x.flow < cntZ l f ∨ (cntZ l x.flow = cntZ l f ∧ x.flow ≤ f)) : Fx l (j + 1) f :=
  ⟨h.is, fun k y hk hy => by
    rcases (show k < j ∨ k = j by omega) with hk | rfl
    · exact h.most k y hk hy
    · rw [hx] at hy; cases hy; exact hn⟩
theorem Fx.turn {l : List It} {j : Nat} {f : Int} {x : It} (h : Fx l j f) (hx : l[j]? = some x) (hn : cntZ l f < cntZ l x.flow ∨ (cntZ l x.flow = cntZ l f ∧ f < x.flow)) : Fx l (j + 1) x.flow :=
  ⟨⟨j, x, hx, rfl⟩, fun k y hk hy => by
    rcases (show k < j ∨ k = j by omega) with hk | rfl
    · have := h.most k y hk hy; omega
    · rw [hx] at hy; cases hy; omega⟩
def FullPost (l : List It) (w : World) (e : Ending) (w' : World) : Prop := (∃ f : Int, e = .returned (.int .i64 f) ∧ FullOk l f) ∧ Below w.heap.size w w'
set_option maxRecDepth 100000 in
set_option maxHeartbeats 2000000 in
theorem fullest_any (b o g cap : Nat) (l : List It) (w : World) (hi : ItemsIn w g l) (h0 : 0 < l.length) (hl : (l.length : Int) ≤ 1000000)
    (k0 : w.cell? ⟨b, o, none⟩ = some (.slice (some ⟨g, 0, none⟩) l.length cap)) :
    Calls Try.prog 36 #[.pointer (some ⟨b, o, none⟩)] w (FullPost l w) := by
  have hmm := @run_makeMap Try.prog
  have HI := Lib.hid hi
  have hbw := World.block_lt_of_cell? w _ k0
  obtain ⟨n, hn⟩ : ∃ n, l.length = n := ⟨_, rfl⟩
  have HN := Lib.hid hn
  rw [hn] at h0 hl k0
  have HK := Lib.hid k0
  have H0 := Lib.hid h0
  clear hi hn h0
  go_enter Try.func36, Try.ntmps36
  have eb : w.heap.size ≠ b := Nat.ne_of_gt hbw
  go_wp2_with fail
  have HM0 : Hid (MapOf (w.alloc (.map #[] 0)) w.heap.size (cntZ (l.take 0))) := Lib.hid ⟨[], 0, MapAt.new w, (show MapIs [] _ from ⟨(by intro e he; cases he), fun k => by simp [getE, cntZ]⟩)⟩
  have HB0 : Hid (Below w.heap.size w (w.alloc (.map #[] 0))) := Lib.hid ((Below.refl _ _).alloc (Nat.le_refl _) _)
  obtain ⟨M, hM⟩ : ∃ M, w.heap.size = M := ⟨_, rfl⟩
  have HMW := Lib.hid hM
  rw [hM] at HM0 ⊢
  obtain ⟨W1, hW1⟩ : ∃ W, w.alloc (.map #[] 0) = W := ⟨_, rfl⟩
  rw [hW1] at HM0 HB0 ⊢
  clear hM hW1 eb hmm
  go_loopw [15] (fun i wr => ∃ j : Nat, (j : Int) ≤ n ∧ i = .int .i64 j ∧ Hid (MapOf wr M (cntZ (l.take j))) ∧ Hid (Below w.heap.size w wr)) (fun i _ => n - (intOf i).toNat)
  case atStart => exact ⟨0, by omega, rfl, HM0, HB0⟩
  case round =>
    obtain ⟨j, hj, rfl, HM, HB⟩ := hrel
    clear HM0 HB0 k0
    by_cases hlt : (j : Int) < n
    · obtain ⟨x, hx⟩ : ∃ x, l[j]? = some x := ⟨l[j]'(by rw [HN.out]; omega), by simp⟩
      obtain ⟨c0, c1, c2⟩ := (HI.out.keep (Upd.ofBelow HB.out) (by simp)) j x hx
      obtain ⟨xi, xp, xf⟩ := x
      dsimp only at c0 c1 c2
      have j0 : (0 : Int) ≤ j := by omega
      have HMa : Hid (MapOf (wr.alloc (.cells #[.int .i64 xi, .int .i64 xp, .int .i64 xf] 27)) M (cntZ (l.take j))) := Lib.hid (HM.out.keep (Upd.alloc [] _ _) (by simp))
      have hlk := HMa.out.look xf
      obtain ⟨w2, hst, hm2, hu2⟩ := HMa.out.store xf (cntZ (l.take j) xf + 1)
      have HM2 : Hid (MapOf w2 M (cntZ (l.take (j + 1)))) := Lib.hid (by rw [cntZ_next hx]; exact hm2)
      have HB2 : Hid (Below w.heap.size w w2) := Lib.hid ((HB.out.alloc HB.out.size _).trans (hu2.below (by have := HB.out.size; simp; omega) (by simp; have := HMW.out; omega)))
      have q0 := cntZ_nonneg (l.take j) xf
      have q1 : cntZ (l.take j) xf ≤ 1000000 := by have := cntZ_le (l.take j) xf; rw [List.length_take] at this; omega
      obtain ⟨q, hq⟩ : ∃ q, cntZ (l.take j) xf = q := ⟨_, rfl⟩
      rw [hq] at hlk hst q0 q1
      clear hx hm2 hu2 hq HMa HM HB
      go_wp2_with fail
      go_roundw
      case rel => exact ⟨j + 1, by omega, by go_num, HM2, HB2⟩
      case measure => simp [intOf] <;> omega
    · obtain rfl : j = n := by omega
      have hmz : l.take j = l := by rw [← HN.out]; simp
      have HM1 : Hid (MapOf wr M (cntZ l)) := Lib.hid (by rw [← hmz]; exact HM.out)
      have k0 := (Upd.ofBelow HB.out).cell HK.out (by simp)
      obtain ⟨x0, hx0⟩ : ∃ x, l[0]? = some x := ⟨l[0]'(by have := HN.out; have := H0.out; omega), by simp⟩
      obtain ⟨-, -, c2⟩ := (HI.out.keep (Upd.ofBelow HB.out) (by simp)) 0 x0 hx0
      have HST : Hid (Fx l 0 x0.flow) := Lib.hid ⟨⟨0, x0, hx0, rfl⟩, fun k x hk => by omega⟩
      obtain ⟨F0, hF0⟩ : ∃ f, x0.flow = f := ⟨_, rfl⟩
      rw [hF0] at HST c2
      have hn0 := H0.out
      clear hmz HM hx0 hF0
      go_wp2_with fail
      go_loopw [6, 37] (fun B i wx => ∃ (F : Int) (j' : Nat), (j' : Int) ≤ j ∧ B = .int .i64 F ∧ i = .int .i64 j' ∧ Hid (Fx l j' F) ∧ Hid (MapOf wx M (cntZ l)) ∧ Hid (Below w.heap.size w wx)) (fun _ i _ => j - (intOf i).toNat)
      case atStart => exact ⟨F0, 0, by omega, rfl, rfl, HST, HM1, HB⟩
      case round =>
        obtain ⟨F, i, hi, rfl, rfl, HX, HM, HB⟩ := hrel
        clear HST HM1
        by_cases hlt : (i : Int) < j
        · obtain ⟨x, hx⟩ : ∃ x, l[i]? = some x := ⟨l[i]'(by rw [HN.out]; omega), by simp⟩
          obtain ⟨c0, c1, c2⟩ := (HI.out.keep (Upd.ofBelow HB.out) (by simp)) i x hx
          have HXX := Lib.hid hx
          obtain ⟨xi, xp, xf⟩ := x
          dsimp only at c0 c1 c2
          have i0 : (0 : Int) ≤ i := by omega
          have HXA : Hid (BlockAt (wr.alloc (.cells #[.int .i64 xi, .int .i64 xp, .int .i64 xf] 27)) wr.heap.size 27 [.int .i64 xi, .int .i64 xp, .int .i64 xf]) := Lib.hid (BlockAt.new _ _ _)
          have HMA : Hid (MapOf (wr.alloc (.cells #[.int .i64 xi, .int .i64 xp, .int .i64 xf] 27)) M (cntZ l)) := Lib.hid (HM.out.keep (Upd.alloc [] _ _) (by simp))
          have HBA : Hid (Below w.heap.size w (wr.alloc (.cells #[.int .i64 xi, .int .i64 xp, .int .i64 xf] 27))) := Lib.hid (HB.out.alloc HB.out.size _)
          clear hx
          go_wp2_with fail
          obtain ⟨W, hW⟩ : ∃ W, wr.alloc (.cells #[.int .i64 xi, .int .i64 xp, .int .i64 xf] 27) = W := ⟨_, rfl⟩
          obtain ⟨X, hX⟩ : ∃ X, wr.heap.size = X := ⟨_, rfl⟩
          rw [hW, hX] at HXA
          rw [hW] at HMA HBA
          rw [hW, hX]
          clear hW hX HM HB c0 c1 c2
          go_cut [55] (fun s wx => s = .bool (decide (cntZ l F < cntZ l xf ∨ (cntZ l xf = cntZ l F ∧ F < xf))) ∧ Hid (BlockAt wx X 27 [.int .i64 xi, .int .i64 xp, .int .i64 xf]) ∧ Hid (MapOf wx M (cntZ l)) ∧ Hid (Below w.heap.size w wx))
          case first =>
            have c2 := HXA.out.cell 2 _ rfl
            have hl1 : ∀ m, (Instr.lookup 74 (.map (some M)) (.int .i64 xf) false).run Try.prog (W.drewN m) = .ok (.int .i64 (cntZ l xf)) (W.drewN m) := fun m => (HMA.out.keep (Upd.drewN [] W m) (by simp)).look xf
            have hl2 : ∀ m, (Instr.lookup 74 (.map (some M)) (.int .i64 F) false).run Try.prog (W.drewN m) = .ok (.int .i64 (cntZ l F)) (W.drewN m) := fun m => (HMA.out.keep (Upd.drewN [] W m) (by simp)).look F
            have hl3 : (Instr.lookup 74 (.map (some M)) (.int .i64 xf) false).run Try.prog W.drew = .ok (.int .i64 (cntZ l xf)) W.drew := hl1 1
            have hl4 : (Instr.lookup 74 (.map (some M)) (.int .i64 F) false).run Try.prog W.drew = .ok (.int .i64 (cntZ l F)) W.drew := hl2 1
            obtain ⟨p, hp⟩ : ∃ p, cntZ l xf = p := ⟨_, rfl⟩
            obtain ⟨q, hq⟩ : ∃ p, cntZ l F = p := ⟨_, rfl⟩
            rw [hp] at hl1 hl3
            rw [hq] at hl2 hl4
            have HPQ := Lib.hid (And.intro hp hq)
            clear hp hq
            have b0 : ∀ A B : Int, (W.alloc (.cells #[.int .i64 A, .int .i64 B] 3)).drew.cell? ⟨W.heap.size, 0, none⟩ = some (.int .i64 A) := fun A B => (BlockAt.new W 3 [.int .i64 A, .int .i64 B]).drew.cell 0 _ rfl
            have b1 : ∀ A B : Int, (W.alloc (.cells #[.int .i64 A, .int .i64 B] 3)).drew.cell? ⟨W.heap.size, 1, none⟩ = some (.int .i64 B) := fun A B => (BlockAt.new W 3 [.int .i64 A, .int .i64 B]).drew.cell 1 _ rfl
            refine wp_region_still_tail 12 (by kernel_rfl) (by kernel_rfl) ?_
            simp only [List.take_succ_cons, List.take_zero, List.drop_succ_cons, List.drop_zero]
            repeat still_step
            still_call (compare_any _ _ _)
            repeat still_step
            still_call (compare_any _ _ _)
            refine wpStill_nil ?_
            change wpList _ _ _ _ _ W.drew
            go_wp2_with fail
            refine (or_any _ _ (cmpI p q) (cmpI xf F) _ (b0 _ _) (b1 _ _)).mono ?_
            rintro e w' ⟨rfl, rfl⟩
            go_wp2_with fail
            go_meet
            refine ⟨?_, Lib.hid (HXA.out.keep ((Upd.alloc [] _ _).trans (Upd.drew _ _)) (by simp)), Lib.hid (HMA.out.keep ((Upd.alloc [] _ _).trans (Upd.drew _ _)) (by simp)), Lib.hid (HBA.out.trans (((Upd.alloc [] _ _).trans (Upd.drew _ _)).below HBA.out.size (by simp)))⟩
            rw [or_cmp, HPQ.out.1, HPQ.out.2]
          case rest =>
            obtain ⟨rfl, HXB, HMB, HBB⟩ := hcut
            clear HXA HMA HBA
            have c2 := HXB.out.cell 2 _ rfl
            by_cases ht : cntZ l F < cntZ l xf ∨ (cntZ l xf = cntZ l F ∧ F < xf)
            · have HXT := Lib.hid (HX.out.turn HXX.out ht)
              have hd : decide (cntZ l F < cntZ l xf ∨ (cntZ l xf = cntZ l F ∧ F < xf)) = true := by simp [ht]
              rw [hd]
              clear ht hd
              go_wp2_with fail
              go_roundw
              case rel => exact ⟨xf, i + 1, by omega, rfl, by go_num, HXT, HMB, HBB⟩
              case measure => simp [intOf] <;> omega
            · have HXT := Lib.hid (HX.out.stay HXX.out (by dsimp only; omega))
              have hd : decide (cntZ l F < cntZ l xf ∨ (cntZ l xf = cntZ l F ∧ F < xf)) = false := by simp only [ht, decide_false]
              rw [hd]
              clear ht hd
              go_wp2_with fail
              go_roundw
              case rel => exact ⟨F, i + 1, by omega, rfl, by go_num, HXT, HMB, HBB⟩
              case measure => simp [intOf] <;> omega
        · have hij : i = l.length := by rw [HN.out]; omega
          have HF : Hid (FullOk l F) := Lib.hid (Fx.done (by rw [← hij]; exact HX.out))
          clear hij
          go_wp2_with fail
          go_ret
          exact ⟨⟨F, rfl, HF.out⟩, HB.out⟩
end Go.Proofs.Ytapoikegoknlcaa
