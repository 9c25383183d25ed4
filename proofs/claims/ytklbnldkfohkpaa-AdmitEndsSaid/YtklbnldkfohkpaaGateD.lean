/- Layer 23: the walks of next, Done, Gone. -/
import Derived.Test.YtklbnldkfohkpaaGateC
namespace Go.Proofs.Ytklbnldkfohkpaa
open Go.RowKit
set_option maxRecDepth 100000 in
set_option maxHeartbeats 4000000 in
theorem next_any23 (base gb : Nat) (g : Gt) (S : List Nat) (w : World) (h : GateAt base w gb g S) (ho : g.Ok) :
    Calls Try.prog 36 #[.pointer (some ⟨gb, 0, none⟩)] w (GNextPost base gb g S w) := by
  have HSL : Hid (∀ k ∈ S, k < w.heap.size) := Lib.hid (by
    obtain ⟨qb, lb, um, h⟩ := h
    exact fun k hk => h.q.lt k (by simp [hk]))
  have HB : Hid (base ≤ w.heap.size) := Lib.hid (by
    obtain ⟨qb, lb, um, h⟩ := h
    exact h.q.base_le)
  have HG0 : Hid (GateAt base w gb g ((Value.slice none 0 0).ownBlock.toList ++ S)) := Lib.hid (by simpa [Value.ownBlock] using h)
  have HR0 : Hid (∀ (ids2 : List Int) (g' : Gt), NextRun g ids2 g' → NextRun g ([] ++ ids2) g') := Lib.hid (fun ids2 g' hh => by simpa using hh)
  have HI0 : Hid (OwnInts w.heap.size w (.slice none 0 0) []) := Lib.hid (OwnInts.nil _ _)
  have HST0 : Hid (QStep base S w w) := Lib.hid (QStep.refl _ _ _)
  have HO0 := Lib.hid ho
  obtain ⟨N, hN⟩ : ∃ N : Nat, g.n = (N : Int) := ⟨g.n.toNat, by have := ho.n0; omega⟩
  have HN := Lib.hid hN
  have hN1 : N ≤ 1000 := by have := ho.n1; omega
  clear h ho hN
  go_enter Try.func36, Try.ntmps36
  go_wp2_with fail
  go_loopw [3] (fun v wr => ∃ (ids : List Int) (g1 : Gt) (ao : Option Addr) (m cap : Nat), v = .slice ao m cap ∧ m = ids.length ∧ g1.n + (m : Int) = (N : Int) ∧ Hid (∀ (ids2 : List Int) (g' : Gt), NextRun g1 ids2 g' → NextRun g (ids ++ ids2) g') ∧ Hid (OwnInts w.heap.size wr v ids) ∧ Hid (GateAt base wr gb g1 (v.ownBlock.toList ++ S)) ∧ Hid (QStep base S w wr) ∧ Hid g1.Ok) (fun v _ => N - lenOf v)
  case atStart => exact ⟨[], g, none, 0, 0, rfl, rfl, by have := HN.out; omega, HR0, HI0, HG0, HST0, HO0⟩
  case round =>
    obtain ⟨ids, g1, ao, m, cap, rfl, hm, hn, HR, HI, HG, HST, HO⟩ := hrel
    have HM := Lib.hid hm
    clear HR0 HI0 HG0 HST0 HO0 hm
    have CU := Lib.hid (under_any base gb g1 _ wr HG.out)
    have CL := Lib.hid (limit_any base gb g1 _ wr HG.out)
    go_wp2_with fail
    refine CU.out.mono ?_
    rintro e w' ⟨rfl, rfl⟩
    go_wp2_with fail
    refine CL.out.mono ?_
    rintro e w' ⟨rfl, rfl⟩
    clear CU CL
    by_cases hlt : (g1.U.length : Int) < g1.lim.lim
    · obtain ⟨qb, lb, um, hg⟩ := HG.out
      have HGI := Lib.hid hg
      obtain ⟨c0, c1, c2⟩ := hg.cells
      have CT := Lib.hid (take_qs base qb g1.most g1.n g1.r _ wr hg.q HO.out.n0 (by have := HO.out.n1; omega) (fun q hq => by have := HO.out.len q hq; omega) (fun q hq hne => HO.out.ne q hq hne))
      have HLT := Lib.hid hlt
      clear hg HG
      go_wp2_with fail
      refine CT.out.mono ?_
      rintro e w2 ⟨r', x, is, ht, rfl, hq2, hst2⟩
      have hg2 := HGI.out.queue hq2 hst2
      have HST2 := Lib.hid (HST.out.trans (hst2.sub (T := S) (by simp +contextual)))
      have HI2 : Hid (OwnInts w.heap.size w2 (.slice ao m cap) ids) := Lib.hid (by
        have hI := HI.out
        refine ⟨hI.1, ?_⟩
        rcases hI.2 with hh | ⟨gg, cc, cur, hv, hb, hgg, rest⟩
        · exact .inl hh
        · refine .inr ⟨gg, cc, cur, hv, hb, ?_, rest⟩
          rw [hst2.same gg (by rw [hv]; simp [Value.ownBlock])]; exact hgg)
      have HT := Lib.hid ht
      cases is with
      | false =>
        have HG2 : Hid (GateIs base w2 gb qb lb um ⟨g1.most, g1.n, r', g1.lim, g1.U⟩ ((Value.slice ao m cap).ownBlock.toList ++ S)) := Lib.hid (by simpa using hg2)
        have HRUN := Lib.hid (HR.out [] _ (NextRun.none g1 r' x HLT.out HT.out))
        obtain ⟨xi, xp, xf⟩ := x
        unfold It.val
        dsimp only
        clear ht hq2 hst2 hg2 CT c0 c1 c2
        go_wp2_with fail
        go_ret
        refine ⟨ids, _, _, by simpa using HRUN.out, rfl, ?_, ⟨qb, lb, um, HG2.out.next (Upd.alloc [] _ _)⟩, HST2.out.trans (QStep.upd (Upd.alloc [] _ _) HG2.out.q.base_le (by simp) (fun k hk => HG2.out.q.lt k (by simp [hk])))⟩
        exact HI2.out.keep (Upd.alloc [] _ _) (by simp)
      | true =>
        have HOK2 := Lib.hid (HO.out.take ht hlt)
        have HG2 : Hid (GateIs base w2 gb qb lb um ⟨g1.most, g1.n - 1, r', g1.lim, g1.U⟩ ((Value.slice ao m cap).ownBlock.toList ++ S)) := Lib.hid (by simpa using hg2)
        obtain ⟨xi, xp, xf⟩ := x
        unfold It.val
        dsimp only at HOK2 ⊢
        have HGA := Lib.hid (HG2.out.next (Upd.alloc [] w2 (.cells #[.int .i64 xi, .int .i64 xp, .int .i64 xf] 29)))
        have HXA : Hid (BlockAt (w2.alloc (.cells #[.int .i64 xi, .int .i64 xp, .int .i64 xf] 29)) w2.heap.size 29 [.int .i64 xi, .int .i64 xp, .int .i64 xf]) := Lib.hid (BlockAt.new _ _ _)
        have HIA := Lib.hid (HI2.out.keep (Upd.alloc [] w2 (.cells #[.int .i64 xi, .int .i64 xp, .int .i64 xf] 29)) (by simp))
        have HSTA := Lib.hid (HST2.out.trans (QStep.upd (Upd.alloc [] w2 (.cells #[.int .i64 xi, .int .i64 xp, .int .i64 xf] 29)) HG2.out.q.base_le (by simp) (fun k hk => HG2.out.q.lt k (by simp [hk]))))
        have hne : w2.heap.size ≠ um := Nat.ne_of_gt HG2.out.set.lt
        have hxo : ∀ q, (Value.slice ao m cap).ownBlock = some q → q ≠ w2.heap.size := fun q hq => by have := (HI2.out.lt q hq).2; omega
        have HXO := Lib.hid (And.intro hne hxo)
        clear ht hq2 hst2 hg2 CT c0 c1 c2 HST HI HGI hne hxo
        go_upto_region 5 with fail
        obtain ⟨W, hW⟩ : ∃ W, w2.alloc (.cells #[.int .i64 xi, .int .i64 xp, .int .i64 xf] 29) = W := ⟨_, rfl⟩
        obtain ⟨X, hX⟩ : ∃ X, w2.heap.size = X := ⟨_, rfl⟩
        rw [hW] at HGA HIA HSTA
        rw [hW, hX] at HXA
        rw [hX] at HXO
        rw [hW, hX]
        clear hW hX HG2 HI2 HST2
        obtain ⟨c0, c1, c2⟩ := HGA.out.cells
        have x0 := HXA.out.cell 0 _ rfl
        obtain ⟨w3, hst, hm3, hu3, hs3⟩ := MapU.store (w := W.drew) (HGA.out.set.keep (Upd.drew [] _) (by simp)) tMapBool tInt xi
        have HG3 := Lib.hid ((HGA.out.next (Upd.drew [] W)).map hm3 hu3)
        have hx3 := HXA.out.drew.keep hu3 (by simp; exact fun e => HXO.out.1 e)
        have y0 := hx3.cell 0 _ rfl
        have huA : Upd [um] W w3 := (Upd.drew [um] W).trans hu3
        have HI3 : Hid (OwnInts w.heap.size w3 (.slice ao m cap) ids) := Lib.hid (huA.owns HIA.out (fun k hk => by simp; exact fun e => HGA.out.ap.2.2 (by rw [← e]; simp [hk])))
        have HST3 := Lib.hid (HSTA.out.trans (QStep.upd huA HGA.out.q.base_le (by simp; exact ⟨HGA.out.low.2.2, fun hh => HGA.out.ap.2.2 (by simp [hh])⟩) (fun k hk => HGA.out.q.lt k (by simp [hk]))))
        have HBD : Hid (m + 1 ≤ maxLen ∧ (m + 1) * 8 ≤ 140737488355328 ∧ w.heap.size ≤ w3.heap.size) := Lib.hid (by
          have h1 := HOK2.out.n0
          dsimp only at h1
          have h2 := HST3.out.size
          exact ⟨by unfold maxLen; omega, by omega, h2⟩)
        have HOWN : Hid (w3.ownsRow w.heap.size 3 1 (.slice ao m cap) m (ids.map (Value.int .i64))) := Lib.hid (by
          have := HI3.out
          unfold OwnInts at this
          rwa [← HM.out] at this)
        clear hm3 hu3 hs3 hx3 huA
        go_still_tail 6, (by kernel_rfl)
        change wpList _ _ _ _ _ W.drew
        go_wp2_with (at_builtin; refine wpList_append_put w3 rfl (.tmp 27) (.tmp 30) 22 rfl w.heap.size 3 1 8 Try.infoInt (by kernel_rfl) rfl (by decide) (.slice ao m cap) m (ids.map (Value.int .i64)) rfl HOWN.out [Value.int .i64 xi] rfl rfl rfl HBD.out.1 HBD.out.2.1 HBD.out.2.2 ?_)
        intro gg cap' w4 hown hu hgg
        have HI4 : Hid (OwnInts w.heap.size w4 (.slice (some ⟨gg, 0, none⟩) (m + 1) cap') (ids ++ [xi])) := Lib.hid (OwnInts.of hown (by simp [HM.out]) (by simp))
        have HG4 : Hid (GateAt base w4 gb ⟨g1.most, g1.n - 1, r', g1.lim, putU g1.U xi⟩ ((Value.slice (some ⟨gg, 0, none⟩) (m + 1) cap').ownBlock.toList ++ S)) := Lib.hid (by
          have := HG3.out.out hu (z := gg) (hgg.imp (fun hh => by simp [hh]) id) ((hown.lt gg rfl).2)
          exact ⟨qb, lb, um, by simpa [Value.ownBlock] using this⟩)
        have HST4 : Hid (QStep base S w w4) := Lib.hid (HST3.out.trans (QStep.upd hu HG3.out.q.base_le (fun k hk => by
          simp at hk
          have h1 := (HI3.out.lt k hk).1
          exact ⟨by have := HB.out; omega, fun hh => by have := HSL.out k hh; omega⟩) (fun k hk => HG3.out.q.lt k (by simp [hk]))))
        have HR4 : Hid (∀ (ids2 : List Int) (g' : Gt), NextRun ⟨g1.most, g1.n - 1, r', g1.lim, putU g1.U xi⟩ ids2 g' → NextRun g ((ids ++ [xi]) ++ ids2) g') := Lib.hid (fun ids2 g' hh => by
          have := HR.out _ _ (NextRun.go g1 g' r' ⟨xi, xp, xf⟩ ids2 HLT.out HT.out hh)
          simpa using this)
        have HML : Hid (m + 1 = (ids ++ [xi]).length ∧ g1.n - 1 + ((m + 1 : Nat) : Int) = (N : Int) ∧ m + 1 ≤ N) := Lib.hid (by
          have h1 := HOK2.out.n0
          dsimp only at h1
          exact ⟨by simp [HM.out], by omega, by omega⟩)
        clear hown hu hgg c0 c1 c2 x0 y0 hst
        go_wp2_with fail
        go_roundw
        case rel => exact ⟨ids ++ [xi], ⟨g1.most, g1.n - 1, r', g1.lim, putU g1.U xi⟩, some ⟨gg, 0, none⟩, m + 1, cap', rfl, HML.out.1, HML.out.2.1, HR4, HI4, HG4, HST4, HOK2⟩
        case measure => have := HML.out.2.2; simp [lenOf] <;> omega
    · have HRUN := Lib.hid (HR.out [] _ (NextRun.full g1 (by omega)))
      go_wp2_with fail
      go_ret
      exact ⟨ids, _, _, by simpa using HRUN.out, rfl, HI.out, HG.out, HST.out⟩
end Go.Proofs.Ytklbnldkfohkpaa
