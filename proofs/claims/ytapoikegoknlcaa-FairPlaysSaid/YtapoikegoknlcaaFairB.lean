/- Layer 22: the walks of next, of IndexFunc by a flow, of remove. -/
import Derived.Test.YtapoikegoknlcaaFairA
namespace Go.Proofs.Ytapoikegoknlcaa
open Go.RowKit
theorem takeF_any (x : It) (f : Int) (s : Nat) (w : World) (hs : w.cell? ⟨s, 0, none⟩ = some (.int .i64 f)) :
    Calls Try.prog 29 #[x.val, .pointer (some ⟨s, 0, none⟩)] w fun e w' => e = .returned (.bool (x.flow == f)) ∧ Below w.heap.size w w' := by
  have hl := World.block_lt_of_cell? w _ hs
  have hs2 : (w.alloc (.cells #[.int .i64 x.id, .int .i64 x.prio, .int .i64 x.flow] 27)).cell? ⟨s, 0, none⟩ = some (.int .i64 f) := (Upd.alloc [] w _).cell hs (by simp)
  obtain ⟨xi, xp, xf⟩ := x
  unfold It.val
  dsimp only at *
  obtain ⟨B, hB⟩ : ∃ B, (xf == f) = B := ⟨_, rfl⟩
  rw [hB]
  go_enter Try.func29, Try.ntmps29
  go_wp2
  go_ret
  exact ⟨rfl, (Below.refl _ _).alloc (Nat.le_refl _) _⟩
/-- Items in a block, that are only read. -/
def ItemsIn (w : World) (g : Nat) (l : List It) : Prop := ∀ k x, l[k]? = some x → w.cell? ⟨g, k * 3, none⟩ = some (.int .i64 x.id) ∧ w.cell? ⟨g, k * 3 + 1, none⟩ = some (.int .i64 x.prio) ∧ w.cell? ⟨g, k * 3 + 2, none⟩ = some (.int .i64 x.flow)
theorem ItemsIn.of {w : World} {g : Nat} {l : List It} {junk : List Value} (h : BlockAt w g 27 (cellsI l ++ junk)) : ItemsIn w g l := fun k x hx => by
  obtain ⟨e1, e2, e3⟩ := cellsI_get l k x hx
  have app : ∀ o v, (cellsI l)[o]? = some v → (cellsI l ++ junk)[o]? = some v := fun o v hv => by
    rw [List.getElem?_append_left (List.getElem?_eq_some_iff.1 hv).1]; exact hv
  exact ⟨h.cell _ _ (app _ _ e1), h.cell _ _ (app _ _ e2), h.cell _ _ (app _ _ e3)⟩
theorem ItemsIn.keep {S : List Nat} {w w' : World} {g : Nat} {l : List It} (h : ItemsIn w g l) (u : Upd S w w') (hs : g ∉ S) : ItemsIn w' g l := fun k x hx =>
  ⟨u.cell (h k x hx).1 hs, u.cell (h k x hx).2.1 hs, u.cell (h k x hx).2.2 hs⟩
def FirstAt (l : List It) (p : It → Prop) (k : Nat) : Prop := (∃ x : It, l[k]? = some x ∧ p x) ∧ ∀ i x, i < k → l[i]? = some x → ¬ p x
def IdxPost (l : List It) (f : Int) (w : World) (e : Ending) (w' : World) : Prop := (∃ k : Nat, e = .returned (.int .i64 (k : Int)) ∧ FirstAt l (fun x => x.flow = f) k) ∧ Below w.heap.size w w'
set_option maxHeartbeats 1000000 in
theorem idxF_any (g cap s : Nat) (l : List It) (f : Int) (w : World) (hi : ItemsIn w g l) (hl : (l.length : Int) ≤ 1000000) (hs : w.cell? ⟨s, 0, none⟩ = some (.int .i64 f)) (hex : ∃ (k : Nat) (x : It), l[k]? = some x ∧ x.flow = f) :
    Calls Try.prog 28 #[.slice (some ⟨g, 0, none⟩) l.length cap, .func (Fn.func 29) #[] #[.pointer (some ⟨s, 0, none⟩)]] w (IdxPost l f w) := by
  have HI := Lib.hid hi
  have HS := Lib.hid hs
  have HE := Lib.hid hex
  obtain ⟨n, hn⟩ : ∃ n, l.length = n := ⟨_, rfl⟩
  have HN := Lib.hid hn
  rw [hn] at hl ⊢
  have HST : Hid (∀ (i : Nat) (x : It), i < 0 → l[i]? = some x → ¬ x.flow = f) := Lib.hid (fun i x h => by omega)
  clear hi hs hex hn
  go_enter Try.func28, Try.ntmps28
  go_wp2_with fail
  go_loopw [8] (fun i wr => ∃ j : Nat, (j : Int) ≤ n ∧ i = .int .i64 j ∧ Hid (∀ (i : Nat) (x : It), i < j → l[i]? = some x → ¬ x.flow = f) ∧ Hid (Below w.heap.size w wr)) (fun i _ => n - (intOf i).toNat)
  case atStart => exact ⟨0, by omega, rfl, HST, Lib.hid (Below.refl _ _)⟩
  case round =>
    obtain ⟨j, hj, rfl, HF, HB⟩ := hrel
    clear HST
    have hlt : (j : Int) < n := by
      rcases Int.lt_or_le (j : Int) n with h | h
      · exact h
      · exfalso
        obtain ⟨k, x, hx, hxf⟩ := HE.out
        have := (List.getElem?_eq_some_iff.1 hx).1
        rw [HN.out] at this
        exact HF.out k x (by omega) hx hxf
    obtain ⟨x, hx⟩ : ∃ x, l[j]? = some x := ⟨l[j]'(by rw [HN.out]; omega), by simp⟩
    obtain ⟨c0, c1, c2⟩ := (HI.out.keep (Upd.ofBelow HB.out) (by simp)) j x hx
    have hsw := (Upd.ofBelow HB.out).cell HS.out (by simp)
    have CT := Lib.hid (takeF_any x f s wr hsw)
    obtain ⟨xi, xp, xf⟩ := x
    unfold It.val at CT
    dsimp only at c0 c1 c2 CT
    have j0 : (0 : Int) ≤ j := by omega
    by_cases hf : xf = f
    · have hb : (xf == f) = true := by simpa using hf
      rw [hb] at CT
      have HFA := Lib.hid (show FirstAt l (fun x => x.flow = f) j from ⟨⟨_, hx, hf⟩, HF.out⟩)
      clear hb hf hx hsw
      go_wp2_with fail
      refine CT.out.mono ?_
      rintro e w1 ⟨rfl, hb⟩
      have HB1 := Lib.hid (HB.out.trans (hb.mono HB.out.size))
      clear hb c0 c1 c2
      go_wp2
      go_ret
      exact ⟨⟨j, rfl, HFA.out⟩, HB1.out⟩
    · have hb : (xf == f) = false := by simpa using hf
      rw [hb] at CT
      have HFN : Hid (∀ (i : Nat) (x : It), i < j + 1 → l[i]? = some x → ¬ x.flow = f) := Lib.hid (fun i y hi hy => by
        rcases (show i < j ∨ i = j by omega) with h | rfl
        · exact HF.out i y h hy
        · rw [hx] at hy; cases hy; exact hf)
      clear hb hf hx hsw
      go_wp2_with fail
      refine CT.out.mono ?_
      rintro e w1 ⟨rfl, hb⟩
      have HB1 := Lib.hid (HB.out.trans (hb.mono HB.out.size))
      clear hb c0 c1 c2
      go_wp2_with fail
      go_roundw
      case rel => exact ⟨j + 1, by omega, by go_num, HFN, HB1⟩
      case measure => simp [intOf] <;> omega
/-- remove: takes the i-th item off the row at a place in the queue's block. -/
theorem remove_any (b o g cap i : Nat) (l : List It) (junk : List Value) (x : It) (w : World) (hx : l[i]? = some x) (hg : BlockAt w g 27 (cellsI l ++ junk)) (hlen : (cellsI l ++ junk).length = cap * 3) (hm : cap ≤ maxLen)
    (cs : List Value) (hb : BlockAt w b 60 cs) (hc : cs[o]? = some (.slice (some ⟨g, 0, none⟩) l.length cap)) (hne : g ≠ b) :
    Calls Try.prog 30 #[.pointer (some ⟨b, o, none⟩), .int .i64 i] w fun e w' => e = .returned x.val ∧
      (∃ junk', BlockAt w' g 27 (cellsI (l.eraseIdx i) ++ junk') ∧ (cellsI (l.eraseIdx i) ++ junk').length = cap * 3) ∧ BlockAt w' b 60 (cs.set o (.slice (some ⟨g, 0, none⟩) (l.length - 1) cap)) ∧ Upd [g, b] w w' := by
  obtain ⟨hi, -⟩ := List.getElem?_eq_some_iff.1 hx
  have c0 := hb.cell o _ hc
  have f0 := hb.free o
  obtain ⟨d0, d1, d2⟩ := (ItemsIn.of hg) i x hx
  have hn : l.length ≤ cap := by have := cellsI_length l; rw [List.length_append] at hlen; omega
  have hcm : (cap : Int) ≤ 9223372036854775807 := by unfold maxLen at hm; omega
  obtain ⟨n, hnl⟩ : ∃ n, l.length = n := ⟨_, rfl⟩
  have i1 : (i : Int) < n := by omega
  have i2 : (n : Int) ≤ cap := by omega
  have HX := Lib.hid hx
  have HG := Lib.hid hg
  have HL := Lib.hid hlen
  have HB := Lib.hid hb
  have HNL := Lib.hid hnl
  rw [hnl] at c0 hc ⊢
  have HC := Lib.hid hc
  obtain ⟨xi, xp, xf⟩ := x
  unfold It.val
  dsimp only at d0 d1 d2 ⊢
  have eb : w.heap.size ≠ b := Nat.ne_of_gt (World.block_lt_of_cell? w _ c0)
  have eg : w.heap.size ≠ g := Nat.ne_of_gt (World.block_lt_of_cell? w _ d0)
  have eb2 : b < w.heap.size := World.block_lt_of_cell? w _ c0
  have eg2 : g < w.heap.size := World.block_lt_of_cell? w _ d0
  clear hx hg hlen hb hc hi hnl hn
  go_enter Try.func30, Try.ntmps30
  have HNL2 := Lib.hid (show n - 1 = l.length - 1 by rw [HNL.out])
  go_wp2_with fail
  have hgB : BlockAt ((w.alloc (.cells #[.int .i64 0, .int .i64 0, .int .i64 0] 27)).alloc (.cells #[.int .i64 xi, .int .i64 xp, .int .i64 xf] 27)) g 27 (cellsI l ++ junk) := (HG.out.alloc _).alloc _
  have hbB : BlockAt ((w.alloc (.cells #[.int .i64 0, .int .i64 0, .int .i64 0] 27)).alloc (.cells #[.int .i64 xi, .int .i64 xp, .int .i64 xf] 27)) b 60 cs := (HB.out.alloc _).alloc _
  have hr : BlockAt ((w.alloc (.cells #[.int .i64 0, .int .i64 0, .int .i64 0] 27)).alloc (.cells #[.int .i64 xi, .int .i64 xp, .int .i64 xf] 27)) w.heap.size 27 [.int .i64 0, .int .i64 0, .int .i64 0] := (BlockAt.new w 27 [.int .i64 0, .int .i64 0, .int .i64 0]).alloc _
  have hx2 : BlockAt ((w.alloc (.cells #[.int .i64 0, .int .i64 0, .int .i64 0] 27)).alloc (.cells #[.int .i64 xi, .int .i64 xp, .int .i64 xf] 27)) (w.heap.size + 1) 27 [.int .i64 xi, .int .i64 xp, .int .i64 xf] := by
    simpa using BlockAt.new (w.alloc (.cells #[.int .i64 0, .int .i64 0, .int .i64 0] 27)) 27 [.int .i64 xi, .int .i64 xp, .int .i64 xf]
  have hu0 : Upd [g, b] w ((w.alloc (.cells #[.int .i64 0, .int .i64 0, .int .i64 0] 27)).alloc (.cells #[.int .i64 xi, .int .i64 xp, .int .i64 xf] 27)) := (Upd.alloc _ _ _).trans (Upd.alloc _ _ _)
  have CD := Lib.hid (del_any g cap i l junk ⟨xi, xp, xf⟩ _ HX.out hgB HL.out hm)
  rw [HNL.out] at CD
  have HBB := Lib.hid hbB
  have HR := Lib.hid hr
  have HX2 := Lib.hid hx2
  have HU0 := Lib.hid hu0
  have HNE := Lib.hid hne
  obtain ⟨Z, hZ⟩ : ∃ Z, w.heap.size = Z := ⟨_, rfl⟩
  obtain ⟨Y, hY⟩ : ∃ Z, w.heap.size + 1 = Z := ⟨_, rfl⟩
  rw [hY] at HX2 ⊢
  rw [hZ] at HR eb eg eb2 eg2 ⊢
  have y1 : Z ≠ Y := by omega
  have y2 : Y ≠ b := by omega
  have y3 : Y ≠ g := by omega
  have HZY := Lib.hid (show Z ≠ Y ∧ Y ≠ b ∧ Y ≠ g ∧ Z ≠ b ∧ Z ≠ g ∧ w.heap.size ≤ Z ∧ w.heap.size ≤ Y by omega)
  clear hZ hY hgB hbB hr hx2 hu0 c0 d0 d1 d2 f0
  refine CD.out.mono ?_
  rintro e w3 ⟨rfl, hj, hu⟩
  have HJ := Lib.hid hj
  have hb3 := HBB.out.keep hu (by simp; exact fun h => HNE.out h.symm)
  have hr3 := HR.out.keep hu (by simp; exact HZY.out.2.2.2.2.1)
  have hx3 := HX2.out.keep hu (by simp; exact HZY.out.2.2.1)
  have HU3 := Lib.hid (HU0.out.trans (hu.mono (by simp)))
  have c0 := hb3.cell o _ HC.out
  have f0 := hb3.free o
  have r0 := hr3.cell 0 _ rfl
  have r1 := hr3.cell 1 _ rfl
  have r2 := hr3.cell 2 _ rfl
  have rf0 := hr3.free 0
  have rf1 := hr3.free 1
  have rf2 := hr3.free 2
  have x0 := hx3.cell 0 _ rfl
  have x1 := hx3.cell 1 _ rfl
  have x2 := hx3.cell 2 _ rfl
  have HB3 := Lib.hid hb3
  have HR3 := Lib.hid hr3
  clear hb3 hr3 hx3 hj hu
  go_wp2_with fail
  have hb4 : BlockAt ((((w3.setCell ⟨b, o, none⟩ (.slice (some ⟨g, 0, none⟩) (n - 1) cap)).setCell ⟨Z, 0, none⟩ (.int .i64 xi)).setCell ⟨Z, 1, none⟩ (.int .i64 xp)).setCell ⟨Z, 2, none⟩ (.int .i64 xf)) b 60 (cs.set o (.slice (some ⟨g, 0, none⟩) (n - 1) cap)) :=
    (((HB3.out.set o _).setOther eb _).setOther eb _).setOther eb _
  have hr4 : BlockAt ((((w3.setCell ⟨b, o, none⟩ (.slice (some ⟨g, 0, none⟩) (n - 1) cap)).setCell ⟨Z, 0, none⟩ (.int .i64 xi)).setCell ⟨Z, 1, none⟩ (.int .i64 xp)).setCell ⟨Z, 2, none⟩ (.int .i64 xf)) Z 27 [.int .i64 xi, .int .i64 xp, .int .i64 xf] :=
    ((((HR3.out.setOther (fun h => eb h.symm) _).set 0 _).set 1 _).set 2 _)
  have hj4 : ∃ junk', BlockAt ((((w3.setCell ⟨b, o, none⟩ (.slice (some ⟨g, 0, none⟩) (n - 1) cap)).setCell ⟨Z, 0, none⟩ (.int .i64 xi)).setCell ⟨Z, 1, none⟩ (.int .i64 xp)).setCell ⟨Z, 2, none⟩ (.int .i64 xf)) g 27 (cellsI (l.eraseIdx i) ++ junk') ∧ (cellsI (l.eraseIdx i) ++ junk').length = cap * 3 := by
    obtain ⟨j', h1, h2⟩ := HJ.out
    exact ⟨j', (((h1.setOther (fun h => hne h.symm) _).setOther eg _).setOther eg _).setOther eg _, h2⟩
  have hu4 : Upd [g, b] w ((((w3.setCell ⟨b, o, none⟩ (.slice (some ⟨g, 0, none⟩) (n - 1) cap)).setCell ⟨Z, 0, none⟩ (.int .i64 xi)).setCell ⟨Z, 1, none⟩ (.int .i64 xp)).setCell ⟨Z, 2, none⟩ (.int .i64 xf)) := by
    have hz : w.heap.size ≤ Z := HZY.out.2.2.2.2.2.1
    refine HU3.out.trans' (T := [b, Z]) ((((Upd.setCell' _ _ _ (by simp)).trans (Upd.setCell' _ _ _ (by simp))).trans (Upd.setCell' _ _ _ (by simp))).trans (Upd.setCell' _ _ _ (by simp))) ?_
    intro k hk
    simp at hk
    rcases hk with rfl | rfl
    · exact .inl (by simp)
    · exact .inr hz
  have q0 := hr4.cell 0 _ rfl
  have q1 := hr4.cell 1 _ rfl
  have q2 := hr4.cell 2 _ rfl
  obtain ⟨WF, hWF⟩ : ∃ WF, ((((w3.setCell ⟨b, o, none⟩ (.slice (some ⟨g, 0, none⟩) (n - 1) cap)).setCell ⟨Z, 0, none⟩ (.int .i64 xi)).setCell ⟨Z, 1, none⟩ (.int .i64 xp)).setCell ⟨Z, 2, none⟩ (.int .i64 xf)) = WF := ⟨_, rfl⟩
  rw [hWF] at hb4 hj4 hu4 q0 q1 q2 ⊢
  exact bodyPost_ret (v := .agg #[.int .i64 xi, .int .i64 xp, .int .i64 xf]) (by simp [results, Try.results30, go_sem, q0, q1, q2]) rfl ⟨rfl, hj4, hb4, hu4⟩
end Go.Proofs.Ytapoikegoknlcaa
