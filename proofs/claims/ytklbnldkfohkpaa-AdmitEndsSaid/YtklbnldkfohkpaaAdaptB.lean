/- Layer 21: contracts of fall and Done. -/
import Derived.Test.YtklbnldkfohkpaaAdaptA
namespace Go.Proofs.Ytklbnldkfohkpaa
open Go.RowKit
def FallPost (b : Nat) (l : Lim) (now : Int) (w : World) (e : Ending) (w' : World) : Prop := e = .returned (.int .i64 (l.fall now).lim) ∧ LimAt w' b { (l.fall now) with lim := l.lim } ∧ Upd [b] w w'
theorem fallPost_cut {b : Nat} {low high lim base last : Int} {cut : Bool} {now : Int} {w : World} {x : Int} {n m : Nat} (h : LimAt w b ⟨low, high, lim, base, cut, last⟩) (hc : ¬ (cut = true ∧ now < last + base)) (hx : max (lim * 3 / 4) low = x) :
    FallPost b ⟨low, high, lim, base, cut, last⟩ now w (.returned (.int .i64 x)) ((((w.drewN n).setCell { block := b, off := 4 } (Value.bool true)).setCell { block := b, off := 5 } (Value.int IntKind.i64 now)).drewN m) := by
  have hf : Lim.fall ⟨low, high, lim, base, cut, last⟩ now = ⟨low, high, max (lim * 3 / 4) low, base, true, now⟩ := by unfold Lim.fall; rw [if_neg hc]
  unfold FallPost
  rw [hf]
  refine ⟨by rw [hx], ?_, ?_⟩
  · exact ((BlockAt.drewN h n).set 4 (.bool true)).set 5 (.int .i64 now)
  · exact (((Upd.drewN _ w n).trans (Upd.setCell' _ _ _ (by simp))).trans (Upd.setCell' _ _ _ (by simp))).trans (Upd.drewN _ _ m)
theorem fall_any (b : Nat) (l : Lim) (now under : Int) (w : World) (h : LimAt w b l) (ho : l.Ok) :
    Calls Try.prog 42 #[.pointer (some ⟨b, 0, none⟩), .int .i64 now, .int .i64 under] w (FallPost b l now w) := by
  obtain ⟨c0, c1, c2, c3, c4, c5⟩ := h.cells
  have f4 := h.free 4
  have f5 := h.free 5
  have HA := Lib.hid h
  clear h
  obtain ⟨low, high, lim, base, cut, last⟩ := l
  obtain ⟨l0, l1, l2, l3, b0, b1, t0, t1⟩ := ho
  dsimp only at *
  cases cut
  · go_enter Try.func42, Try.ntmps42
    go_wp2
    go_quiet (fail)
    go_wp2
    go_quiet (fail)
    all_goals go_wp2
    all_goals go_ret
    · exact fallPost_cut HA.out (by simp) (by omega)
    · exact fallPost_cut HA.out (by simp) (by omega)
  · by_cases hn : now < last + base
    · go_enter Try.func42, Try.ntmps42
      go_wp2
      go_quiet (fail)
      go_wp2
      go_ret
      have hf : Lim.fall ⟨low, high, lim, base, true, last⟩ now = ⟨low, high, lim, base, true, last⟩ := by unfold Lim.fall; rw [if_pos ⟨rfl, hn⟩]
      unfold FallPost
      rw [hf]
      exact ⟨rfl, HA.out, Upd.drewN _ _ _⟩
    · go_enter Try.func42, Try.ntmps42
      go_wp2
      go_quiet (fail)
      go_wp2
      go_quiet (fail)
      all_goals go_wp2
      all_goals go_ret
      · exact fallPost_cut HA.out (by simpa using hn) (by omega)
      · exact fallPost_cut HA.out (by simpa using hn) (by omega)
def DonePost (b : Nat) (l : Lim) (now under took : Int) (well : Bool) (w : World) (e : Ending) (w' : World) : Prop := e = .returned (.tuple #[]) ∧ LimAt w' b (l.done now under took well) ∧ Upd [b] w w'
theorem ins_new (w : World) (r : Nat) (k : Bool) (v : Value) (es : List MapEntry) (c : Nat) (h : MapAt w r es c) (hf : Instr.findNow .bool (.bool k) es 0 = some none) :
    (Instr.mapUpdate 89 (.map (some r)) (.bool k) v).run Try.prog w = .ok () (setObjW w r (.map (es ++ [(⟨.bool k, v, c⟩ : MapEntry)]).toArray (c + 1))) :=
  run_update_new (by kernel_rfl : Try.prog.underlying 89 = some (.map 4 23)) (by kernel_rfl : Try.prog.underlying 4 = some .bool) (show MapKept.IsKey .bool (.bool k) from trivial) h hf v
theorem ins1 (w : World) (r : Nat) (v : Value) (hr : r = w.heap.size) : (Instr.mapUpdate 89 (.map (some r)) (.bool true) v).run Try.prog (w.alloc (.map #[] 0)) = .ok () (w.alloc (.map #[(⟨.bool true, v, 0⟩ : MapEntry)] 1)) := by
  subst hr; rw [ins_new (w.alloc (.map #[] 0)) w.heap.size true v [] 0 (MapAt.new w) rfl, setObjW_alloc]; rfl
theorem ins2 (w : World) (r : Nat) (v u : Value) (hr : r = w.heap.size) : (Instr.mapUpdate 89 (.map (some r)) (.bool false) v).run Try.prog (w.alloc (.map #[(⟨.bool true, u, 0⟩ : MapEntry)] 1)) = .ok () (w.alloc (.map #[(⟨.bool true, u, 0⟩ : MapEntry), (⟨.bool false, v, 1⟩ : MapEntry)] 2)) := by
  subst hr; rw [ins_new (w.alloc (.map #[(⟨.bool true, u, 0⟩ : MapEntry)] 1)) w.heap.size false v [(⟨.bool true, u, 0⟩ : MapEntry)] 1 (heap_alloc_new w _) rfl, setObjW_alloc]; rfl
theorem look1 (w : World) (r : Nat) (v u : Value) (hr : r = w.heap.size) : (Instr.lookup 89 (.map (some r)) (.bool true) false).run Try.prog (w.alloc (.map #[(⟨.bool true, u, 0⟩ : MapEntry), (⟨.bool false, v, 1⟩ : MapEntry)] 2)) = .ok u (w.alloc (.map #[(⟨.bool true, u, 0⟩ : MapEntry), (⟨.bool false, v, 1⟩ : MapEntry)] 2)) := by
  subst hr; exact run_lookup_hit (by kernel_rfl : Try.prog.underlying 89 = some (.map 4 23)) (by kernel_rfl : Try.prog.underlying 4 = some .bool) (show MapKept.IsKey .bool (.bool _) from trivial) (heap_alloc_new w (.map #[(⟨.bool true, u, 0⟩ : MapEntry), (⟨.bool false, v, 1⟩ : MapEntry)] 2)) (es := [(⟨.bool true, u, 0⟩ : MapEntry), (⟨.bool false, v, 1⟩ : MapEntry)]) rfl false
theorem look2 (w : World) (r : Nat) (v u : Value) (hr : r = w.heap.size) : (Instr.lookup 89 (.map (some r)) (.bool false) false).run Try.prog (w.alloc (.map #[(⟨.bool true, u, 0⟩ : MapEntry), (⟨.bool false, v, 1⟩ : MapEntry)] 2)) = .ok v (w.alloc (.map #[(⟨.bool true, u, 0⟩ : MapEntry), (⟨.bool false, v, 1⟩ : MapEntry)] 2)) := by
  subst hr; exact run_lookup_hit (by kernel_rfl : Try.prog.underlying 89 = some (.map 4 23)) (by kernel_rfl : Try.prog.underlying 4 = some .bool) (show MapKept.IsKey .bool (.bool _) from trivial) (heap_alloc_new w (.map #[(⟨.bool true, u, 0⟩ : MapEntry), (⟨.bool false, v, 1⟩ : MapEntry)] 2)) (es := [(⟨.bool true, u, 0⟩ : MapEntry), (⟨.bool false, v, 1⟩ : MapEntry)]) rfl false
/-- The last store: what the limit becomes, by a bad one. -/
theorem donePost_fall {b : Nat} {l m : Lim} {now under took : Int} {well : Bool} {w w' : World} (hd : l.done now under took well = m.fall now) (u : Upd [b] w w') (hl : LimAt w' b { (m.fall now) with lim := m.lim }) :
    DonePost b l now under took well w (.returned (.tuple #[])) (w'.setCell ⟨b, 2, none⟩ (.int .i64 (m.fall now).lim)) := by
  refine ⟨rfl, ?_, u.trans (Upd.setCell' _ _ _ (by simp))⟩
  rw [hd]
  exact BlockAt.set hl 2 _
/-- The same, by a good one. -/
theorem donePost_rise {b : Nat} {l m : Lim} {now under took : Int} {well : Bool} {w w' : World} {n : Nat} (hd : l.done now under took well = { m with lim := m.rise under }) (u : Upd [b] w w') (hl : LimAt w' b m) :
    DonePost b l now under took well w (.returned (.tuple #[])) ((w'.drewN n).setCell ⟨b, 2, none⟩ (.int .i64 (m.rise under))) := by
  refine ⟨rfl, ?_, (u.trans (Upd.drewN _ _ n)).trans (Upd.setCell' _ _ _ (by simp))⟩
  rw [hd]
  exact BlockAt.set (BlockAt.drewN hl n) 2 _
theorem done_bad (b : Nat) (l : Lim) (now under took : Int) (w : World) (h : LimAt w b l) (ho : l.Ok) (_h0 : 0 ≤ now) (_h1 : now ≤ 1000000) (_h2 : 1 ≤ took) (_h3 : took ≤ 1000) :
    Calls Try.prog 28 #[.pointer (some ⟨b, 0, none⟩), .int .i64 now, .int .i64 under, .int .i64 took, .bool false] w (DonePost b l now under took false w) := by
  obtain ⟨c0, c1, c2, c3, c4, c5⟩ := h.cells
  have f2 := h.free 2
  have f3 := h.free 3
  have HA := Lib.hid h
  have HO := Lib.hid ho
  have hlt := h.lt
  clear h
  obtain ⟨low, high, lim, base, cut, last⟩ := l
  obtain ⟨l0, l1, l2, l3, b0, b1, t0, t1⟩ := ho
  dsimp only at *
  have hmm := @run_makeMap Try.prog
  have i1 := ins1
  have i2 := ins2
  have k1 := look1
  have k2 := look2
  have hd := Lib.hid (show Lim.done ⟨low, high, lim, base, cut, last⟩ now under took false = Lim.fall ⟨low, high, lim, base, cut, last⟩ now by unfold Lim.done Lim.note; simp)
  go_enter Try.func28, Try.ntmps28
  go_wp2_with fail
  refine (fall_any b ⟨low, high, lim, base, cut, last⟩ now under _ (LimAt.keep HA.out (Upd.alloc [] _ _) (by simp)) HO.out).mono ?_
  rintro e w' ⟨rfl, hl, hu⟩
  have g2 := hl.cells.2.2.1
  have gf := hl.free 2
  have HL := Lib.hid hl
  clear hl
  dsimp only at g2
  go_wp2
  go_end0
  exact donePost_fall hd.out ((Upd.alloc _ _ _).trans hu) HL.out
theorem done_new (b : Nat) (l : Lim) (now under took : Int) (w : World) (h : LimAt w b l) (ho : l.Ok) (_h0 : 0 ≤ now) (_h1 : now ≤ 1000000) (h2 : 1 ≤ took) (h3 : took ≤ 1000) (hb : l.base = 0 ∨ took < l.base) :
    Calls Try.prog 28 #[.pointer (some ⟨b, 0, none⟩), .int .i64 now, .int .i64 under, .int .i64 took, .bool true] w (DonePost b l now under took true w) := by
  obtain ⟨c0, c1, c2, c3, c4, c5⟩ := h.cells
  have f2 := h.free 2
  have f3 := h.free 3
  have HA := Lib.hid h
  have HO := Lib.hid ho
  have hlt := h.lt
  clear h
  obtain ⟨low, high, lim, base, cut, last⟩ := l
  obtain ⟨l0, l1, l2, l3, b0, b1, t0, t1⟩ := ho
  dsimp only at *
  have hmm := @run_makeMap Try.prog
  have i1 := ins1
  have i2 := ins2
  have k1 := look1
  have k2 := look2
  have hn : Lim.note ⟨low, high, lim, base, cut, last⟩ took true = ⟨low, high, lim, took, cut, last⟩ := by unfold Lim.note; simp [hb]
  have hd := Lib.hid (show Lim.done ⟨low, high, lim, base, cut, last⟩ now under took true = { (⟨low, high, lim, took, cut, last⟩ : Lim) with lim := Lim.rise ⟨low, high, lim, took, cut, last⟩ under } by unfold Lim.done; rw [hn, if_pos ⟨rfl, by dsimp only; omega⟩])
  clear hn
  have ht : took ≤ 4 * took := by omega
  by_cases hz : base = 0
  · clear hb
    subst hz
    go_enter Try.func28, Try.ntmps28
    go_wp2_with fail
    refine (rise_any b ⟨low, high, lim, took, cut, last⟩ now under _ (LimAt.keep (BlockAt.set HA.out 3 (.int .i64 took)) (Upd.alloc [] _ _) (by simp)) (by dsimp only; omega) (by dsimp only; omega)).mono ?_
    rintro e w' ⟨rfl, n, rfl⟩
    go_wp2
    go_end0
    exact donePost_rise hd.out ((Upd.setCell' _ _ _ (by simp)).trans (Upd.alloc _ _ _)) (LimAt.keep (BlockAt.set HA.out 3 (.int .i64 took)) (Upd.alloc [] _ _) (by simp))
  · have hb2 : decide (took < base) = true := by simp; omega
    have hb' : (base == 0) = false := by simp; omega
    clear hz hb
    go_enter Try.func28, Try.ntmps28
    go_wp2_with fail
    refine (rise_any b ⟨low, high, lim, took, cut, last⟩ now under _ (LimAt.keep (BlockAt.set HA.out 3 (.int .i64 took)) (Upd.alloc [] _ _) (by simp)) (by dsimp only; omega) (by dsimp only; omega)).mono ?_
    rintro e w' ⟨rfl, n, rfl⟩
    go_wp2
    go_end0
    exact donePost_rise hd.out ((Upd.setCell' _ _ _ (by simp)).trans (Upd.alloc _ _ _)) (LimAt.keep (BlockAt.set HA.out 3 (.int .i64 took)) (Upd.alloc [] _ _) (by simp))
theorem done_good (b : Nat) (l : Lim) (now under took : Int) (w : World) (h : LimAt w b l) (ho : l.Ok) (_h0 : 0 ≤ now) (_h1 : now ≤ 1000000) (h2 : 1 ≤ took) (h3 : took ≤ 1000) (hb : ¬ (l.base = 0 ∨ took < l.base)) (ht : took ≤ 4 * l.base) :
    Calls Try.prog 28 #[.pointer (some ⟨b, 0, none⟩), .int .i64 now, .int .i64 under, .int .i64 took, .bool true] w (DonePost b l now under took true w) := by
  obtain ⟨c0, c1, c2, c3, c4, c5⟩ := h.cells
  have f2 := h.free 2
  have f3 := h.free 3
  have HA := Lib.hid h
  have HO := Lib.hid ho
  have hlt := h.lt
  clear h
  obtain ⟨low, high, lim, base, cut, last⟩ := l
  obtain ⟨l0, l1, l2, l3, b0, b1, t0, t1⟩ := ho
  dsimp only at *
  have hmm := @run_makeMap Try.prog
  have i1 := ins1
  have i2 := ins2
  have k1 := look1
  have k2 := look2
  have hn : Lim.note ⟨low, high, lim, base, cut, last⟩ took true = ⟨low, high, lim, base, cut, last⟩ := by unfold Lim.note; rw [if_neg (by simpa using hb)]
  have hb1' : (base == 0) = false := by simp; omega
  have hb2' : decide (took < base) = false := by simp; omega
  have hd := Lib.hid (show Lim.done ⟨low, high, lim, base, cut, last⟩ now under took true = { (⟨low, high, lim, base, cut, last⟩ : Lim) with lim := Lim.rise ⟨low, high, lim, base, cut, last⟩ under } by unfold Lim.done; rw [hn, if_pos ⟨rfl, ht⟩])
  clear hn hb
  have ht' : decide (took ≤ 4 * base) = true := by simpa using ht
  go_enter Try.func28, Try.ntmps28
  go_wp2_with fail
  refine (rise_any b ⟨low, high, lim, base, cut, last⟩ now under _ (LimAt.keep HA.out (Upd.alloc [] _ _) (by simp)) (by dsimp only; omega) (by dsimp only; omega)).mono ?_
  rintro e w' ⟨rfl, n, rfl⟩
  go_wp2
  go_end0
  exact donePost_rise hd.out (Upd.alloc _ _ _) (LimAt.keep HA.out (Upd.alloc [] _ _) (by simp))
theorem done_slow (b : Nat) (l : Lim) (now under took : Int) (w : World) (h : LimAt w b l) (ho : l.Ok) (_h0 : 0 ≤ now) (_h1 : now ≤ 1000000) (_h2 : 1 ≤ took) (_h3 : took ≤ 1000) (hb : ¬ (l.base = 0 ∨ took < l.base)) (ht : ¬ took ≤ 4 * l.base) :
    Calls Try.prog 28 #[.pointer (some ⟨b, 0, none⟩), .int .i64 now, .int .i64 under, .int .i64 took, .bool true] w (DonePost b l now under took true w) := by
  obtain ⟨c0, c1, c2, c3, c4, c5⟩ := h.cells
  have f2 := h.free 2
  have f3 := h.free 3
  have HA := Lib.hid h
  have HO := Lib.hid ho
  have hlt := h.lt
  clear h
  obtain ⟨low, high, lim, base, cut, last⟩ := l
  obtain ⟨l0, l1, l2, l3, b0, b1, t0, t1⟩ := ho
  dsimp only at *
  have hmm := @run_makeMap Try.prog
  have i1 := ins1
  have i2 := ins2
  have k1 := look1
  have k2 := look2
  have hn : Lim.note ⟨low, high, lim, base, cut, last⟩ took true = ⟨low, high, lim, base, cut, last⟩ := by unfold Lim.note; rw [if_neg (by simpa using hb)]
  have hb1' : (base == 0) = false := by simp; omega
  have hb2' : decide (took < base) = false := by simp; omega
  have hd := Lib.hid (show Lim.done ⟨low, high, lim, base, cut, last⟩ now under took true = Lim.fall ⟨low, high, lim, base, cut, last⟩ now by unfold Lim.done; rw [hn, if_neg (by simpa using ht)])
  clear hn hb
  have ht' : decide (took ≤ 4 * base) = false := by simpa using ht
  go_enter Try.func28, Try.ntmps28
  go_wp2_with fail
  refine (fall_any b ⟨low, high, lim, base, cut, last⟩ now under _ (LimAt.keep HA.out (Upd.alloc [] _ _) (by simp)) HO.out).mono ?_
  rintro e w' ⟨rfl, hl, hu⟩
  have g2 := hl.cells.2.2.1
  have gf := hl.free 2
  have HL := Lib.hid hl
  clear hl
  dsimp only at g2
  go_wp2
  go_end0
  exact donePost_fall hd.out ((Upd.alloc _ _ _).trans hu) HL.out
theorem done_any (b : Nat) (l : Lim) (now under took : Int) (well : Bool) (w : World) (h : LimAt w b l) (ho : l.Ok) (h0 : 0 ≤ now) (h1 : now ≤ 1000000) (h2 : 1 ≤ took) (h3 : took ≤ 1000) :
    Calls Try.prog 28 #[.pointer (some ⟨b, 0, none⟩), .int .i64 now, .int .i64 under, .int .i64 took, .bool well] w (DonePost b l now under took well w) := by
  cases well
  · exact done_bad b l now under took w h ho h0 h1 h2 h3
  · by_cases hb : l.base = 0 ∨ took < l.base
    · exact done_new b l now under took w h ho h0 h1 h2 h3 hb
    · by_cases ht : took ≤ 4 * l.base
      · exact done_good b l now under took w h ho h0 h1 h2 h3 hb ht
      · exact done_slow b l now under took w h ho h0 h1 h2 h3 hb ht
end Go.Proofs.Ytklbnldkfohkpaa
