/- Layer 14: a new guard. -/
import Derived.Test.YtfmgcnmikopgeaaOutG
namespace Go.Proofs.Ytfmgcnmikopgeaa
open Go.RowKit
def rise (N : Nat) : List Int := (List.range N).map (fun i : Nat => (i : Int) + 1)
theorem rise_len (N : Nat) : (rise N).length = N := by simp [rise]
theorem rise_get {N j : Nat} (h : j < N) : (rise N)[j]? = some ((j : Int) + 1) := by simp [rise, h]
def zeroE : Es := ⟨0, 0, false, 0, 0, 0, none⟩
/-- The map while it is filled. -/
structure KAt (base : Nat) (W : World) (m j : Nat) (B : Nat → Nat) : Prop where
  map : ∃ es clock, EntsAt W m j B es clock
  ends : ∀ i, i < j → BlockAt W (B i) 56 zeroE.cells
  inj : ∀ i k, i < j → k < j → B i = B k → i = k
  low : ∀ i, i < j → base ≤ B i
theorem entL_succ (j : Nat) (B : Nat → Nat) (p : Nat) : entL (j + 1) (upd B j p) = entL j B ++ [(Value.int .i64 ((j : Int) + 1), Value.pointer (some ⟨p, 0, none⟩))] := by
  unfold entL
  rw [List.range_succ, List.map_append]
  congr 1
  · refine List.map_congr_left (fun i hi => ?_)
    rw [List.mem_range] at hi
    rw [upd_other _ _ (by omega)]
  · simp [upd_same]
theorem EntsAt.add {W : World} {m j : Nat} {B : Nat → Nat} {es : List MapEntry} {clock : Nat} (h : EntsAt W m j B es clock) (p : Nat) :
    ∃ W', (Instr.mapUpdate 46 (.map (some m)) (.int .i64 ((j : Int) + 1)) (.pointer (some ⟨p, 0, none⟩))).run Try.prog W = .ok () W' ∧ (∃ es' clock', EntsAt W' m (j + 1) (upd B j p) es' clock') ∧ Upd [m] W W' ∧ W'.heap.size = W.heap.size := by
  have hk := ents_keys h.is
  have hg : getE es ((j : Int) + 1) = none := by
    rw [getE_ents B ((j : Int) + 1) j 0 es (by rw [h.is]; unfold entL; rw [List.range_eq_range']), if_neg (by omega)]
  rcases find_int ((j : Int) + 1) es 0 hk with ⟨h1, h2⟩ | ⟨q, e, h1, -⟩
  · refine ⟨_, run_update_new tMapEnd tInt (show MapKept.IsKey (.int .i64) (.int .i64 ((j : Int) + 1)) from rfl) h.at_ h2 _, ⟨es ++ [(⟨.int .i64 ((j : Int) + 1), .pointer (some ⟨p, 0, none⟩), clock⟩ : MapEntry)], clock + 1, ?_, ?_, ?_, ?_⟩, setObjW_upd _ _ _, by simp [setObjW]⟩
    · exact setObjW_at _ h.at_.lt
    · rw [entL_succ, List.map_append, h.is]; rfl
    · rw [List.map_append, List.nodup_append]
      refine ⟨h.nodup, by simp, fun a ha b hb => ?_⟩
      simp at hb
      subst hb
      obtain ⟨e, he, rfl⟩ := List.mem_map.1 ha
      have := h.old e he
      omega
    · intro e he
      rcases List.mem_append.1 he with he | he
      · have := h.old e he; omega
      · simp at he; subst he; simp
  · rw [hg] at h1; cases h1
theorem lookNil (k : Int) (W : World) : (Instr.lookup 46 (.map none) (.int .i64 k) false).run Try.prog W = .ok (.pointer none) W := by
  simp [Instr.lookup, run_underlying tMapEnd, MapKept.run_checkKey tInt (show MapKept.IsKey (.int .i64) (.int .i64 k) from rfl), MapKept.run_findKey tInt (show Instr.findNow (.int .i64) (.int .i64 k) [] 0 = some none from rfl), zeroEndP, Result.andThen]
def KeepPost (base b : Nat) (t : Wt) (N : Nat) (w : World) (e : Ending) (w' : World) : Prop := ∃ m B, e = .returned (.tuple #[]) ∧ GAt base w' b t 0 m N B (fun _ => zeroE) ∧ Below base w w'
def nilCells (t : Wt) : List Value := [.int .i64 t.errors, .int .i64 t.window, .int .i64 t.dev, .int .i64 t.slow, .int .i64 t.share, .int .i64 t.base, .int .i64 t.top, .int .i64 0, .map none]
set_option maxRecDepth 100000 in
set_option maxHeartbeats 4000000 in
theorem keep_any (base b : Nat) (t : Wt) (v : Value) (N : Nat) (w : World) (hb : BlockAt w b 48 (nilCells t)) (hbase : base ≤ b) (hv : IntsIn w v (rise N)) (hN : (N : Int) ≤ 1000) :
    Calls Try.prog 23 #[.pointer (some ⟨b, 0, none⟩), v] w (KeepPost base b t N w) := by
  have HB := Lib.hid hb
  have hbl := hb.lt
  have HV := Lib.hid hv
  obtain ⟨ao, cap, rfl, -, -, hcs⟩ := hv
  have HCS := Lib.hid hcs
  rw [rise_len] at HV ⊢
  have hmk : ∀ W : World, (Instr.makeMap 46 (some (.int .i64 N))).run Try.prog W = .ok (.map (some W.heap.size)) (W.alloc (.map #[] 0)) := fun W => by
    simp [Instr.makeMap, run_underlying tMapEnd, Result.andThen]
    try rfl
  clear hb hcs
  go_enter Try.func23, Try.ntmps23
  go_wp2_with fail
  have HK0 : Hid (∃ W m, W = w.alloc (.map #[] 0) ∧ m = w.heap.size ∧ KAt w.heap.size W m 0 (fun _ => 0) ∧ BlockAt W b 48 (nilCells t) ∧ Upd [] w W ∧ w.heap.size ≤ m) := Lib.hid
    ⟨_, _, rfl, rfl, ⟨⟨[], 0, MapAt.new w, rfl, List.nodup_nil, fun e he => (by cases he)⟩, fun i hi => by omega, fun i k hi => by omega, fun i hi => by omega⟩, HB.out.alloc _, Upd.alloc [] w _, Nat.le_refl _⟩
  obtain ⟨W1, m, hW1, hm, HK1⟩ := HK0.out
  rw [← hm]
  rw [← hW1]
  have HK := Lib.hid HK1
  clear HK0 hW1 hm HK1 hmk
  go_loopw [6, 7, 13] (fun _ _ iv wr => ∃ (j : Nat) (B : Nat → Nat), j ≤ N ∧ iv = .int .i64 j ∧ Hid (KAt w.heap.size wr m j B ∧ BlockAt wr b 48 (nilCells t) ∧ Upd [] w wr ∧ w.heap.size ≤ m)) (fun _ _ i _ => N - (intOf i).toNat)
  case atStart => exact ⟨0, _, by omega, rfl, HK⟩
  case round =>
    obtain ⟨j, B, hj, rfl, HJ⟩ := hrel
    clear HK
    by_cases hjn : j < N
    · obtain ⟨g, off, rfl, hc0⟩ : ∃ g off, ao = some ⟨g, off, none⟩ ∧ w.cell? ⟨g, off + j, none⟩ = some (.int .i64 ((j : Int) + 1)) := by
        rcases HCS.out with h | ⟨g, off, rfl, hc⟩
        · have := rise_len N; rw [h] at this; simp at this; omega
        · exact ⟨g, off, rfl, by rw [hc j (by rw [rise_len]; exact hjn), List.getD, rise_get hjn]; rfl⟩
      have hcell := HJ.out.2.2.1.cell hc0 (by simp)
      have c8 := HJ.out.2.1.cell 8 _ rfl
      have hlk := lookNil ((j : Int) + 1) wr
      obtain ⟨es, clock, hm⟩ := HJ.out.1.map
      obtain ⟨W3, hup, hm3, hu3, hsz3⟩ := (hm.keep (Upd.alloc [] wr (.cells #[.int .i64 0, .int .i64 0, .bool false, .int .i64 0, .int .i64 0, .int .i64 0, .pointer none] 56)) (by simp)).add wr.heap.size
      have hml := hm.at_.lt
      have hne := bmap_ne HJ.out.2.1 hm.at_
      have HK3 : Hid (KAt w.heap.size W3 m (j + 1) (upd B j wr.heap.size) ∧ BlockAt W3 b 48 (nilCells t) ∧ Upd [] w W3 ∧ w.heap.size ≤ m) := Lib.hid (by
        have hua := Upd.alloc [] wr (.cells #[.int .i64 0, .int .i64 0, .bool false, .int .i64 0, .int .i64 0, .int .i64 0, .pointer none] 56)
        have hnew : BlockAt (wr.alloc (.cells #[.int .i64 0, .int .i64 0, .bool false, .int .i64 0, .int .i64 0, .int .i64 0, .pointer none] 56)) wr.heap.size 56 zeroE.cells := BlockAt.new wr 56 zeroE.cells
        have hws := HJ.out.2.2.1.size
        refine ⟨⟨hm3, fun i hi => ?_, fun i k hi hk hik => ?_, fun i hi => ?_⟩, (HJ.out.2.1.keep hua (by simp)).keep hu3 (by simp; exact hne), (HJ.out.2.2.1.trans hua).trans' hu3 (by simp; exact HJ.out.2.2.2), HJ.out.2.2.2⟩
        · by_cases e : i = j
          · subst e; rw [upd_same]; exact hnew.keep hu3 (by simp; omega)
          · rw [upd_other _ _ e]
            have he := HJ.out.1.ends i (by omega)
            exact (he.keep hua (by simp)).keep hu3 (by simp; exact bmap_ne he hm.at_)
        · by_cases e : i = j
          · subst e
            by_cases e2 : k = i
            · exact e2.symm
            · rw [upd_same, upd_other _ _ e2] at hik
              have := (HJ.out.1.ends k (by omega)).lt; omega
          · rw [upd_other _ _ e] at hik
            by_cases e2 : k = j
            · subst e2
              rw [upd_same] at hik
              have := (HJ.out.1.ends i (by omega)).lt; omega
            · rw [upd_other _ _ e2] at hik
              exact HJ.out.1.inj i k (by omega) (by omega) hik
        · by_cases e : i = j
          · subst e; rw [upd_same]; exact hws
          · rw [upd_other _ _ e]; exact HJ.out.1.low i (by omega))
      have hbl2 := HJ.out.2.1.lt
      have j0 : (0 : Int) ≤ j := by omega
      have j1 : (j : Int) < N := by omega
      have hne8 : ¬ b = wr.heap.size := by omega
      clear hm hm3 hu3 hsz3 hne hc0 hj
      go_wp2_with fail
      go_roundw
      case rel => exact ⟨j + 1, _, by omega, by go_num, HK3⟩
      case measure => simp [intOf] <;> omega
    · obtain rfl : j = N := by omega
      have hb8 := HJ.out.2.1.free 8
      have c8 := HJ.out.2.1.cell 8 _ rfl
      clear hjn hj
      go_wp2_with fail
      go_end0
      have hu : Upd [b] wr (wr.setCell ⟨b, 8, none⟩ (.map (some m))) := Upd.setCell' _ _ _ (by simp)
      have hb2 := HJ.out.2.1.set 8 (.map (some m))
      obtain ⟨es, clock, hm⟩ := HJ.out.1.map
      have hws := HJ.out.2.2.1.size
      refine ⟨m, B, rfl, ⟨hb2, ⟨es, clock, hm.keep hu (by simp; exact (bmap_ne HJ.out.2.1 hm.at_).symm)⟩, fun i hi => (HJ.out.1.ends i hi).keep hu (by simp; exact btype_ne (HJ.out.1.ends i hi) HJ.out.2.1 (by decide)), fun i hi sb sm l h => (by cases h), HJ.out.1.inj, fun i k hi hk hik sb sm l sb' sm' l' h => (by cases h), ⟨hbase, fun i hi => by have := HJ.out.1.low i hi; omega⟩⟩, (HJ.out.2.2.1.below (by omega) (by simp)).trans (hu.below (by omega) (by simpa using hbase))⟩
def NewPost (t : Wt) (N : Nat) (w : World) (e : Ending) (w' : World) : Prop := ∃ b m B, e = .returned (.pointer (some ⟨b, 0, none⟩)) ∧ GAt w.heap.size w' b t 0 m N B (fun _ => zeroE) ∧ Below w.heap.size w w'
set_option maxHeartbeats 1000000 in
theorem new_any (t : Wt) (v : Value) (N : Nat) (w : World) (hv : IntsIn w v (rise N)) (hN : (N : Int) ≤ 1000) :
    Calls Try.prog 8 #[t.val, v] w (NewPost t N w) := by
  have HV := Lib.hid hv
  have HW2 : Hid (∃ W G, W = (w.alloc (.cells #[.int .i64 t.errors, .int .i64 t.window, .int .i64 t.dev, .int .i64 t.slow, .int .i64 t.share, .int .i64 t.base, .int .i64 t.top] 24)).alloc (.cells #[.int .i64 t.errors, .int .i64 t.window, .int .i64 t.dev, .int .i64 t.slow, .int .i64 t.share, .int .i64 t.base, .int .i64 t.top, .int .i64 0, .map none] 48) ∧ G = w.heap.size + 1 ∧ BlockAt W G 48 (nilCells t) ∧ Upd [] w W ∧ w.heap.size ≤ G) := Lib.hid
    ⟨_, _, rfl, rfl, by simpa [nilCells] using BlockAt.new (w.alloc (.cells #[.int .i64 t.errors, .int .i64 t.window, .int .i64 t.dev, .int .i64 t.slow, .int .i64 t.share, .int .i64 t.base, .int .i64 t.top] 24)) 48 [.int .i64 t.errors, .int .i64 t.window, .int .i64 t.dev, .int .i64 t.slow, .int .i64 t.share, .int .i64 t.base, .int .i64 t.top, .int .i64 0, .map none], (Upd.alloc [] w _).trans (Upd.alloc [] _ _), by omega⟩
  unfold Wt.val
  clear hv
  go_enter Try.func8, Try.ntmps8
  go_wp2_with fail
  obtain ⟨W, G, hW, hG, hb, hu, hlo⟩ := HW2.out
  rw [← hG]
  rw [← hW]
  have CK := Lib.hid (keep_any w.heap.size G t v N W hb hlo (HV.out.keep hu (by simp)) hN)
  have HU := Lib.hid hu
  clear HW2 hW hG hb hu hlo hN
  refine CK.out.mono ?_
  rintro e w' ⟨m, B, rfl, hg, hbel⟩
  have HF := Lib.hid (show NewPost t N w (.returned (.pointer (some ⟨G, 0, none⟩))) w' from ⟨G, m, B, rfl, hg, (HU.out.below (Nat.le_refl _) (by simp)).trans hbel⟩)
  clear hg hbel CK
  go_wp2_with fail
  go_ret
  exact HF.out
end Go.Proofs.Ytfmgcnmikopgeaa
