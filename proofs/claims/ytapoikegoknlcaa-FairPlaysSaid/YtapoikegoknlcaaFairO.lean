/- Layer 22: keys: sorted, one deleted, the first above another. -/
import Derived.Test.YtapoikegoknlcaaFairN
import Derived.Test.YtapoikegoknlcaaShelf
namespace Go.Proofs.Ytapoikegoknlcaa
open Go.RowKit
theorem putRow_heap (w : World) (g : Nat) (d : Array Int) (cur : Array Value) (e : TypeId) (fr : Nat × Nat) (h : w.heap[g]? = some (.cells cur e fr)) :
    (Sort.putRow (Value.int .i64) w g 0 d).heap[g]? = some (.cells (Sort.putCells (Value.int .i64) 0 d cur) e fr) := by
  have hlt := lt_of_some h
  have h' : w.heap[g] = .cells cur e fr := by simpa [Array.getElem?_eq_getElem hlt] using h
  show (w.heap.modify g _)[g]? = _
  rw [Array.getElem?_eq_getElem (by simpa using hlt), Array.getElem_modify_self, h']
  rfl
theorem putRow_upd (w : World) (g : Nat) (d : Array Int) : Upd [g] w (Sort.putRow (Value.int .i64) w g 0 d) := by
  refine ⟨rfl, rfl, rfl, by simp, fun k hk hs => ?_⟩
  show (w.heap.modify g _)[k]? = _
  rw [Array.getElem?_modify, if_neg (by intro e; subst e; simp at hs)]
theorem ahead_upd (w : World) (n : Nat) : Upd [] w (Sort.ahead w n) := ⟨rfl, rfl, rfl, Nat.le_refl _, fun _ _ _ => rfl⟩
theorem grow_upd (w : World) (os : Array Obj) : Upd [] w (Sort.grow w os) := ⟨rfl, rfl, rfl, by simp, fun k hk _ => Sort.heap_grow_old w os hk⟩
theorem putCells_take {cur : Array Value} {zs : List Int} {m : Nat} (hm : m ≤ zs.length) (hc : zs.length ≤ cur.size) : (Sort.putCells (Value.int .i64) 0 zs.toArray cur).toList.take m = (zs.take m).map (Value.int .i64) := by
  apply List.ext_getElem?
  intro k
  rw [List.getElem?_take]
  simp only [List.getElem?_map, List.getElem?_take]
  by_cases hk : k < m
  · rw [if_pos hk, if_pos hk]
    have h1 : k < cur.size := by omega
    have h2 : k < zs.length := by omega
    rw [Array.getElem?_toList]
    unfold Sort.putCells
    rw [Array.getElem?_mapIdx, Array.getElem?_eq_getElem h1]
    simp [h2]
  · rw [if_neg hk, if_neg hk]; rfl
theorem OwnInts.holds {base : Nat} {w : World} {v : Value} {zs : List Int} (h : OwnInts base w v zs) {g cap : Nat} (hv : v = .slice (some ⟨g, 0, none⟩) zs.length cap) : Sort.Holds (Value.int .i64) w g 0 zs.toArray := by
  rcases h.2 with ⟨h1, -⟩ | ⟨g', cap', cur, hv', hb, hg, hn, hm, hs, ht⟩
  · rw [hv] at h1; cases h1
  · rw [hv] at hv'; cases hv'
    intro j hj
    have hj' : j < zs.length := by simpa using hj
    refine ⟨?_, by simp [World.frozen?, hg]⟩
    have := h.cells (g := g) (by rw [hv]; rfl) j (.int .i64 zs[j]) (by simp [hj'])
    rw [Addr.add_lit] at this
    rw [this]
    simp [hj']
theorem OwnInts.put {base : Nat} {w : World} {v : Value} {zs ys : List Int} (h : OwnInts base w v zs) {g cap : Nat} (hv : v = .slice (some ⟨g, 0, none⟩) zs.length cap) (n : Nat) (os : Array Obj) (hl : ys.length = zs.length) {m : Nat} (hm : m ≤ zs.length) :
    OwnInts base (Sort.grow (Sort.putRow (Value.int .i64) (Sort.ahead w n) g 0 ys.toArray) os) (.slice (some ⟨g, 0, none⟩) m cap) (ys.take m) ∧ Upd [g] w (Sort.grow (Sort.putRow (Value.int .i64) (Sort.ahead w n) g 0 ys.toArray) os) := by
  rcases h.2 with ⟨h1, -⟩ | ⟨g', cap', cur, hv', hb, hg, hn, hmx, hs, ht⟩
  · rw [hv] at h1; cases h1
  · rw [hv] at hv'; cases hv'
    have hlt := lt_of_some hg
    have hh : (Sort.grow (Sort.putRow (Value.int .i64) (Sort.ahead w n) g 0 ys.toArray) os).heap[g]? = some (.cells (Sort.putCells (Value.int .i64) 0 ys.toArray cur) 3 (0, 0)) := by
      rw [Sort.heap_grow_old _ _ (by simpa using hlt)]
      exact putRow_heap _ _ _ _ _ _ hg
    refine ⟨⟨by simp, .inr ⟨g, cap, _, by rw [List.length_take]; congr 1; omega, hb, hh, by rw [List.length_take]; omega, hmx, by simpa [Sort.putCells] using hs, ?_⟩⟩, ((ahead_upd w n).nil_trans (putRow_upd _ g _)).trans_nil (grow_upd _ os)⟩
    rw [Nat.mul_one, List.length_take, show min m ys.length = m by omega]
    exact putCells_take (by omega) (by omega)
/-- slices.Sort of keys of the call's own. -/
theorem sortK_any (base : Nat) (v : Value) (zs : List Int) (w : World) (h : OwnInts base w v zs) (hl : (zs.length : Int) ≤ 1000000) :
    Calls Try.prog 38 #[v] w fun e w' => e = .returned (.tuple #[]) ∧ OwnInts base w' v (zs.mergeSort fun x y => decide (x ≤ y)) ∧ Upd v.ownBlock.toList w w' := by
  rcases h.read with ⟨rfl, rfl⟩ | ⟨g, cap, hv, -, hg, hlc, hcm, -⟩
  · refine (Try.slices_Sort_int_none none 0 w).mono ?_
    rintro e w' ⟨rfl, rfl⟩
    exact ⟨rfl, by simpa using OwnInts.nil base _, Upd.refl _ _⟩
  · subst hv
    refine (Try.slices_Sort_int g 0 cap zs w (h.holds rfl) hg (by omega)).mono ?_
    rintro e w' ⟨rfl, n, os, rfl⟩
    obtain ⟨h1, h2⟩ := h.put rfl n os (ys := zs.mergeSort fun x y => decide (x ≤ y)) (List.length_mergeSort _) (Nat.le_refl _)
    refine ⟨rfl, ?_, by simpa [Value.ownBlock] using h2⟩
    rwa [List.take_of_length_le (by rw [List.length_mergeSort]; exact Nat.le_refl _)] at h1
theorem delK_any (base i : Nat) (v : Value) (zs : List Int) (z : Int) (w : World) (h : OwnInts base w v zs) (hi : zs[i]? = some z) :
    Calls Try.prog 41 #[v, .int .i64 i, .int .i64 ((i : Int) + 1)] w fun e w' => ∃ v', e = .returned v' ∧ OwnInts base w' v' (zs.eraseIdx i) ∧ v'.ownBlock = v.ownBlock ∧ Upd v.ownBlock.toList w w' := by
  obtain ⟨hil, -⟩ := List.getElem?_eq_some_iff.1 hi
  rcases h.read with ⟨rfl, rfl⟩ | ⟨g, cap, hv, -, hg, hlc, hcm, -⟩
  · simp at hi
  · subst hv
    refine (Try.slices_Delete_int g 0 cap i (i + 1) zs w (h.holds rfl) hlc (by unfold maxLen at hcm; omega) (by omega) (by omega)).mono ?_
    rintro e w' ⟨rfl, n, rfl⟩
    have hlen : (zs.take i ++ zs.drop (i + 1) ++ List.replicate (i + 1 - i) 0).length = zs.length := by simp; omega
    obtain ⟨h1, h2⟩ := h.put rfl n #[] hlen (m := zs.length - 1) (by omega)
    rw [Sort.grow_empty] at h1 h2
    have he : (zs.take i ++ zs.drop (i + 1) ++ List.replicate (i + 1 - i) 0).take (zs.length - 1) = zs.eraseIdx i := by
      rw [← List.eraseIdx_eq_take_drop_succ]
      have : (zs.eraseIdx i).length = zs.length - 1 := by rw [List.length_eraseIdx, if_pos hil]
      rw [← this, List.take_left']
      rfl
    rw [he] at h1
    exact ⟨_, by rw [show zs.length - (i + 1 - i) = zs.length - 1 by omega], h1, rfl, by simpa [Value.ownBlock] using h2⟩
theorem roundF_any (f last : Int) (s b o : Nat) (w : World) (hs : w.cell? ⟨s, 0, none⟩ = some (.pointer (some ⟨b, o, none⟩))) (hl : w.cell? ⟨b, o + 2, none⟩ = some (.int .i64 last)) :
    Calls Try.prog 40 #[.int .i64 f, .pointer (some ⟨s, 0, none⟩)] w fun e w' => e = .returned (.bool (decide (last < f))) ∧ w = w' := by
  go_enter Try.func40, Try.ntmps40
  go_wp2
  go_ret
  exact ⟨rfl, rfl⟩
/-- The first key above the last one. -/
def IdxK (K : List Int) (last a : Int) : Prop := (a = -1 ∧ ∀ k ∈ K, ¬ last < k) ∨ ∃ i : Nat, a = i ∧ (∃ f, K[i]? = some f ∧ last < f) ∧ ∀ (j : Nat) (y : Int), j < i → K[j]? = some y → y ≤ last
def IdxKPost (K : List Int) (last : Int) (w : World) (e : Ending) (w' : World) : Prop := (∃ a : Int, e = .returned (.int .i64 a) ∧ IdxK K last a) ∧ w = w'
set_option maxHeartbeats 1000000 in
theorem idxK_any (base : Nat) (v : Value) (K : List Int) (last : Int) (s b o : Nat) (w : World) (h : OwnInts base w v K) (hl : (K.length : Int) ≤ 1000000) (hs : w.cell? ⟨s, 0, none⟩ = some (.pointer (some ⟨b, o, none⟩))) (hls : w.cell? ⟨b, o + 2, none⟩ = some (.int .i64 last)) :
    Calls Try.prog 39 #[v, .func (Fn.func 40) #[] #[.pointer (some ⟨s, 0, none⟩)]] w (IdxKPost K last w) := by
  have HC := Lib.hid (fun f => roundF_any f last s b o w hs hls)
  obtain ⟨n, hn⟩ : ∃ n, K.length = n := ⟨_, rfl⟩
  have HN := Lib.hid hn
  have hst : Hid (∀ (j : Nat) (y : Int), j < 0 → K[j]? = some y → y ≤ last) := Lib.hid (fun j y h => by omega)
  obtain ⟨ao, cap, rfl, hread⟩ : ∃ ao cap, v = .slice ao n cap ∧ (0 < n → ∃ g, ao = some ⟨g, 0, none⟩ ∧ n ≤ cap ∧ cap ≤ maxLen ∧ ∀ j z, K[j]? = some z → w.cell? ⟨g, j, none⟩ = some (.int .i64 z)) := by
    rcases h.read with ⟨rfl, rfl⟩ | ⟨g, cap, hv, -, -, hlc, hcm, hc⟩
    · simp at hn; subst hn; exact ⟨none, 0, rfl, fun h => by omega⟩
    · exact ⟨_, cap, by rw [hv, hn], fun _ => ⟨g, rfl, by omega, hcm, hc⟩⟩
  have HR := Lib.hid hread
  rw [hn] at hl
  clear h hs hls hn hread
  go_enter Try.func39, Try.ntmps39
  go_wp2_with fail
  go_loop [8] (fun i => ∃ j : Nat, (j : Int) ≤ n ∧ i = .int .i64 j ∧ Hid (∀ (i : Nat) (y : Int), i < j → K[i]? = some y → y ≤ last)) (fun i => n - (intOf i).toNat)
  case atStart => exact ⟨0, by omega, rfl, hst⟩
  case round =>
    obtain ⟨j, hj, rfl, HF⟩ := hrel
    clear hst
    by_cases hlt : (j : Int) < n
    · obtain ⟨x, hx⟩ : ∃ x, K[j]? = some x := ⟨K[j]'(by rw [HN.out]; omega), by simp⟩
      obtain ⟨g, rfl, hnc, hcm, hc⟩ := HR.out (by omega)
      have c0 := hc j x hx
      have j0 : (0 : Int) ≤ j := by omega
      have CF := Lib.hid (HC.out x)
      by_cases hf : last < x
      · have hd : decide (last < x) = true := by simpa using hf
        rw [hd] at CF
        have HI : Hid (IdxK K last j) := Lib.hid (.inr ⟨j, rfl, ⟨x, hx, hf⟩, HF.out⟩)
        clear hc hf hd hx
        go_wp2_with fail
        refine CF.out.mono ?_
        rintro e w1 ⟨rfl, rfl⟩
        go_wp2_with fail
        go_ret
        exact ⟨⟨j, rfl, HI.out⟩, rfl⟩
      · have hd : decide (last < x) = false := by simpa using hf
        rw [hd] at CF
        have HFN : Hid (∀ (i : Nat) (y : Int), i < j + 1 → K[i]? = some y → y ≤ last) := Lib.hid (fun i y hi hy => by
          rcases (show i < j ∨ i = j by omega) with h | rfl
          · exact HF.out i y h hy
          · rw [hx] at hy; cases hy; omega)
        clear hc hf hd hx
        go_wp2_with fail
        refine CF.out.mono ?_
        rintro e w1 ⟨rfl, rfl⟩
        go_wp2_with fail
        go_round
        case rel => exact ⟨j + 1, by omega, by go_num, HFN⟩
        case measure => simp [intOf] <;> omega
    · have HI : Hid (IdxK K last (-1)) := Lib.hid (.inl ⟨rfl, fun k hk => by
        obtain ⟨i, hi⟩ := List.getElem?_of_mem hk
        have := HF.out i k (by have := (List.getElem?_eq_some_iff.1 hi).1; have := HN.out; omega) hi
        omega⟩)
      go_wp2_with fail
      go_ret
      exact ⟨⟨-1, rfl, HI.out⟩, rfl⟩
theorem AtOk.of {K : List Int} {last a : Int} (h : IdxK K last a) : AtOk K true last a := by
  rcases h with ⟨rfl, h⟩ | ⟨i, rfl, h1, h2⟩
  · exact .inl ⟨.inl (by omega), fun k hk hh => h k hk hh.2⟩
  · exact .inr ⟨rfl, i, rfl, h1, h2⟩
end Go.Proofs.Ytapoikegoknlcaa
