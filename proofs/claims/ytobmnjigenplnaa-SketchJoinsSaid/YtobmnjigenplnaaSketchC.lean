/- Layer 13, the references: sorted. -/
import Derived.Test.YtobmnjigenplnaaSketchB
namespace Go.Proofs.Ytobmnjigenplnaa
open Go.RowKit
def nats (l : List Nat) : List Int := l.map (fun n : Nat => (n : Int))
theorem nats_length (l : List Nat) : (nats l).length = l.length := by simp [nats]
theorem nats_get {l : List Nat} {j n : Nat} (h : l[j]? = some n) : (nats l)[j]? = some (n : Int) := by simp [nats, h]
theorem nats_range {l : List Nat} (h : ∀ n ∈ l, n < 4611686018427387904) : ∀ z ∈ nats l, -9223372036854775808 ≤ z ∧ z ≤ 9223372036854775807 := by
  intro z hz
  simp only [nats, List.mem_map] at hz
  obtain ⟨n, hn, rfl⟩ := hz
  have := h n hn
  omega
theorem nats_append (l m : List Nat) : nats (l ++ m) = nats l ++ nats m := by simp [nats]
/-- One more into its place. -/
theorem insert_sorted {sl : List Nat} {x j : Nat} (hs : sl.Pairwise (· ≤ ·)) (hj : j ≤ sl.length) (hgt : ∀ m y, j ≤ m → sl[m]? = some y → x < y) (hle : j = 0 ∨ ∃ y, sl[j - 1]? = some y ∧ y ≤ x) :
    (sl.take j ++ [x] ++ sl.drop j).Pairwise (· ≤ ·) := by
  have htk : ∀ y ∈ sl.take j, y ≤ x := by
    intro y hy
    rcases hle with rfl | ⟨y0, hy0, hyx⟩
    · simp at hy
    · obtain ⟨i, hi⟩ := List.getElem?_of_mem hy
      rw [List.getElem?_take] at hi
      split at hi
      · rename_i hij
        by_cases he : i = j - 1
        · subst he; rw [hi] at hy0; simp at hy0; omega
        · obtain ⟨hl1, hl2⟩ := List.getElem?_eq_some_iff.1 hi
          obtain ⟨hl3, hl4⟩ := List.getElem?_eq_some_iff.1 hy0
          have := List.pairwise_iff_getElem.1 hs i (j - 1) hl1 hl3 (by omega)
          omega
      · cases hi
  have hdr : ∀ y ∈ sl.drop j, x < y := by
    intro y hy
    obtain ⟨i, hi⟩ := List.getElem?_of_mem hy
    rw [List.getElem?_drop] at hi
    exact hgt (j + i) y (by omega) hi
  rw [List.append_assoc, List.pairwise_append]
  refine ⟨List.Pairwise.sublist (List.take_sublist _ _) hs, ?_, ?_⟩
  · rw [List.singleton_append, List.pairwise_cons]
    exact ⟨fun y hy => Nat.le_of_lt (hdr y hy), List.Pairwise.sublist (List.drop_sublist _ _) hs⟩
  · intro a ha b hb
    have h1 := htk a ha
    simp only [List.singleton_append, List.mem_cons] at hb
    rcases hb with rfl | hb
    · exact h1
    · have := hdr b hb; omega
theorem insert_perm {sl l : List Nat} {x j : Nat} (h : sl.Perm l) : (sl.take j ++ [x] ++ sl.drop j).Perm (l ++ [x]) := by
  have h1 : (sl.take j ++ [x] ++ sl.drop j).Perm (x :: sl) := by
    have : (sl.take j ++ [x] ++ sl.drop j).Perm ([x] ++ (sl.take j ++ sl.drop j)) := by
      rw [← List.append_assoc]
      exact (List.perm_append_comm).append_right _
    simpa using this
  exact h1.trans ((List.Perm.cons x h).trans (by simpa using (List.perm_append_comm (l₁ := [x]) (l₂ := l))))
theorem slice_le (w : World) {g cap len : Nat} {zs : List Int} (hlen : zs.length = len) (hc : ∀ j z, zs[j]? = some z → w.cell? ⟨g, j, none⟩ = some (.int .i64 z)) {k : Nat} (hk : k ≤ len) :
    RowIn w 1 (some ⟨g, 0, none⟩) k cap ((zs.take k).map (Value.int .i64)) := by
  refine ⟨by simp; omega, by simp, fun ad had j u hu => ?_⟩
  obtain rfl := Option.some.inj had
  rw [Addr.add_lit, Nat.zero_add]
  simp only [List.getElem?_map, List.getElem?_take] at hu
  split at hu
  · cases hz : zs[j]? with
    | none => simp [hz] at hu
    | some z => simp [hz] at hu; subst hu; exact hc j z hz
  · cases hu
theorem slice_ge (w : World) {g cap len : Nat} {zs : List Int} (hlen : zs.length = len) (hcap : len ≤ cap) (hc : ∀ j z, zs[j]? = some z → w.cell? ⟨g, j, none⟩ = some (.int .i64 z)) {k : Nat} (hk : k ≤ len) :
    RowIn w 1 (if cap = k then some ⟨g, 0, none⟩ else some ⟨g, k, none⟩) (len - k) (cap - k) ((zs.drop k).map (Value.int .i64)) := by
  refine ⟨by simp; omega, by split <;> simp, fun ad had j u hu => ?_⟩
  have hj : j < len - k := by
    have := (List.getElem?_eq_some_iff.1 hu).1
    simp at this; omega
  rw [if_neg (by omega)] at had
  obtain rfl := Option.some.inj had
  rw [Addr.add_lit]
  simp only [List.getElem?_map, List.getElem?_drop] at hu
  cases hz : zs[k + j]? with
  | none => simp [hz] at hu
  | some z => simp [hz] at hu; subst hu; exact hc _ _ hz
theorem slice_ge_lt (w : World) {g cap len : Nat} {zs : List Int} (hlen : zs.length = len) (hcap : len ≤ cap) (hc : ∀ j z, zs[j]? = some z → w.cell? ⟨g, j, none⟩ = some (.int .i64 z)) {k : Nat} (hk : k ≤ len) (hlt : k < cap) :
    RowIn w 1 (some ⟨g, k, none⟩) (len - k) (cap - k) ((zs.drop k).map (Value.int .i64)) := by
  have := slice_ge w hlen hcap hc hk
  rwa [if_neg (by omega)] at this
theorem own_insert {B : Nat} {w : World} {v : Value} {sl : List Nat} {x j n : Nat} {xs : List Value} (hj : j ≤ sl.length) (hn : n = sl.length + 1) (h : w.ownsRow B 3 1 v n xs)
    (hx : xs = (sl.take j ++ [x] ++ sl.drop j).map (fun m : Nat => Value.int .i64 (m : Int))) : OwnInts B w v (nats (sl.take j ++ [x] ++ sl.drop j)) := by
  refine OwnInts.of h ?_ ?_
  · rw [nats_length, hn]; simp; omega
  · rw [hx]; simp [nats, Function.comp_def]
theorem ownsRow_base {w : World} {B B' : Nat} {e : TypeId} {size : Nat} {v : Value} {n : Nat} {xs : List Value} (h : w.ownsRow B e size v n xs) (hB : B' ≤ B) : w.ownsRow B' e size v n xs := by
  refine ⟨h.1, ?_⟩
  rcases h.2 with hn | ⟨g, cap, cur, rfl, hb, rest⟩
  · exact .inl hn
  · exact .inr ⟨g, cap, cur, rfl, Nat.le_trans hB hb, rest⟩
theorem take_snoc_of' {α : Type} {l : List α} {k : Nat} {z : α} (h : l[k]? = some z) : l.take (k + 1) = l.take k ++ [z] := by
  rw [List.take_add_one, h]; rfl
theorem RowIn.zero (w : World) (a : Addr) (n cap : Nat) (h : n = 0) : RowIn w 1 (some a) n cap [] := ⟨by simp [h], by simp, by simp⟩
theorem own_insert_nil {sl : List Nat} {x : Nat} (h : sl = []) : [Value.int .i64 (x : Int)] = (sl.take 0 ++ [x] ++ sl.drop 0).map (fun m : Nat => Value.int .i64 (m : Int)) := by subst h; rfl
def SortedPost (l : List Nat) (w : World) (e : Ending) (w' : World) : Prop := ∃ v sl, e = .returned v ∧ sl.Perm l ∧ sl.Pairwise (· ≤ ·) ∧ OwnInts w.heap.size w' v (nats sl) ∧ Below w.heap.size w w'
set_option maxHeartbeats 1000000 in
theorem sorted_any (v : Value) (l : List Nat) (w : World) (h : IntsIn w v (nats l)) (hlen : l.length ≤ 1000) :
    Calls Try.prog 30 #[v] w (SortedPost l w) := by
  rcases h.read with ⟨h0, a, cap, rfl⟩ | ⟨b, off, cap, rfl, hb, -, hr, hc⟩
  · have : l = [] := by simpa [nats] using h0
    subst this
    go_enter Try.func30, Try.ntmps30
    go_wp2_with fail
    refine wp_loop_rounds 1 ?_
    rw [rounds_succ]
    go_wp2
    go_ret
    exact ⟨_, [], rfl, List.Perm.refl _, by simp, OwnInts.nil _ _, Below.refl _ _⟩
  · rw [nats_length] at *
    clear h
    go_enter Try.func30, Try.ntmps30
    go_wp2_with fail
    go_loopw [3, 4] (fun o i wr => ∃ (k : Nat) (sl : List Nat), k ≤ l.length ∧ i = .int .i64 k ∧ sl.Perm (l.take k) ∧ sl.Pairwise (· ≤ ·) ∧ OwnInts w.heap.size wr o (nats sl) ∧ Below w.heap.size w wr) (fun _ i _ => l.length - (intOf i).toNat)
    case atStart => exact ⟨0, [], by omega, rfl, List.Perm.refl _, by simp, OwnInts.nil _ _, Below.refl _ _⟩
    case round =>
      obtain ⟨k, sl, hk, rfl, hp, hs, ho, hbw⟩ := hrel
      have hsl : sl.length = k := by rw [hp.length_eq]; simp; omega
      by_cases hlt : k < l.length
      · obtain ⟨x, hx⟩ : ∃ x, l[k]? = some x := ⟨l[k], by simp [hlt]⟩
        have hxc : wr.cell? ⟨b, off + k, none⟩ = some (.int .i64 (x : Int)) := by rw [hbw.cell (p := ⟨b, off + k, none⟩) hb]; exact hc k x (nats_get hx)
        rcases ho.read with ⟨hn, rfl⟩ | ⟨g, gcap, rfl, hg0, hg1, hgc, hgm, hgr⟩
        · have hsn : sl = [] := by simpa [nats] using hn
          subst hsn
          have hk0 : k = 0 := by simpa using hsl.symm
          subst hk0
          have HX := Lib.hid hx
          have hbs := hbw.size
          clear hp hs ho hsl hx hn
          go_wp2_with fail
          obtain ⟨wo, rfl⟩ : ∃ wo : World, wo = wr := ⟨_, rfl⟩
          refine wp_loop_rounds 1 ?_
          rw [rounds_succ]
          go_wp2_with (first | (at_builtin; refine wpList_append_view wo rfl (.tmp 29) (.tmp 32) 26 rfl w.heap.size 3 1 8 Try.infoInt (by kernel_rfl) rfl (by decide) (.slice none 0 0) 0 [] rfl (World.ownsRow_nil _ _ _ _) none 0 0 [] rfl (RowIn.empty _ _ _ _ (fun _ => rfl)) (by simp) (by unfold maxLen; omega) (by omega) hbs ?_))
          intro v1 w1 hown1 hup1
          have hb1 : Below w.heap.size w w1 := hbw.trans (hup1.below hbs (by simp [Value.ownBlock]))
          have hxc1 : w1.cell? ⟨b, off, none⟩ = some (.int .i64 (x : Int)) := by rw [hb1.cell (p := ⟨b, off, none⟩) hb]; exact hc 0 x (nats_get HX.out)
          clear hup1
          go_wp2_with (at_builtin; refine wpList_append_one w1 rfl (.tmp 34) (.tmp 39) 26 rfl w.heap.size 3 1 8 Try.infoInt (by kernel_rfl) rfl (by decide) v1 0 _ rfl hown1 [Value.int .i64 (x : Int)] rfl rfl rfl (by unfold maxLen; omega) (by omega) hb1.size ?_)
          intro v2 w2 hown2 hup2
          have hb2 : Below w.heap.size w w2 := below_own hb1 hown1 hb1.size hup2
          clear hup2 hxc1
          go_wp2_with (at_builtin; refine wpList_append_view w2 rfl (.tmp 41) (.tmp 44) 26 rfl w.heap.size 3 1 8 Try.infoInt (by kernel_rfl) rfl (by decide) v2 1 _ rfl hown2 none 0 0 [] rfl (RowIn.empty _ _ _ _ (fun _ => rfl)) (by simp) (by unfold maxLen; omega) (by omega) hb2.size ?_)
          intro v3 w3 hown3 hup3
          have hb3 : Below w.heap.size w w3 := below_own hb2 hown2 hb2.size hup3
          have hfin := Lib.hid (OwnInts.of (zs := nats [x]) hown3 (by simp [nats]) (by simp [nats]))
          clear hown3 hup3 hown2 hown1
          go_wp2_with fail
          go_roundw
          case rel => exact ⟨1, [x], by omega, by go_num, by rw [take_snoc_of' HX.out]; simp, by simp, hfin.out, hb3⟩
          case measure => simp [intOf]; omega
        · rw [nats_length] at hgc ⊢
          have HP := Lib.hid hp
          have HS := Lib.hid hs
          have HX := Lib.hid hx
          clear hp hs hx ho
          subst hsl
          have hbs := hbw.size
          go_wp2_with fail
          obtain ⟨wo, rfl⟩ : ∃ wo : World, wo = wr := ⟨_, rfl⟩
          go_loopw [5] (fun q w5 => ∃ (j : Nat) (n : Nat), q = .int .i64 j ∧ j ≤ sl.length ∧ (∀ m y, j ≤ m → sl[m]? = some y → x < y) ∧ w5 = wo.drewN n) (fun q _ => (intOf q).toNat)
          case atStart => exact ⟨sl.length, 0, rfl, Nat.le_refl _, fun m y hm hy => by have := (List.getElem?_eq_some_iff.1 hy).1; omega, rfl⟩
          case round =>
            obtain ⟨j, n, rfl, hj, hgt, rfl⟩ := hrel
            have HG := Lib.hid hgt
            clear hgt
            by_cases hj0 : 0 < j
            · obtain ⟨y, hy⟩ : ∃ y, sl[j - 1]? = some y := ⟨sl[j - 1]'(by omega), List.getElem?_eq_getElem (by omega)⟩
              have hyc := hgr (j - 1) y (nats_get hy)
              have HY := Lib.hid hy
              clear hy
              by_cases hyx : y ≤ x
              · have hd : decide (y ≤ x) = true := by simpa using hyx
                go_wp2_with fail
                go_quiet (fail)
                have HLE : j = 0 ∨ ∃ y, sl[j - 1]? = some y ∧ y ≤ x := .inr ⟨y, HY.out, hyx⟩
                have HLE := Lib.hid HLE
                rcases Nat.lt_or_ge j gcap with hjc | hjc
                · have hb0 : Below wo.heap.size wo (wo.drewN (n + nq)) := ⟨rfl, rfl, rfl, Nat.le_refl _, fun _ _ => rfl⟩
                  go_wp2_with (at_builtin; refine wpList_append_view (wo.drewN (n + nq)) rfl (.tmp 29) (.tmp 32) 26 rfl wo.heap.size 3 1 8 Try.infoInt (by kernel_rfl) rfl (by decide) (.slice none 0 0) 0 [] rfl (World.ownsRow_nil _ _ _ _) (some ⟨g, 0, none⟩) j gcap (((nats sl).take j).map (Value.int .i64)) rfl (slice_le (wo.drewN (n + nq)) (nats_length sl) hgr (by omega)) (int_cells _ _) (by unfold maxLen; omega) (by omega) (Nat.le_refl _) ?_)
                  intro v1 w1 hown1 hup1
                  have hb1 : Below wo.heap.size wo w1 := hb0.trans (hup1.below (Nat.le_refl _) (by simp [Value.ownBlock]))
                  have hxc1 : w1.cell? ⟨b, off + sl.length, none⟩ = some (.int .i64 (x : Int)) := by rw [(hbw.trans (hb1.mono hbs)).cell (p := ⟨b, off + sl.length, none⟩) hb]; exact hc _ _ (nats_get HX.out)
                  clear hup1
                  go_wp2_with (at_builtin; refine wpList_append_one w1 rfl (.tmp 34) (.tmp 39) 26 rfl wo.heap.size 3 1 8 Try.infoInt (by kernel_rfl) rfl (by decide) v1 j _ rfl hown1 [Value.int .i64 (x : Int)] rfl rfl rfl (by unfold maxLen; omega) (by omega) hb1.size ?_)
                  intro v2 w2 hown2 hup2
                  have hb2 : Below wo.heap.size wo w2 := below_own hb1 hown1 hb1.size hup2
                  have hgr2 : ∀ m z, (nats sl)[m]? = some z → w2.cell? ⟨g, m, none⟩ = some (.int .i64 z) := fun m z hz => by rw [hb2.cell (p := ⟨g, m, none⟩) hg1]; exact hgr m z hz
                  clear hup2 hxc1
                  go_wp2_with (at_builtin; refine wpList_append_view w2 rfl (.tmp 41) (.tmp 44) 26 rfl wo.heap.size 3 1 8 Try.infoInt (by kernel_rfl) rfl (by decide) v2 (j + 1) _ rfl hown2 _ _ _ (((nats sl).drop j).map (Value.int .i64)) rfl (slice_ge_lt w2 (nats_length sl) hgc hgr2 (by omega) hjc) (int_cells _ _) (by unfold maxLen; omega) (by omega) hb2.size ?_)
                  intro v3 w3 hown3 hup3
                  have hb3 : Below w.heap.size w w3 := hbw.trans ((below_own hb2 hown2 hb2.size hup3).mono hbs)
                  have hins := insert_sorted (x := x) HS.out (j := j) (by omega) HG.out HLE.out
                  have hprm := insert_perm (x := x) (j := j) HP.out
                  have HIN := Lib.hid hins
                  have HPR := Lib.hid hprm
                  have hfin := Lib.hid (own_insert (x := x) (j := j) (by omega) (by omega) (ownsRow_base hown3 hbs) (by simp [nats, Function.comp_def]))
                  clear hins hprm hown3 hup3 hown2 hown1 hgr2
                  go_wp2_with fail
                  go_roundw
                  case rel => exact ⟨sl.length + 1, _, by omega, by go_num, by rw [take_snoc_of' HX.out]; exact HPR.out, HIN.out, hfin.out, hb3⟩
                  case measure => simp [intOf]; omega
                · obtain rfl : j = gcap := by omega
                  have hb0 : Below wo.heap.size wo (wo.drewN (n + nq)) := ⟨rfl, rfl, rfl, Nat.le_refl _, fun _ _ => rfl⟩
                  go_wp2_with (at_builtin; refine wpList_append_view (wo.drewN (n + nq)) rfl (.tmp 29) (.tmp 32) 26 rfl wo.heap.size 3 1 8 Try.infoInt (by kernel_rfl) rfl (by decide) (.slice none 0 0) 0 [] rfl (World.ownsRow_nil _ _ _ _) (some ⟨g, 0, none⟩) j j (((nats sl).take j).map (Value.int .i64)) rfl (slice_le (wo.drewN (n + nq)) (nats_length sl) hgr (by omega)) (int_cells _ _) (by unfold maxLen; omega) (by omega) (Nat.le_refl _) ?_)
                  intro v1 w1 hown1 hup1
                  have hb1 : Below wo.heap.size wo w1 := hb0.trans (hup1.below (Nat.le_refl _) (by simp [Value.ownBlock]))
                  have hxc1 : w1.cell? ⟨b, off + sl.length, none⟩ = some (.int .i64 (x : Int)) := by rw [(hbw.trans (hb1.mono hbs)).cell (p := ⟨b, off + sl.length, none⟩) hb]; exact hc _ _ (nats_get HX.out)
                  clear hup1
                  go_wp2_with (at_builtin; refine wpList_append_one w1 rfl (.tmp 34) (.tmp 39) 26 rfl wo.heap.size 3 1 8 Try.infoInt (by kernel_rfl) rfl (by decide) v1 j _ rfl hown1 [Value.int .i64 (x : Int)] rfl rfl rfl (by unfold maxLen; omega) (by omega) hb1.size ?_)
                  intro v2 w2 hown2 hup2
                  have hb2 : Below wo.heap.size wo w2 := below_own hb1 hown1 hb1.size hup2
                  have hgr2 : ∀ m z, (nats sl)[m]? = some z → w2.cell? ⟨g, m, none⟩ = some (.int .i64 z) := fun m z hz => by rw [hb2.cell (p := ⟨g, m, none⟩) hg1]; exact hgr m z hz
                  clear hup2 hxc1
                  go_wp2_with (at_builtin; refine wpList_append_view w2 rfl (.tmp 41) (.tmp 44) 26 rfl wo.heap.size 3 1 8 Try.infoInt (by kernel_rfl) rfl (by decide) v2 (j + 1) _ rfl hown2 _ _ _ [] rfl (RowIn.zero _ _ _ _ (by omega)) (by simp) (by unfold maxLen; omega) (by omega) hb2.size ?_)
                  intro v3 w3 hown3 hup3
                  have hb3 : Below w.heap.size w w3 := hbw.trans ((below_own hb2 hown2 hb2.size hup3).mono hbs)
                  have hins := insert_sorted (x := x) HS.out (j := j) (by omega) HG.out HLE.out
                  have hprm := insert_perm (x := x) (j := j) HP.out
                  have HIN := Lib.hid hins
                  have HPR := Lib.hid hprm
                  have hfin := Lib.hid (own_insert (x := x) (j := j) (by omega) (by omega) (ownsRow_base hown3 hbs) (by simp [nats, Function.comp_def]; omega))
                  clear hins hprm hown3 hup3 hown2 hown1 hgr2
                  go_wp2_with fail
                  go_roundw
                  case rel => exact ⟨sl.length + 1, _, by omega, by go_num, by rw [take_snoc_of' HX.out]; exact HPR.out, HIN.out, hfin.out, hb3⟩
                  case measure => simp [intOf]; omega
              · have hd : decide (y ≤ x) = false := by simpa using hyx
                go_wp2_with fail
                go_quiet (fail)
                go_wp2_with fail
                go_roundw
                case rel => exact ⟨j - 1, _, by rw [show ((j - 1 : Nat) : Int) = (j : Int) - 1 by omega], by omega, fun m z hm hz => by
                  by_cases hmj : m = j - 1
                  · subst hmj; rw [HY.out] at hz; simp at hz; omega
                  · exact HG.out m z (by omega) hz, rfl⟩
                case measure => simp [intOf]; exact Nat.sub_lt hj0 (by omega)
            · have : j = 0 := by omega
              subst this
              have HLE := Lib.hid (True.intro)
              rcases Nat.lt_or_ge 0 gcap with hjc | hjc
              · have hb0 : Below wo.heap.size wo (wo.drewN n) := ⟨rfl, rfl, rfl, Nat.le_refl _, fun _ _ => rfl⟩
                go_wp2_with (at_builtin; refine wpList_append_view (wo.drewN n) rfl (.tmp 29) (.tmp 32) 26 rfl wo.heap.size 3 1 8 Try.infoInt (by kernel_rfl) rfl (by decide) (.slice none 0 0) 0 [] rfl (World.ownsRow_nil _ _ _ _) (some ⟨g, 0, none⟩) 0 gcap (((nats sl).take 0).map (Value.int .i64)) rfl (slice_le (wo.drewN n) (nats_length sl) hgr (by omega)) (int_cells _ _) (by unfold maxLen; omega) (by omega) (Nat.le_refl _) ?_)
                intro v1 w1 hown1 hup1
                have hb1 : Below wo.heap.size wo w1 := hb0.trans (hup1.below (Nat.le_refl _) (by simp [Value.ownBlock]))
                have hxc1 : w1.cell? ⟨b, off + sl.length, none⟩ = some (.int .i64 (x : Int)) := by rw [(hbw.trans (hb1.mono hbs)).cell (p := ⟨b, off + sl.length, none⟩) hb]; exact hc _ _ (nats_get HX.out)
                clear hup1
                go_wp2_with (at_builtin; refine wpList_append_one w1 rfl (.tmp 34) (.tmp 39) 26 rfl wo.heap.size 3 1 8 Try.infoInt (by kernel_rfl) rfl (by decide) v1 0 _ rfl hown1 [Value.int .i64 (x : Int)] rfl rfl rfl (by unfold maxLen; omega) (by omega) hb1.size ?_)
                intro v2 w2 hown2 hup2
                have hb2 : Below wo.heap.size wo w2 := below_own hb1 hown1 hb1.size hup2
                have hgr2 : ∀ m z, (nats sl)[m]? = some z → w2.cell? ⟨g, m, none⟩ = some (.int .i64 z) := fun m z hz => by rw [hb2.cell (p := ⟨g, m, none⟩) hg1]; exact hgr m z hz
                clear hup2 hxc1
                go_wp2_with (at_builtin; refine wpList_append_view w2 rfl (.tmp 41) (.tmp 44) 26 rfl wo.heap.size 3 1 8 Try.infoInt (by kernel_rfl) rfl (by decide) v2 (0 + 1) _ rfl hown2 _ _ _ (((nats sl).drop 0).map (Value.int .i64)) rfl (slice_ge_lt w2 (nats_length sl) hgc hgr2 (by omega) hjc) (int_cells _ _) (by unfold maxLen; omega) (by omega) hb2.size ?_)
                intro v3 w3 hown3 hup3
                have hb3 : Below w.heap.size w w3 := hbw.trans ((below_own hb2 hown2 hb2.size hup3).mono hbs)
                have hins := insert_sorted (x := x) HS.out (j := 0) (by omega) HG.out (.inl rfl)
                have hprm := insert_perm (x := x) (j := 0) HP.out
                have HIN := Lib.hid hins
                have HPR := Lib.hid hprm
                have hfin := Lib.hid (own_insert (x := x) (j := 0) (by omega) (by omega) (ownsRow_base hown3 hbs) (by simp [nats, Function.comp_def]))
                clear hins hprm hown3 hup3 hown2 hown1 hgr2
                go_wp2_with fail
                go_roundw
                case rel => exact ⟨sl.length + 1, _, by omega, by go_num, by rw [take_snoc_of' HX.out]; exact HPR.out, HIN.out, hfin.out, hb3⟩
                case measure => simp [intOf]; omega
              · obtain rfl : gcap = 0 := by omega
                have hb0 : Below wo.heap.size wo (wo.drewN n) := ⟨rfl, rfl, rfl, Nat.le_refl _, fun _ _ => rfl⟩
                go_wp2_with (at_builtin; refine wpList_append_view (wo.drewN n) rfl (.tmp 29) (.tmp 32) 26 rfl wo.heap.size 3 1 8 Try.infoInt (by kernel_rfl) rfl (by decide) (.slice none 0 0) 0 [] rfl (World.ownsRow_nil _ _ _ _) (some ⟨g, 0, none⟩) 0 0 (((nats sl).take 0).map (Value.int .i64)) rfl (slice_le (wo.drewN n) (nats_length sl) hgr (by omega)) (int_cells _ _) (by unfold maxLen; omega) (by omega) (Nat.le_refl _) ?_)
                intro v1 w1 hown1 hup1
                have hb1 : Below wo.heap.size wo w1 := hb0.trans (hup1.below (Nat.le_refl _) (by simp [Value.ownBlock]))
                have hxc1 : w1.cell? ⟨b, off + sl.length, none⟩ = some (.int .i64 (x : Int)) := by rw [(hbw.trans (hb1.mono hbs)).cell (p := ⟨b, off + sl.length, none⟩) hb]; exact hc _ _ (nats_get HX.out)
                clear hup1
                go_wp2_with (at_builtin; refine wpList_append_one w1 rfl (.tmp 34) (.tmp 39) 26 rfl wo.heap.size 3 1 8 Try.infoInt (by kernel_rfl) rfl (by decide) v1 0 _ rfl hown1 [Value.int .i64 (x : Int)] rfl rfl rfl (by unfold maxLen; omega) (by omega) hb1.size ?_)
                intro v2 w2 hown2 hup2
                have hb2 : Below wo.heap.size wo w2 := below_own hb1 hown1 hb1.size hup2
                have hgr2 : ∀ m z, (nats sl)[m]? = some z → w2.cell? ⟨g, m, none⟩ = some (.int .i64 z) := fun m z hz => by rw [hb2.cell (p := ⟨g, m, none⟩) hg1]; exact hgr m z hz
                clear hup2 hxc1
                go_wp2_with (at_builtin; refine wpList_append_view w2 rfl (.tmp 41) (.tmp 44) 26 rfl wo.heap.size 3 1 8 Try.infoInt (by kernel_rfl) rfl (by decide) v2 (0 + 1) _ rfl hown2 _ _ _ [] rfl (RowIn.zero _ _ _ _ (by omega)) (by simp) (by unfold maxLen; omega) (by omega) hb2.size ?_)
                intro v3 w3 hown3 hup3
                have hb3 : Below w.heap.size w w3 := hbw.trans ((below_own hb2 hown2 hb2.size hup3).mono hbs)
                have hins := insert_sorted (x := x) HS.out (j := 0) (by omega) HG.out (.inl rfl)
                have hprm := insert_perm (x := x) (j := 0) HP.out
                have HIN := Lib.hid hins
                have HPR := Lib.hid hprm
                have hfin := Lib.hid (own_insert (x := x) (j := 0) (by omega) (by omega) (ownsRow_base hown3 hbs) (own_insert_nil (List.eq_nil_of_length_eq_zero (by omega))))
                clear hins hprm hown3 hup3 hown2 hown1 hgr2
                go_wp2_with fail
                go_roundw
                case rel => exact ⟨sl.length + 1, _, by omega, by go_num, by rw [take_snoc_of' HX.out]; exact HPR.out, HIN.out, hfin.out, hb3⟩
                case measure => simp [intOf]; omega
      · have hk' : k = l.length := by omega
        subst hk'
        have hpp := Lib.hid hp
        have hss := Lib.hid hs
        have hoo := Lib.hid ho
        clear hp hs ho hsl
        go_wp2_with fail
        go_ret
        exact ⟨_, sl, rfl, by have := hpp.out; rwa [List.take_length] at this, hss.out, hoo.out, hbw⟩
end Go.Proofs.Ytobmnjigenplnaa