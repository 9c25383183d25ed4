/- Layer 13, the references: Sought, At, Numbers. -/
import Derived.Test.YtobmnjigenplnaaSketchC
namespace Go.Proofs.Ytobmnjigenplnaa
open Go.RowKit
/-- Of a sorted list of the same numbers the k-th is the one that is sought. -/
theorem sought_of_sorted {l sl : List Nat} {k x : Nat} (hp : sl.Perm l) (hs : sl.Pairwise (· ≤ ·)) (h1 : 1 ≤ k) (hx : sl[k - 1]? = some x) : Sought l k x := by
  obtain ⟨hk, hxe⟩ := List.getElem?_eq_some_iff.1 hx
  refine ⟨hp.mem_iff.1 (List.mem_of_getElem? hx), ?_, ?_⟩
  · rw [← (hp.filter _).length_eq]
    have h2 : (sl.take k).length ≤ (sl.filter (fun y => decide (y ≤ x))).length := by
      have : (sl.take k).filter (fun y => decide (y ≤ x)) = sl.take k := by
        rw [List.filter_eq_self]
        intro y hy
        obtain ⟨i, hi⟩ := List.getElem?_of_mem hy
        rw [List.getElem?_take] at hi
        split at hi
        · obtain ⟨hl1, hl2⟩ := List.getElem?_eq_some_iff.1 hi
          by_cases he : i = k - 1
          · subst he; simp; omega
          · have := List.pairwise_iff_getElem.1 hs i (k - 1) hl1 hk (by omega)
            simp; omega
        · cases hi
      rw [← this]
      exact (List.Sublist.filter _ (List.take_sublist _ _)).length_le
    simp at h2
    omega
  · rw [← (hp.filter _).length_eq]
    have h2 : (sl.filter (fun y => decide (y < x))).length ≤ (sl.take (k - 1)).length := by
      have hsplit : sl = sl.take (k - 1) ++ sl.drop (k - 1) := (List.take_append_drop _ _).symm
      have hdrop : (sl.drop (k - 1)).filter (fun y => decide (y < x)) = [] := by
        rw [List.filter_eq_nil_iff]
        intro y hy
        obtain ⟨i, hi⟩ := List.getElem?_of_mem hy
        rw [List.getElem?_drop] at hi
        obtain ⟨hl1, hl2⟩ := List.getElem?_eq_some_iff.1 hi
        by_cases he : i = 0
        · subst he; simp at hl2 ⊢; omega
        · have := List.pairwise_iff_getElem.1 hs (k - 1) (k - 1 + i) hk hl1 (by omega)
          simp; omega
      rw [hsplit, List.filter_append, hdrop, List.append_nil]
      refine Nat.le_trans (List.length_filter_le _ _) ?_
      simp
    simp at h2
    omega
def SoughtPost (l : List Nat) (p : Nat) (w : World) (e : Ending) (w' : World) : Prop := ∃ x : Nat, e = .returned (.int .i64 x) ∧ Sought l (place l.length p) x ∧ Below w.heap.size w w'
theorem sought_any (v : Value) (l : List Nat) (p : Nat) (w : World) (h : IntsIn w v (nats l)) (hlen : l.length ≤ 1000) (hl0 : 0 < l.length) (hp : (p : Int) ≤ 1000) :
    Calls Try.prog 23 #[v, .int .i64 p] w (SoughtPost l p w) := by
  have hpl : place l.length p ≤ l.length := place_le _ _ hl0 (by omega)
  have hpl1 : 1 ≤ place l.length p := by unfold place; omega
  have hmul : l.length * p ≤ 1000 * 1000 := Nat.mul_le_mul hlen (by omega)
  have hsh : ∃ a cap, v = .slice a l.length cap := by
    obtain ⟨a, cap, rfl, -⟩ := h
    exact ⟨a, cap, by rw [nats_length]⟩
  obtain ⟨a, cap, rfl⟩ := hsh
  have hm : ((l.length : Int) * p) = ((l.length * p : Nat) : Int) := by simp
  obtain ⟨X, hX⟩ : ∃ X : Nat, l.length * p = X := ⟨_, rfl⟩
  rw [hX] at hm hmul
  have HI := Lib.hid h
  have hXu : place l.length p = max 1 (upN X 1000) := by unfold place; rw [hX]
  have HPL := Lib.hid hpl
  have HPL1 := Lib.hid hpl1
  have HXU := Lib.hid hXu
  have hlp : IntKind.i64.wrap ((l.length : Int) * p) = (X : Int) := by rw [hm]; exact IntWalk.i64_in _ (by omega)
  have HM := Lib.hid hm
  have hb1 : (l.length : Int) * p ≤ 1000000 := by rw [hm]; omega
  have hb0 : 0 ≤ (l.length : Int) * p := by rw [hm]; omega
  clear h hpl hpl1 hX hXu hm hlp
  go_enter Try.func23, Try.ntmps23
  go_wp2_with fail
  rw [show (l.length : Int) * p = (X : Int) from HM.out]
  rw [show (1000 : Int) = ((1000 : Nat) : Int) from rfl]
  refine (rup_any X 1000 _ (by omega) (by omega)).mono ?_
  rintro e w' ⟨rfl, rfl⟩
  have hU : upN X 1000 ≤ l.length := by have h1 := HXU.out; have h2 := HPL.out; omega
  obtain ⟨K, hK⟩ : ∃ K, place l.length p = K := ⟨_, rfl⟩
  have hKU : K = max 1 (upN X 1000) := by rw [← hK]; exact HXU.out
  have hK1 : 1 ≤ K := by rw [← hK]; exact HPL1.out
  have hK2 : K ≤ l.length := by rw [← hK]; exact HPL.out
  have HK := Lib.hid hK
  have HKU := Lib.hid hKU
  clear hK hKU
  obtain ⟨U, hUU⟩ : ∃ U, upN X 1000 = U := ⟨_, rfl⟩
  rw [hUU] at hU HKU ⊢
  clear hUU hb0 hb1 hmul
  have hmx : max (U : Int) 1 = (K : Int) := by have := HKU.out; omega
  go_wp2_with fail
  refine (sorted_any _ l _ HI.out hlen).mono ?_
  rintro e w1 ⟨v1, sl, rfl, hperm, hsrt, hown, hbel⟩
  have hlen1 : sl.length = l.length := hperm.length_eq
  rcases hown.read with ⟨hn, -⟩ | ⟨g, gcap, rfl, hg0, hg1, hgc, hgm, hgr⟩
  · have := nats_length sl; rw [hn] at this; simp at this; omega
  · rw [nats_length]
    obtain ⟨x, hx⟩ : ∃ x, sl[K - 1]? = some x := ⟨sl[K - 1]'(by omega), List.getElem?_eq_getElem (by omega)⟩
    have hcx := hgr (K - 1) x (nats_get hx)
    have HF := Lib.hid (sought_of_sorted hperm hsrt hK1 hx)
    have hl1 : K ≤ sl.length := by omega
    clear hperm hsrt hown hx hgr hlen1
    go_wp2
    go_ret
    exact ⟨x, rfl, by rw [show place l.length p = K from HK.out]; exact HF.out, hbel⟩
def RAtPost (l : List Nat) (p : Nat) (w : World) (e : Ending) (w' : World) : Prop := (∃ n : Nat, e = .returned (.int .i64 n) ∧ ((l = [] ∧ n = 0) ∨ ∃ x, Sought l (place l.length p) x ∧ n = topB (bucketN x))) ∧ Below w.heap.size w w'
theorem rat_any (v : Value) (l : List Nat) (p : Nat) (w : World) (h : IntsIn w v (nats l)) (hlen : l.length ≤ 1000) (hl : ∀ n ∈ l, n < 4611686018427387904) (hp : (p : Int) ≤ 1000) :
    Calls Try.prog 22 #[v, .int .i64 p] w (RAtPost l p w) := by
  have hsh : ∃ a cap, v = .slice a l.length cap := by
    obtain ⟨a, cap, rfl, -⟩ := h
    exact ⟨a, cap, by rw [nats_length]⟩
  obtain ⟨a, cap, rfl⟩ := hsh
  have HI := Lib.hid h
  have HL := Lib.hid hl
  clear h hl
  by_cases h0 : l = []
  · subst h0
    go_enter Try.func22, Try.ntmps22
    go_wp2
    go_ret
    exact ⟨⟨0, rfl, .inl ⟨rfl, rfl⟩⟩, Below.refl _ _⟩
  · have hl0 : 0 < l.length := List.length_pos_iff.2 h0
    have ht : ((l.length : Int) == 0) = false := by simp only [beq_eq_false_iff_ne, ne_eq]; omega
    clear h0
    go_enter Try.func22, Try.ntmps22
    go_wp2_with fail
    refine (sought_any _ l p _ HI.out hlen hl0 hp).mono ?_
    rintro e w1 ⟨x, rfl, hs, hb⟩
    have hx := HL.out x hs.1
    have hxb := bucketN_lt hx
    have HS := Lib.hid hs
    have HX := Lib.hid hx
    have HB := Lib.hid hxb
    clear hs hx hxb
    go_wp2_with fail
    refine (rbucket_any x _ HX.out).mono ?_
    rintro e w2 ⟨rfl, rfl⟩
    go_wp2_with fail
    refine (rtop_any (bucketN x) _ HB.out).mono ?_
    rintro e w2 ⟨rfl, rfl⟩
    go_wp2
    go_ret
    exact ⟨⟨topB (bucketN x), rfl, .inr ⟨x, HS.out, rfl⟩⟩, hb⟩
/-- A number of a sketch, made of any. -/
def numOf (z : Int) : Int := let n := around z 4611686018427387904; if n % 3 = 0 then n % 40 else if n % 3 = 1 then n % 3000 else n
theorem numOf_range (z : Int) : 0 ≤ numOf z ∧ numOf z < 4611686018427387904 := by
  have h0 := around_nonneg z 4611686018427387904 (by omega)
  have h1 := around_lt z 4611686018427387904 (by omega)
  unfold numOf
  generalize around z 4611686018427387904 = n at *
  dsimp only
  split
  · omega
  · split <;> omega
def numbers (zs : List Int) : List Nat := (zs.take 30).map (fun z => (numOf z).toNat)
theorem numbers_length (zs : List Int) : (numbers zs).length ≤ 30 := by simp [numbers]; omega
theorem numbers_lt (zs : List Int) : ∀ n ∈ numbers zs, n < 4611686018427387904 := by
  intro n hn
  simp only [numbers, List.mem_map] at hn
  obtain ⟨z, -, rfl⟩ := hn
  have := numOf_range z
  omega
def NumbersPost (zs : List Int) (w : World) (e : Ending) (w' : World) : Prop := ∃ u, e = .returned u ∧ OwnInts w.heap.size w' u (nats (numbers zs)) ∧ Below w.heap.size w w'
theorem numbers_end {zs : List Int} {k : Nat} {w wr : World} {v : Value} (h30 : k ≤ 30) (hx : k = 30 ∨ k = zs.length) (hown : OwnInts w.heap.size wr v ((zs.take k).map numOf)) (hb : Below w.heap.size w wr) : NumbersPost zs w (.returned v) wr := by
  have : zs.take k = zs.take 30 := by
    rcases hx with rfl | rfl
    · rfl
    · rw [List.take_of_length_le (Nat.le_refl _), List.take_of_length_le h30]
  refine ⟨v, rfl, ?_, hb⟩
  have e : nats (numbers zs) = (zs.take k).map numOf := by
    rw [this]
    simp only [nats, numbers, List.map_map]
    apply List.map_congr_left
    intro z _
    have := numOf_range z
    simp; omega
  rw [e]; exact hown
theorem numbers_any (v : Value) (zs : List Int) (w : World) (h : IntsIn w v zs) :
    Calls Try.prog 18 #[v] w (NumbersPost zs w) := by
  rcases h.read with ⟨rfl, a, cap, rfl⟩ | ⟨b, off, cap, rfl, hb, hl, hr, hc⟩
  · go_enter Try.func18, Try.ntmps18
    go_wp2_with fail
    refine wp_loop_rounds 1 ?_
    rw [rounds_succ]
    go_wp2
    go_ret
    exact ⟨_, rfl, OwnInts.nil _ _, Below.refl _ _⟩
  · clear h
    go_enter Try.func18, Try.ntmps18
    go_wp2_with fail
    go_loopw [3, 4] (fun v i wr => ∃ k : Nat, k ≤ zs.length ∧ k ≤ 30 ∧ i = .int .i64 k ∧ OwnInts w.heap.size wr v ((zs.take k).map numOf) ∧ Below w.heap.size w wr) (fun _ i _ => zs.length - (intOf i).toNat)
    case atStart => exact ⟨0, Nat.zero_le _, Nat.zero_le _, rfl, OwnInts.nil _ _, Below.refl _ _⟩
    case round =>
      obtain ⟨k, hk, hk30, rfl, hown, hbr⟩ := hrel
      by_cases hlt : k < zs.length
      · by_cases h30 : k < 30
        · obtain ⟨z, hz⟩ : ∃ z, zs[k]? = some z := ⟨zs[k], by simp [hlt]⟩
          have hzr := hr z (List.mem_of_getElem? hz)
          have hcell : wr.cell? ⟨b, off + k, none⟩ = some (.int .i64 z) := by rw [hbr.cell (p := ⟨b, off + k, none⟩) hb]; exact hc k z hz
          have htk := Lib.hid (show (zs.take (k + 1)).map numOf = (zs.take k).map numOf ++ [numOf z] by rw [take_snoc_of' hz]; simp)
          have hlen : ((zs.take k).map numOf).length = k := by simp; omega
          have h0 := around_nonneg z 4611686018427387904 (by omega)
          have h1 := around_lt z 4611686018427387904 (by omega)
          have hnum : numOf z = if around z 4611686018427387904 % 3 = 0 then around z 4611686018427387904 % 40 else if around z 4611686018427387904 % 3 = 1 then around z 4611686018427387904 % 3000 else around z 4611686018427387904 := rfl
          obtain ⟨n, hn⟩ : ∃ n, around z 4611686018427387904 = n := ⟨_, rfl⟩
          rw [hn] at h0 h1 hnum
          unfold OwnInts at hown
          rw [hlen] at hown
          have HN := Lib.hid hn
          have HNUM := Lib.hid hnum
          have HLEN := Lib.hid hlen
          have HBR := Lib.hid hbr
          have hbrs := hbr.size
          clear hz hn hnum hlen hr hc hbr
          by_cases c0 : n % 3 = 0
          · have d0 : (n % 3 == 0) = true := by simpa using c0
            have hval : numOf z = n % 40 := by rw [HNUM.out, if_pos c0]
            have HV := Lib.hid hval
            clear hval c0
            go_wp2_with fail
            refine (around_any z 4611686018427387904 _ hzr.1 hzr.2 (by omega)).mono ?_
            rintro e w' ⟨rfl, rfl⟩
            rw [show around z 4611686018427387904 = n from HN.out]
            go_wp2_with (at_builtin; refine wpList_append_one wr rfl (.tmp 31) (.tmp 33) 26 rfl w.heap.size 3 1 8 Try.infoInt (by kernel_rfl) rfl (by decide) u3 k _ rfl hown [Value.int .i64 (n % 40)] rfl rfl rfl (by unfold maxLen; omega) (by omega) hbrs ?_)
            intro v' w1 hown1 hup
            go_wp2_with fail
            go_roundw
            case rel => exact ⟨k + 1, by omega, by omega, by go_num, by rw [htk.out, show numOf z = n % 40 from HV.out]; exact OwnInts.of hown1 (by simp; omega) (by simp), below_own HBR.out hown hbrs hup⟩
            case measure => simp [intOf]; omega
          · have d0 : (n % 3 == 0) = false := by simpa using c0
            by_cases c1 : n % 3 = 1
            · have d1 : (n % 3 == 1) = true := by simpa using c1
              have hval : numOf z = n % 3000 := by rw [HNUM.out, if_neg c0, if_pos c1]
              have HV := Lib.hid hval
              clear hval c0 c1
              go_wp2_with fail
              refine (around_any z 4611686018427387904 _ hzr.1 hzr.2 (by omega)).mono ?_
              rintro e w' ⟨rfl, rfl⟩
              rw [show around z 4611686018427387904 = n from HN.out]
              go_wp2_with (at_builtin; refine wpList_append_one wr rfl (.tmp 31) (.tmp 33) 26 rfl w.heap.size 3 1 8 Try.infoInt (by kernel_rfl) rfl (by decide) u3 k _ rfl hown [Value.int .i64 (n % 3000)] rfl rfl rfl (by unfold maxLen; omega) (by omega) hbrs ?_)
              intro v' w1 hown1 hup
              go_wp2_with fail
              go_roundw
              case rel => exact ⟨k + 1, by omega, by omega, by go_num, by rw [htk.out, show numOf z = n % 3000 from HV.out]; exact OwnInts.of hown1 (by simp; omega) (by simp), below_own HBR.out hown hbrs hup⟩
              case measure => simp [intOf]; omega
            · have d1 : (n % 3 == 1) = false := by simpa using c1
              have hval : numOf z = n := by rw [HNUM.out, if_neg c0, if_neg c1]
              have HV := Lib.hid hval
              clear hval c0 c1
              go_wp2_with fail
              refine (around_any z 4611686018427387904 _ hzr.1 hzr.2 (by omega)).mono ?_
              rintro e w' ⟨rfl, rfl⟩
              rw [show around z 4611686018427387904 = n from HN.out]
              go_wp2_with (at_builtin; refine wpList_append_one wr rfl (.tmp 31) (.tmp 33) 26 rfl w.heap.size 3 1 8 Try.infoInt (by kernel_rfl) rfl (by decide) u3 k _ rfl hown [Value.int .i64 n] rfl rfl rfl (by unfold maxLen; omega) (by omega) hbrs ?_)
              intro v' w1 hown1 hup
              go_wp2_with fail
              go_roundw
              case rel => exact ⟨k + 1, by omega, by omega, by go_num, by rw [htk.out, show numOf z = n from HV.out]; exact OwnInts.of hown1 (by simp; omega) (by simp), below_own HBR.out hown hbrs hup⟩
              case measure => simp [intOf]; omega
        · go_wp2
          go_ret
          exact numbers_end hk30 (.inl (by omega)) hown hbr
      · by_cases h30 : k < 30
        all_goals
          go_wp2
          go_ret
          exact numbers_end hk30 (.inr (by omega)) hown hbr
end Go.Proofs.Ytobmnjigenplnaa
