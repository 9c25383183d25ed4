/- Layer 21: contracts of Between and Acts. -/
import Derived.Test.YtdfigalijngekaaAdaptB
namespace Go.Proofs.Ytdfigalijngekaa
open Go.RowKit
def lowOf (n : Int) : Int := 1 + around n 1000 % 4
def highOf (n : Int) : Int := 1 + around n 1000 % 4 + around n 1000 / 4 % 10
theorem between_any (n : Int) (w : World) (h1 : -9223372036854775808 ≤ n) (h2 : n ≤ 9223372036854775807) :
    Calls Try.prog 7 #[.int .i64 n] w fun e w' => e = .returned (.tuple #[.int .i64 (lowOf n), .int .i64 (highOf n)]) ∧ w = w' := by
  have a0 := around_nonneg n 1000 (by omega)
  have a1 := around_lt n 1000 (by omega)
  go_enter Try.func7, Try.ntmps7
  go_wp2_with fail
  refine (around_any n 1000 _ h1 h2 (by omega)).mono ?_
  rintro e w' ⟨rfl, rfl⟩
  go_wp2
  go_ret2
  exact ⟨rfl, rfl⟩
structure Act1 where
  now : Int
  under : Int
  took : Int
  well : Bool
def Act1.cells (a : Act1) : List Value := [.int .i64 a.now, .int .i64 a.under, .int .i64 a.took, .bool a.well]
def nth1 (x : Int) : Int := around x 1000000
def act1 (t x : Int) : Act1 := ⟨t + nth1 x % 7, nth1 x / 7 % 14, 1 + nth1 x / 98 % 25, decide (nth1 x / 2450 % 5 > 0)⟩
def ticks (t : Int) : List Int → Int
  | [] => t
  | x :: r => ticks (t + nth1 x % 7) r
def actsFrom (t : Int) : List Int → List Act1
  | [] => []
  | x :: r => act1 t x :: actsFrom (t + nth1 x % 7) r
theorem ticks_snoc (x : Int) : ∀ (l : List Int) (t : Int), ticks t (l ++ [x]) = ticks t l + nth1 x % 7
  | [], t => rfl
  | y :: l, t => by simp only [List.cons_append, ticks]; exact ticks_snoc x l _
theorem actsFrom_snoc (x : Int) : ∀ (l : List Int) (t : Int), actsFrom t (l ++ [x]) = actsFrom t l ++ [act1 (ticks t l) x]
  | [], t => rfl
  | y :: l, t => by simp only [List.cons_append, actsFrom, ticks, actsFrom_snoc x l]
theorem actsFrom_length : ∀ (l : List Int) (t : Int), (actsFrom t l).length = l.length
  | [], _ => rfl
  | x :: l, t => by simp only [actsFrom, List.length_cons, actsFrom_length l]
def acts21 (l : List Int) : List Act1 := actsFrom 0 (l.take 30)
def cells21 (l : List Act1) : List Value := l.flatMap Act1.cells
theorem cells21_length (l : List Act1) : (cells21 l).length = l.length * 4 := by
  induction l with
  | nil => rfl
  | cons a l ih => simp only [cells21, List.flatMap_cons, List.length_append, List.length_cons, Act1.cells, List.length_nil] at *; omega
theorem nth1_range (x : Int) : 0 ≤ nth1 x ∧ nth1 x < 1000000 := ⟨around_nonneg _ _ (by omega), around_lt _ _ (by omega)⟩
theorem ticks_le : ∀ (l : List Int) (t : Int), t ≤ ticks t l ∧ ticks t l ≤ t + 6 * l.length
  | [], t => by simp [ticks]
  | x :: l, t => by
    have := ticks_le l (t + nth1 x % 7)
    simp only [ticks, List.length_cons]
    omega
theorem Try.info30 : (Try.prog.info? 30).map (fun i => (i.zero, i.size, i.bytes)) = some (some (.agg #[.int .i64 0, .int .i64 0, .int .i64 0, .bool false]), 4, 32) := by kernel_rfl

theorem cells21_append (l m : List Act1) : cells21 (l ++ m) = cells21 l ++ cells21 m := by simp [cells21]
theorem take_snoc_of {α : Type} {l : List α} {k : Nat} {z : α} (h : l[k]? = some z) : l.take (k + 1) = l.take k ++ [z] := by
  rw [List.take_add_one, h]; rfl
theorem acts_step {zs : List Int} {k : Nat} {z T : Int} (hz : zs[k]? = some z) (hT : ticks 0 (zs.take k) = T) :
    ticks 0 (zs.take (k + 1)) = T + nth1 z % 7 ∧ actsFrom 0 (zs.take (k + 1)) = actsFrom 0 (zs.take k) ++ [act1 T z] := by
  rw [take_snoc_of hz, ticks_snoc, actsFrom_snoc, hT]; exact ⟨rfl, rfl⟩
def ActsPost (zs : List Int) (w : World) (e : Ending) (w' : World) : Prop := ∃ u, e = .returned u ∧ w'.ownsRow w.heap.size 30 4 u (acts21 zs).length (cells21 (acts21 zs)) ∧ Below w.heap.size w w'
theorem acts_end {zs : List Int} {k : Nat} {w wr : World} {v : Value} (hk : k ≤ zs.length) (h30 : k ≤ 30) (hx : k = 30 ∨ k = zs.length) (hown : wr.ownsRow w.heap.size 30 4 v (actsFrom 0 (zs.take k)).length (cells21 (actsFrom 0 (zs.take k)))) (hb : Below w.heap.size w wr) : ActsPost zs w (.returned v) wr := by
  have : zs.take k = zs.take 30 := by
    rcases hx with rfl | rfl
    · rfl
    · rw [List.take_of_length_le (Nat.le_refl _), List.take_of_length_le h30]
  unfold ActsPost acts21
  rw [← this]
  exact ⟨v, rfl, hown, hb⟩
theorem acts_any (v : Value) (zs : List Int) (w : World) (h : IntsIn w v zs) :
    Calls Try.prog 9 #[v] w (ActsPost zs w) := by
  obtain ⟨a, cap, rfl, hl, hr, hin⟩ := h
  obtain ⟨i0, hi, hz0, hz1, hz2⟩ := info_parts Try.info30
  go_enter Try.func9, Try.ntmps9
  go_wp2_with fail
  go_loopw [3, 4, 5, 6] (fun v t i _ wr => ∃ k : Nat, k ≤ zs.length ∧ k ≤ 30 ∧ i = .int .i64 k ∧ t = .int .i64 (ticks 0 (zs.take k)) ∧ wr.ownsRow w.heap.size 30 4 v (actsFrom 0 (zs.take k)).length (cells21 (actsFrom 0 (zs.take k))) ∧ Below w.heap.size w wr) (fun _ _ i _ _ => zs.length - (intOf i).toNat)
  case atStart => exact ⟨0, Nat.zero_le _, Nat.zero_le _, rfl, rfl, World.ownsRow_nil _ _ _ _, Below.refl _ _⟩
  case round =>
    obtain ⟨k, hk, hk30, rfl, rfl, hown, hb⟩ := hrel
    by_cases hlt : k < zs.length
    · by_cases h30 : k < 30
      · rcases hin with rfl | ⟨b, off, rfl, hc⟩
        · simp at hlt
        · have hbl := World.block_lt_of_cell? w _ (hc 0 (by omega))
          obtain ⟨z, hz⟩ : ∃ z, zs[k]? = some z := ⟨zs[k], by simp [hlt]⟩
          have hzr := hr z (List.mem_of_getElem? hz)
          have hcell : wr.cell? ⟨b, off + k, none⟩ = some (.int .i64 z) := by rw [hb.cell (p := ⟨b, off + k, none⟩) hbl, hc k hlt, List.getD, hz]; rfl
          have hle := ticks_le (zs.take k) 0
          have hlen : (actsFrom 0 (zs.take k)).length = k := by rw [actsFrom_length]; simp; omega
          have htl : (zs.take k).length = k := by simp; omega
          obtain ⟨T, hT⟩ : ∃ T, ticks 0 (zs.take k) = T := ⟨_, rfl⟩
          rw [hT, htl] at hle
          rw [hT]
          rw [hlen] at hown
          have hst := Lib.hid (acts_step hz hT)
          obtain ⟨n, hn⟩ : ∃ n, nth1 z = n := ⟨_, rfl⟩
          have hnr := nth1_range z
          rw [hn] at hnr
          obtain ⟨L, hL⟩ : ∃ L, actsFrom 0 (zs.take k) = L := ⟨_, rfl⟩
          rw [hL] at hown hlen
          have HT := Lib.hid hT
          have HL := Lib.hid hL
          have HN := Lib.hid hn
          have HZ := Lib.hid hz
          have HLen := Lib.hid hlen
          clear hT hL hn hz hlen htl hc hr
          go_wp2_with fail
          refine (around_any z 1000000 _ hzr.1 hzr.2 (by omega)).mono ?_
          rintro e w' ⟨rfl, rfl⟩
          rw [show around z 1000000 = n from HN.out]
          go_wp2_with (at_builtin; refine wpList_append_one wr rfl (.tmp 26) (.tmp 40) 27 rfl w.heap.size 30 4 32 Try.info30 (by kernel_rfl) rfl (by decide) u3 k (cells21 L) rfl hown _ rfl rfl rfl (by unfold maxLen; omega) (by omega) hb.size ?_)
          intro v' w1 hown1 hup
          go_wp2
          go_roundw
          case rel =>
            refine ⟨k + 1, by omega, by omega, by go_num, ?_, ?_, below_own hb hown hb.size hup⟩
            · rw [hst.out.1, show nth1 z = n from HN.out]
            · rw [hst.out.2, show actsFrom 0 (zs.take k) = L from HL.out, cells21_append, List.length_append, show L.length = k from HLen.out]
              have : cells21 [act1 T z] = [Value.int .i64 (T + n % 7), .int .i64 (n / 7 % 14), .int .i64 (1 + n / 98 % 25), .bool (decide (0 < n / 2450 % 5))] := by
                rw [← show nth1 z = n from HN.out]; rfl
              rw [this]
              exact hown1
          case measure => simp [intOf]; omega
      · go_wp2
        go_ret
        exact acts_end hk (by omega) (.inl (by omega)) hown hb
    · by_cases h30 : k < 30
      all_goals
        go_wp2
        go_ret
        exact acts_end hk (by omega) (.inr (by omega)) hown hb
/-- The acts that are read. -/
def ActsIn (base : Nat) (w : World) (u : Value) (l : List Act1) : Prop := w.ownsRow base 30 4 u l.length (cells21 l)
theorem cells21_get (l : List Act1) : ∀ (k : Nat) (a : Act1) (j : Nat), l[k]? = some a → j < 4 → (cells21 l)[k * 4 + j]? = a.cells[j]? := by
  induction l with
  | nil => intro k a j h; simp at h
  | cons x l ih =>
    intro k a j h hj
    have e : cells21 (x :: l) = x.cells ++ cells21 l := by simp [cells21]
    rw [e]
    match k, h with
    | 0, h =>
      simp at h
      subst h
      rw [List.getElem?_append_left (by simp [Act1.cells]; omega)]
      simp
    | k + 1, h =>
      rw [List.getElem?_append_right (by simp [Act1.cells]; omega), show (k + 1) * 4 + j - x.cells.length = k * 4 + j by simp [Act1.cells]; omega]
      exact ih k a j (by simpa using h) hj
theorem ActsIn.read {base : Nat} {w : World} {u : Value} {l : List Act1} (h : ActsIn base w u l) : (l = [] ∧ u = .slice none 0 0) ∨ ∃ g cap, u = .slice (some ⟨g, 0, none⟩) l.length cap ∧ base ≤ g ∧ g < w.heap.size ∧
    ∀ k a, l[k]? = some a → w.cell? ⟨g, k * 4, none⟩ = some (.int .i64 a.now) ∧ w.cell? ⟨g, k * 4 + 1, none⟩ = some (.int .i64 a.under) ∧ w.cell? ⟨g, k * 4 + 2, none⟩ = some (.int .i64 a.took) ∧ w.cell? ⟨g, k * 4 + 3, none⟩ = some (.bool a.well) := by
  unfold ActsIn at h
  have hlt := h.lt
  have hc := fun g hg => h.cells (g := g) hg
  rcases h.2 with ⟨hv, hn⟩ | ⟨g, cap, cur, rfl, _, hgg, _⟩
  · exact .inl ⟨List.eq_nil_of_length_eq_zero hn, hv⟩
  · refine .inr ⟨g, cap, rfl, (hlt g rfl).1, (hlt g rfl).2, fun k a hk => ?_⟩
    have hj : ∀ (j : Nat) (u : Value), j < 4 → a.cells[j]? = some u → w.cell? ⟨g, k * 4 + j, none⟩ = some u := fun j u h4 hu => by
      have := hc g rfl (k * 4 + j) u (by rw [cells21_get l k a j hk h4]; exact hu)
      simpa only [Addr.add_lit, Nat.zero_add] using this
    exact ⟨hj 0 _ (by omega) rfl, hj 1 _ (by omega) rfl, hj 2 _ (by omega) rfl, hj 3 _ (by omega) rfl⟩
theorem ActsPost.acts {zs : List Int} {w : World} {e : Ending} {w' : World} (h : ActsPost zs w e w') : ∃ u, e = .returned u ∧ ActsIn w.heap.size w' u (acts21 zs) ∧ Below w.heap.size w w' := by
  obtain ⟨u, rfl, ho, hb⟩ := h
  exact ⟨u, rfl, ho, hb⟩
/-- What is known of each act. -/
theorem actsFrom_get : ∀ (l : List Int) (t : Int) (k : Nat) (a : Act1), (actsFrom t l)[k]? = some a → a.now = ticks t (l.take (k + 1)) ∧ ticks t (l.take k) ≤ a.now ∧ 0 ≤ a.under ∧ a.under ≤ 13 ∧ 1 ≤ a.took ∧ a.took ≤ 25
  | [], t, k, a, h => by simp [actsFrom] at h
  | x :: l, t, 0, a, h => by
    simp [actsFrom] at h
    subst h
    have := nth1_range x
    simp only [act1, ticks, List.take_zero, List.take_succ_cons, true_and]
    omega
  | x :: l, t, k + 1, a, h => by
    simp [actsFrom] at h
    have := actsFrom_get l _ k a h
    simpa [ticks] using this
theorem acts21_get (zs : List Int) (k : Nat) (a : Act1) (h : (acts21 zs)[k]? = some a) : a.now = ticks 0 ((zs.take 30).take (k + 1)) ∧ ticks 0 ((zs.take 30).take k) ≤ a.now ∧ 0 ≤ a.now ∧ a.now ≤ 180 ∧ 0 ≤ a.under ∧ a.under ≤ 13 ∧ 1 ≤ a.took ∧ a.took ≤ 25 := by
  have h1 := actsFrom_get _ _ k a h
  have h2 := ticks_le ((zs.take 30).take (k + 1)) 0
  have h3 : ((zs.take 30).take (k + 1)).length ≤ 30 := by simp; omega
  omega
theorem acts21_length (zs : List Int) : (acts21 zs).length ≤ 30 := by unfold acts21; rw [actsFrom_length]; simp; omega
theorem low_facts (n : Int) : 1 ≤ lowOf n ∧ lowOf n ≤ highOf n ∧ highOf n ≤ 13 := by
  have := around_nonneg n 1000 (by omega)
  unfold lowOf highOf
  omega
end Go.Proofs.Ytdfigalijngekaa
