/- Layer 13 in plain Lean: buckets, and what a share of some numbers is. -/
import Derived.Lib.BitFns
namespace Go.Proofs.Ytfmgcnmikopgeaa
open Go
theorem bitLenAux_spec : ∀ (f x : Nat), x < 2 ^ f → x < 2 ^ Lib.bitLenAux f x ∧ (x ≠ 0 → 1 ≤ Lib.bitLenAux f x ∧ 2 ^ (Lib.bitLenAux f x - 1) ≤ x)
  | 0, x, h => by simp at h; subst h; simp [Lib.bitLenAux]
  | f + 1, x, h => by
    unfold Lib.bitLenAux
    by_cases h0 : x = 0
    · subst h0; simp
    · rw [if_neg h0]
      rw [Nat.pow_succ] at h
      obtain ⟨h1, h2⟩ := bitLenAux_spec f (x / 2) (by omega)
      have e : 2 ^ (1 + Lib.bitLenAux f (x / 2)) = 2 * 2 ^ Lib.bitLenAux f (x / 2) := by rw [Nat.pow_add]
      refine ⟨by rw [e]; omega, fun _ => ⟨by omega, ?_⟩⟩
      rw [show 1 + Lib.bitLenAux f (x / 2) - 1 = Lib.bitLenAux f (x / 2) by omega]
      by_cases hx : x / 2 = 0
      · have : Lib.bitLenAux f (x / 2) = 0 := by rw [hx]; cases f <;> simp [Lib.bitLenAux]
        rw [this]; omega
      · obtain ⟨h3, h4⟩ := h2 hx
        have e2 : 2 ^ Lib.bitLenAux f (x / 2) = 2 * 2 ^ (Lib.bitLenAux f (x / 2) - 1) := by
          rw [show Lib.bitLenAux f (x / 2) = (Lib.bitLenAux f (x / 2) - 1) + 1 by omega, Nat.pow_succ, Nat.add_sub_cancel]; omega
        rw [e2]; omega
theorem bitLen_spec (n : Nat) (h : n < 2 ^ 64) : n < 2 ^ Lib.bitLen n ∧ (n ≠ 0 → 2 ^ (Lib.bitLen n - 1) ≤ n) :=
  ⟨(bitLenAux_spec 64 n h).1, fun h0 => ((bitLenAux_spec 64 n h).2 h0).2⟩
def lowB (b : Nat) : Nat := if b < 16 then b else (8 + (b - 16) % 8) * 2 ^ ((b - 16) / 8 + 1)
def topB (b : Nat) : Nat := if b < 16 then b else (9 + (b - 16) % 8) * 2 ^ ((b - 16) / 8 + 1) - 1
def bucketN (n : Nat) : Nat := if n < 16 then n else 16 + 8 * (Lib.bitLen n - 5) + n / 2 ^ (Lib.bitLen n - 4) - 8
theorem pow_pos2 (k : Nat) : 1 ≤ 2 ^ k := Nat.one_le_two_pow
theorem nine_mul (p X : Nat) : (9 + p) * X = (8 + p) * X + X := by rw [show 9 + p = (8 + p) + 1 by omega, Nat.succ_mul]
theorem lowB_succ (b : Nat) : lowB (b + 1) = topB b + 1 := by
  unfold lowB topB
  by_cases h : b < 16
  · rw [if_pos h]
    by_cases h15 : b = 15
    · subst h15; rfl
    · rw [if_pos (by omega)]
  · rw [if_neg h, if_neg (by omega)]
    have hp := pow_pos2 ((b - 16) / 8 + 1)
    have hm : 9 * 2 ^ ((b - 16) / 8 + 1) ≤ (9 + (b - 16) % 8) * 2 ^ ((b - 16) / 8 + 1) := Nat.mul_le_mul_right _ (by omega)
    by_cases h7 : (b - 16) % 8 = 7
    · rw [show (b + 1 - 16) % 8 = 0 by omega, show (b + 1 - 16) / 8 = (b - 16) / 8 + 1 by omega, h7, Nat.pow_succ 2 ((b - 16) / 8 + 1)]
      omega
    · rw [show (b + 1 - 16) % 8 = (b - 16) % 8 + 1 by omega, show (b + 1 - 16) / 8 = (b - 16) / 8 by omega, show 8 + ((b - 16) % 8 + 1) = 9 + (b - 16) % 8 by omega]
      omega
theorem lowB_lt (b : Nat) : lowB b ≤ topB b := by
  unfold lowB topB
  by_cases h : b < 16
  · rw [if_pos h, if_pos h]; exact Nat.le_refl _
  · rw [if_neg h, if_neg h]
    have hp := pow_pos2 ((b - 16) / 8 + 1)
    rw [nine_mul]
    omega
theorem lowB_mono {a b : Nat} (h : a ≤ b) : lowB a ≤ lowB b := by
  induction h with
  | refl => exact Nat.le_refl _
  | @step m h ih => rw [Nat.succ_eq_add_one, lowB_succ]; have := lowB_lt m; omega
theorem lowB_mono_lt {a b : Nat} (h : a < b) : topB a < lowB b := by
  have h1 : lowB (a + 1) ≤ lowB b := lowB_mono h
  have h2 := lowB_succ a
  omega
theorem topB_mono {a b : Nat} (h : a ≤ b) : topB a ≤ topB b := by
  have := lowB_mono (show a + 1 ≤ b + 1 by omega)
  rw [lowB_succ, lowB_succ] at this
  omega
theorem bucketN_spec (n : Nat) (hn : n < 2 ^ 64) : lowB (bucketN n) ≤ n ∧ n ≤ topB (bucketN n) := by
  by_cases h : n < 16
  · have hb : bucketN n = n := if_pos h
    rw [hb]
    unfold lowB topB
    rw [if_pos h, if_pos h]
    exact ⟨Nat.le_refl _, Nat.le_refl _⟩
  · obtain ⟨h1, h2⟩ := bitLen_spec n hn
    have h2 := h2 (by omega)
    have h5 : 5 ≤ Lib.bitLen n := by
      rcases Nat.lt_or_ge (Lib.bitLen n) 5 with hl | hl
      · have : 2 ^ Lib.bitLen n ≤ 2 ^ 4 := Nat.pow_le_pow_right (by omega) (by omega)
        omega
      · exact hl
    obtain ⟨s, hs⟩ : ∃ s, Lib.bitLen n = s + 5 := ⟨Lib.bitLen n - 5, by omega⟩
    have hb : bucketN n = 16 + 8 * s + n / 2 ^ (s + 1) - 8 := by
      unfold bucketN; rw [if_neg h, hs, show s + 5 - 5 = s by omega, show s + 5 - 4 = s + 1 by omega]
    rw [hs] at h1 h2
    rw [show s + 5 - 1 = s + 1 + 3 by omega, Nat.pow_add] at h2
    rw [show s + 5 = s + 1 + 4 by omega, Nat.pow_add] at h1
    have hp : 0 < 2 ^ (s + 1) := Nat.two_pow_pos _
    have q1 : 8 ≤ n / 2 ^ (s + 1) := by rw [Nat.le_div_iff_mul_le hp]; omega
    have q2 : n / 2 ^ (s + 1) < 16 := by rw [Nat.div_lt_iff_lt_mul hp]; omega
    obtain ⟨p, hpq⟩ : ∃ p, n / 2 ^ (s + 1) = 8 + p := ⟨n / 2 ^ (s + 1) - 8, by omega⟩
    have hbb : bucketN n = 16 + 8 * s + p := by rw [hb, hpq]; omega
    have e1 : (16 + 8 * s + p - 16) % 8 = p := by omega
    have e2 : (16 + 8 * s + p - 16) / 8 = s := by omega
    rw [hbb]
    unfold lowB topB
    rw [if_neg (by omega), if_neg (by omega), e1, e2, ← hpq]
    have d1 := Nat.div_add_mod n (2 ^ (s + 1))
    have d2 := Nat.mod_lt n hp
    rw [Nat.mul_comm] at d1
    refine ⟨by omega, ?_⟩
    rw [nine_mul, ← hpq]
    omega
theorem bucketN_of {n b : Nat} (hn : n < 2 ^ 64) (h1 : lowB b ≤ n) (h2 : n ≤ topB b) : bucketN n = b := by
  obtain ⟨g1, g2⟩ := bucketN_spec n hn
  rcases Nat.lt_trichotomy (bucketN n) b with h | h | h
  · have := lowB_mono_lt h; omega
  · exact h
  · have := lowB_mono_lt h; omega
theorem lowB_480 : lowB 480 = 4611686018427387904 := by decide
theorem topB_479 : topB 479 = 4611686018427387903 := by decide
theorem topB_le {b : Nat} (h : b < 480) : topB b ≤ 4611686018427387903 := by
  have := topB_mono (show b ≤ 479 by omega)
  rwa [topB_479] at this
theorem small64 {n : Nat} (h : n < 4611686018427387904) : n < 2 ^ 64 := by rw [show (2 : Nat) ^ 64 = 18446744073709551616 from rfl]; omega
theorem bucketN_low {b : Nat} (h : b < 480) : bucketN (lowB b) = b := bucketN_of (small64 (by have := topB_le h; have := lowB_lt b; omega)) (Nat.le_refl _) (lowB_lt b)
theorem bucketN_top {b : Nat} (h : b < 480) : bucketN (topB b) = b := bucketN_of (small64 (by have := topB_le h; omega)) (lowB_lt b) (Nat.le_refl _)
theorem bucketN_mono {m n : Nat} (hn : n < 4611686018427387904) (h : m ≤ n) : bucketN m ≤ bucketN n := by
  rcases Nat.lt_or_ge (bucketN n) (bucketN m) with hl | hl
  · have := lowB_mono_lt hl
    have := (bucketN_spec n (small64 hn)).2
    have := (bucketN_spec m (small64 (by omega))).1
    omega
  · exact hl
theorem bucketN_lt {n : Nat} (h : n < 4611686018427387904) : bucketN n < 480 := by
  rcases Nat.lt_or_ge (bucketN n) 480 with hl | hl
  · exact hl
  · have := lowB_mono hl
    rw [lowB_480] at this
    have := (bucketN_spec n (small64 h)).1
    omega
theorem bucketN_le_iff {n b : Nat} (hn : n < 4611686018427387904) (hb : b < 480) : bucketN n ≤ b ↔ n ≤ topB b := by
  constructor
  · intro h; exact Nat.le_trans (bucketN_spec n (small64 hn)).2 (topB_mono h)
  · intro h
    have := bucketN_mono (by have := topB_le hb; omega) h
    rwa [bucketN_top hb] at this
/-- A bucket's greatest is less than an eighth above what it holds. -/
theorem topB_near {n : Nat} (hn : n < 4611686018427387904) : n ≤ topB (bucketN n) ∧ (topB (bucketN n) = n ∨ 8 * (topB (bucketN n) - n) < n) := by
  obtain ⟨h1, h2⟩ := bucketN_spec n (small64 hn)
  refine ⟨h2, ?_⟩
  generalize bucketN n = b at *
  by_cases h : b < 16
  · left
    unfold lowB at h1
    unfold topB at h2 ⊢
    rw [if_pos h] at *
    omega
  · right
    unfold lowB at h1
    unfold topB at h2 ⊢
    rw [if_neg h] at *
    have hp := pow_pos2 ((b - 16) / 8 + 1)
    rw [nine_mul] at *
    have : 8 * 2 ^ ((b - 16) / 8 + 1) ≤ (8 + (b - 16) % 8) * 2 ^ ((b - 16) / 8 + 1) := Nat.mul_le_mul_right _ (by omega)
    omega

/-! Counts. -/
/-- How many of some are of a bucket up to b. -/
def cumN (l : List Nat) (b : Nat) : Nat := (l.filter (fun n => decide (bucketN n ≤ b))).length
def cntN (l : List Nat) (b : Nat) : Nat := (l.filter (fun n => decide (bucketN n = b))).length
theorem cumN_zero (l : List Nat) : cumN l 0 = cntN l 0 := by
  unfold cumN cntN
  congr 1
  apply List.filter_congr
  intro x _
  simp
theorem cumN_succ (l : List Nat) (b : Nat) : cumN l (b + 1) = cumN l b + cntN l (b + 1) := by
  induction l with
  | nil => rfl
  | cons x l ih =>
    unfold cumN cntN at *
    simp only [List.filter_cons]
    by_cases h1 : bucketN x ≤ b
    · have h2 : bucketN x ≤ b + 1 := by omega
      have h3 : ¬ bucketN x = b + 1 := by omega
      rw [if_pos (by simpa using h2), if_pos (by simpa using h1), if_neg (by simpa using h3)]
      simp only [List.length_cons]; omega
    · by_cases h3 : bucketN x = b + 1
      · have h2 : bucketN x ≤ b + 1 := by omega
        rw [if_pos (by simpa using h2), if_neg (by simpa using h1), if_pos (by simpa using h3)]
        simp only [List.length_cons]; omega
      · have h2 : ¬ bucketN x ≤ b + 1 := by omega
        rw [if_neg (by simpa using h2), if_neg (by simpa using h1), if_neg (by simpa using h3)]
        exact ih
theorem cumN_mono (l : List Nat) {a b : Nat} (h : a ≤ b) : cumN l a ≤ cumN l b := by
  induction h with
  | refl => exact Nat.le_refl _
  | step h ih => rw [Nat.succ_eq_add_one, cumN_succ]; omega
theorem cumN_all (l : List Nat) (h : ∀ n ∈ l, n < 4611686018427387904) : cumN l 479 = l.length := by
  unfold cumN
  rw [List.filter_eq_self.2]
  intro n hn
  have := bucketN_lt (h n hn)
  simp; omega
theorem cntN_append (l m : List Nat) (b : Nat) : cntN (l ++ m) b = cntN l b + cntN m b := by simp [cntN]
theorem cumN_append (l m : List Nat) (b : Nat) : cumN (l ++ m) b = cumN l b + cumN m b := by simp [cumN]
theorem cntN_le (l : List Nat) (b : Nat) : cntN l b ≤ l.length := List.length_filter_le _ _
theorem cumN_le (l : List Nat) (b : Nat) : cumN l b ≤ l.length := List.length_filter_le _ _
theorem cntN_snoc (l : List Nat) (n b : Nat) : cntN (l ++ [n]) b = cntN l b + if bucketN n = b then 1 else 0 := by
  rw [cntN_append]
  unfold cntN
  by_cases h : bucketN n = b <;> simp [h]
/-- The bucket that is told: the first one up to which there are so many. -/
def Told (l : List Nat) (k b : Nat) : Prop := b ≤ 479 ∧ k ≤ cumN l b ∧ ∀ b', b' < b → cumN l b' < k
theorem Told.unique {l : List Nat} {k b b' : Nat} (h : Told l k b) (h' : Told l k b') : b = b' := by
  rcases Nat.lt_trichotomy b b' with hlt | he | hlt
  · have := h'.2.2 b hlt; have := h.2.1; omega
  · exact he
  · have := h.2.2 b' hlt; have := h'.2.1; omega
theorem Told.congr {l m : List Nat} {k b : Nat} (h : Told l k b) (e : ∀ b, cumN l b = cumN m b) : Told m k b := by
  obtain ⟨h1, h2, h3⟩ := h
  exact ⟨h1, by rw [← e]; exact h2, fun b' hb => by rw [← e]; exact h3 b' hb⟩
theorem cumN_perm {l m : List Nat} (h : l.Perm m) (b : Nat) : cumN l b = cumN m b := (h.filter _).length_eq
/-- Up: a quotient, rounded up. -/
def upN (a b : Nat) : Nat := (a + b - 1) / b
/-- The place that is sought. -/
def place (len p : Nat) : Nat := max 1 (upN (len * p) 1000)
theorem place_le (len p : Nat) (h : 0 < len) (hp : p ≤ 1000) : place len p ≤ len := by
  unfold place upN
  have : len * p ≤ len * 1000 := Nat.mul_le_mul_left _ hp
  omega
theorem place_mono (len : Nat) {p q : Nat} (h : p ≤ q) : place len p ≤ place len q := by
  unfold place upN
  have : len * p ≤ len * q := Nat.mul_le_mul_left _ h
  omega
/-- The number that is sought: so many are no greater, fewer are less. -/
def Sought (l : List Nat) (k x : Nat) : Prop := x ∈ l ∧ k ≤ (l.filter (fun y => decide (y ≤ x))).length ∧ (l.filter (fun y => decide (y < x))).length < k
theorem filter_length_le {α : Type} (p q : α → Bool) (l : List α) (h : ∀ x, x ∈ l → p x = true → q x = true) : (l.filter p).length ≤ (l.filter q).length := by
  induction l with
  | nil => exact Nat.le_refl _
  | cons x l ih =>
    have ih := ih (fun y hy => h y (by simp [hy]))
    have hx := h x (by simp)
    simp only [List.filter_cons]
    cases hp : p x with
    | true => rw [hx hp]; simpa using ih
    | false => cases q x <;> simp <;> omega
theorem Sought.told {l : List Nat} {k x : Nat} (h : Sought l k x) (hl : ∀ n ∈ l, n < 4611686018427387904) : Told l k (bucketN x) := by
  obtain ⟨h0, h1, h2⟩ := h
  have hx := hl x h0
  refine ⟨by have := bucketN_lt hx; omega, Nat.le_trans h1 (filter_length_le _ _ _ (fun y _ hy => ?_)), fun b' hb => ?_⟩
  · simp at hy ⊢; exact bucketN_mono hx hy
  · refine Nat.lt_of_le_of_lt (filter_length_le _ _ _ (fun y hm hy => ?_)) h2
    simp at hy ⊢
    rcases Nat.lt_or_ge y x with hlt | hge
    · exact hlt
    · have := bucketN_mono (hl y hm) hge; omega
theorem Sought.unique {l : List Nat} {k x y : Nat} (h : Sought l k x) (h' : Sought l k y) : x = y := by
  rcases Nat.lt_trichotomy x y with hlt | he | hlt
  · have := filter_length_le (fun z => decide (z ≤ x)) (fun z => decide (z < y)) l (fun z _ hz => by simp at hz ⊢; omega)
    have := h'.2.2; have := h.2.1; omega
  · exact he
  · have := filter_length_le (fun z => decide (z ≤ y)) (fun z => decide (z < x)) l (fun z _ hz => by simp at hz ⊢; omega)
    have := h.2.2; have := h'.2.1; omega
/-- What is told of a share. -/
def firstB (l : List Nat) (k : Nat) : Nat := ((List.range 480).find? (fun b => decide (k ≤ cumN l b))).getD 0
def atVal (l : List Nat) (p : Nat) : Nat := if l = [] then 0 else topB (firstB l (place l.length p))
theorem firstB_told {l : List Nat} {k b : Nat} (h : Told l k b) : firstB l k = b := by
  unfold firstB
  have : (List.range 480).find? (fun b => decide (k ≤ cumN l b)) = some b := by
    rw [List.find?_range_eq_some]
    refine ⟨by simpa using h.2.1, by simp; have := h.1; omega, fun j hj => ?_⟩
    have := h.2.2 j hj
    simp; omega
  rw [this]; rfl
theorem atVal_told {l : List Nat} {p b : Nat} (hne : l ≠ []) (h : Told l (place l.length p) b) : atVal l p = topB b := by
  unfold atVal
  rw [if_neg hne, firstB_told h]
theorem told_exists (l : List Nat) (k : Nat) (hl : ∀ n ∈ l, n < 4611686018427387904) (hk : k ≤ l.length) : ∃ b, Told l k b := by
  have hall := cumN_all l hl
  cases hf : (List.range 480).find? (fun b => decide (k ≤ cumN l b)) with
  | none =>
    rw [List.find?_eq_none] at hf
    have := hf 479 (by simp)
    simp at this
    omega
  | some b =>
    rw [List.find?_range_eq_some] at hf
    obtain ⟨h1, h2, h3⟩ := hf
    simp at h1 h2
    exact ⟨b, by omega, h1, fun b' hb => by have := h3 b' hb; simp at this; omega⟩
theorem atVal_perm {l m : List Nat} (h : l.Perm m) (p : Nat) : atVal l p = atVal m p := by
  unfold atVal
  by_cases h0 : l = []
  · subst h0
    have hm : m = [] := (List.Perm.nil_eq h).symm
    subst hm
    rfl
  · rw [if_neg h0, if_neg (fun e => by subst e; exact h0 h.eq_nil), h.length_eq]
    unfold firstB
    congr 3
    funext b
    rw [cumN_perm h]
theorem atVal_mono {l : List Nat} (hl : ∀ n ∈ l, n < 4611686018427387904) {p q : Nat} (hq : q ≤ 1000) (h : p ≤ q) : atVal l p ≤ atVal l q := by
  by_cases h0 : l = []
  · subst h0; exact Nat.le_refl _
  · have hpos : 0 < l.length := List.length_pos_iff.2 h0
    obtain ⟨b, hb⟩ := told_exists l (place l.length p) hl (place_le _ _ hpos (by omega))
    obtain ⟨c, hc⟩ := told_exists l (place l.length q) hl (place_le _ _ hpos hq)
    rw [atVal_told h0 hb, atVal_told h0 hc]
    refine topB_mono ?_
    rcases Nat.lt_or_ge c b with hlt | hge
    · have := hb.2.2 c hlt
      have := hc.2.1
      have := place_mono l.length h
      omega
    · exact hge
theorem atVal_le {l : List Nat} (hl : ∀ n ∈ l, n < 4611686018427387904) (p : Nat) (hp : p ≤ 1000) : atVal l p ≤ 4611686018427387903 := by
  by_cases h0 : l = []
  · subst h0; simp [atVal]
  · obtain ⟨b, hb⟩ := told_exists l (place l.length p) hl (place_le _ _ (List.length_pos_iff.2 h0) hp)
    rw [atVal_told h0 hb]
    exact topB_le (by have := hb.1; omega)
/-- What is told of a share against the number that is sought. -/
theorem atVal_sought {l : List Nat} (hl : ∀ n ∈ l, n < 4611686018427387904) {p x : Nat} (h : Sought l (place l.length p) x) : atVal l p = topB (bucketN x) :=
  atVal_told (fun e => by subst e; exact absurd h.1 (by simp)) (h.told hl)
end Go.Proofs.Ytfmgcnmikopgeaa
