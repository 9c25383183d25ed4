/- Layer 11: the plain law of zones: counts, percents, rows of IDs. -/
namespace Go.Proofs.Ythblblkifkndiaa
structure En where
  id : Int
  svc : Int
  zone : Int
def isWell (ws : List Int) (e : En) : Bool := decide (e.id ∈ ws)
def isNear (ws : List Int) (z : Int) (e : En) : Bool := decide (e.zone = z) && decide (e.id ∈ ws)
def isFar (ws : List Int) (z : Int) (e : En) : Bool := !decide (e.zone = z) && decide (e.id ∈ ws)
def isHere (z : Int) (e : En) : Bool := decide (e.zone = z)
def homeOf (l : List En) (ws : List Int) (z : Int) : Int := if l.countP (isNear ws z) = 0 then 0 else if l.countP (isFar ws z) = 0 then 100 else 100 * (l.countP (isNear ws z) : Int) / (l.countP (isHere z) : Int)
def panicOf (l : List En) (ws : List Int) (p : Int) : Bool := decide (100 * (l.countP (isWell ws) : Int) < p * (l.length : Int))
def fitOf (l : List En) (ws : List Int) (z p d : Int) (e : En) : Bool := if panicOf l ws p then true else decide (e.id ∈ ws) && (decide (e.zone = z) == decide (d < homeOf l ws z))
/-- s is the IDs of those that fit, rising. -/
def IsIds (l : List En) (f : En → Bool) (s : List Int) : Prop := s.Perm ((l.filter f).map En.id) ∧ s.Pairwise (· ≤ ·)
theorem near_here (l : List En) (ws : List Int) (z : Int) : l.countP (isNear ws z) ≤ l.countP (isHere z) := by
  refine List.countP_mono_left (fun e _ h => ?_)
  simp only [isNear, isHere, Bool.and_eq_true] at h ⊢
  exact h.1
theorem near_far (l : List En) (ws : List Int) (z : Int) : l.countP (isNear ws z) + l.countP (isFar ws z) = l.countP (isWell ws) := by
  induction l with
  | nil => rfl
  | cons e l ih =>
    rw [List.countP_cons, List.countP_cons, List.countP_cons]
    unfold isNear isFar isWell at ih ⊢
    by_cases h1 : e.zone = z <;> by_cases h2 : e.id ∈ ws <;> simp [h1, h2] <;> omega
theorem home_range (l : List En) (ws : List Int) (z : Int) : 0 ≤ homeOf l ws z ∧ homeOf l ws z ≤ 100 := by
  have h := near_here l ws z
  unfold homeOf
  split
  · omega
  · rename_i h0
    split
    · omega
    · constructor
      · exact Int.ediv_nonneg (by omega) (by omega)
      · refine Int.le_of_lt_add_one (Int.ediv_lt_of_lt_mul (by omega) ?_)
        have : (100 + 1 : Int) * (l.countP (isHere z) : Int) = 100 * (l.countP (isHere z) : Int) + (l.countP (isHere z) : Int) := by rw [Int.add_mul, Int.one_mul]
        omega
theorem ids_unique {l : List En} {f : En → Bool} {s t : List Int} (hs : IsIds l f s) (ht : IsIds l f t) : s = t :=
  List.Perm.eq_of_pairwise (le := fun a b => decide (a ≤ b)) (fun a b _ _ h1 h2 => by simp at h1 h2; omega) (by simpa using hs.2) (by simpa using ht.2) (hs.1.trans ht.1.symm)
theorem ids_mem {l : List En} {f : En → Bool} {s : List Int} (hs : IsIds l f s) (id : Int) : id ∈ s ↔ ∃ e ∈ l, f e = true ∧ e.id = id := by
  rw [hs.1.mem_iff, List.mem_map]
  constructor
  · rintro ⟨e, he, hi⟩
    rw [List.mem_filter] at he
    exact ⟨e, he.1, he.2, hi⟩
  · rintro ⟨e, h1, h2, h3⟩
    exact ⟨e, List.mem_filter.2 ⟨h1, h2⟩, h3⟩
theorem ids_len {l : List En} {f : En → Bool} {s : List Int} (hs : IsIds l f s) : s.length = l.countP f := by
  rw [hs.1.length_eq, List.length_map, List.countP_eq_length_filter]
theorem ids_nodup {l : List En} {f : En → Bool} {s : List Int} (hs : IsIds l f s) (hd : (l.map En.id).Nodup) : s.Pairwise (· < ·) := by
  have h1 : s.Nodup := hs.1.nodup_iff.2 (hd.sublist ((List.filter_sublist).map _))
  refine (hs.2.and h1).imp (fun h => ?_)
  omega
theorem ids_congr {l : List En} {f g : En → Bool} {s : List Int} (hs : IsIds l f s) (h : ∀ e ∈ l, f e = g e) : IsIds l g s := by
  unfold IsIds at *
  rwa [← List.filter_congr h]
/-! Some. -/
theorem fit_some {l : List En} {ws : List Int} {z p d : Int} (hd0 : 0 ≤ d) (hd : d < 100) (hp : panicOf l ws p = false) : (∃ e ∈ l, fitOf l ws z p d e = true) ↔ ∃ e ∈ l, e.id ∈ ws := by
  constructor
  · rintro ⟨e, he, h⟩
    unfold fitOf at h
    rw [hp] at h
    simp only [Bool.false_eq_true, if_false, Bool.and_eq_true, decide_eq_true_eq] at h
    exact ⟨e, he, h.1⟩
  · rintro ⟨e, he, hw⟩
    have key : ∀ b : Bool, 0 < l.countP (if b then isNear ws z else isFar ws z) → decide (d < homeOf l ws z) = b → ∃ e ∈ l, fitOf l ws z p d e = true := by
      intro b hc hb
      obtain ⟨x, hx, hxf⟩ := List.countP_pos_iff.1 hc
      refine ⟨x, hx, ?_⟩
      unfold fitOf
      rw [hp, hb]
      cases b
      · simp only [Bool.false_eq_true, if_false, isFar, Bool.and_eq_true, Bool.not_eq_true', decide_eq_false_iff_not, decide_eq_true_eq] at hxf
        simp [hxf.1, hxf.2]
      · simp only [if_true, isNear, Bool.and_eq_true, decide_eq_true_eq] at hxf
        simp [hxf.1, hxf.2]
    have hpos : 0 < l.countP (isWell ws) := List.countP_pos_iff.2 ⟨e, he, by simp [isWell, hw]⟩
    have hnf := near_far l ws z
    by_cases h0 : l.countP (isNear ws z) = 0
    · refine key false (by simpa using (by omega : 0 < l.countP (isFar ws z))) ?_
      simp [homeOf, h0]; omega
    · by_cases h1 : l.countP (isFar ws z) = 0
      · refine key true (by simpa using (by omega : 0 < l.countP (isNear ws z))) ?_
        simp [homeOf, h0, h1]; omega
      · by_cases h2 : d < homeOf l ws z
        · exact key true (by simpa using (by omega : 0 < l.countP (isNear ws z))) (by simpa using h2)
        · exact key false (by simpa using (by omega : 0 < l.countP (isFar ws z))) (by simpa using h2)
/-! More. -/
theorem count_more {l : List En} {p q : En → Bool} (h : ∀ e ∈ l, p e = true → q e = true) : l.countP p ≤ l.countP q := List.countP_mono_left h
theorem panic_more {l : List En} {ws : List Int} {p id : Int} (h : panicOf l (ws ++ [id]) p = true) : panicOf l ws p = true := by
  have hc : l.countP (isWell ws) ≤ l.countP (isWell (ws ++ [id])) := count_more (fun e _ h => by
    simp only [isWell, decide_eq_true_eq, List.mem_append] at h ⊢; exact .inl h)
  simp only [panicOf, decide_eq_true_eq] at h ⊢
  omega
theorem home_more {l : List En} {ws : List Int} {z : Int} {x : En} (hd : ∀ e ∈ l, e.id = x.id → e.zone = z) : homeOf l ws z ≤ homeOf l (ws ++ [x.id]) z := by
  have hn : l.countP (isNear ws z) ≤ l.countP (isNear (ws ++ [x.id]) z) := count_more (fun e _ h => by
    simp only [isNear, Bool.and_eq_true, decide_eq_true_eq, List.mem_append] at h ⊢; exact ⟨h.1, .inl h.2⟩)
  have hf : l.countP (isFar (ws ++ [x.id]) z) = l.countP (isFar ws z) := by
    refine List.countP_congr (fun e he => ?_)
    simp only [isFar, Bool.and_eq_true, Bool.not_eq_true', decide_eq_false_iff_not, decide_eq_true_eq, List.mem_append, List.mem_singleton]
    constructor
    · rintro ⟨h1, h2 | h2⟩
      · exact ⟨h1, h2⟩
      · exact absurd (hd e he h2) h1
    · rintro ⟨h1, h2⟩
      exact ⟨h1, .inl h2⟩
  have hr := (home_range l (ws ++ [x.id]) z).1
  by_cases h0 : l.countP (isNear ws z) = 0
  · rw [show homeOf l ws z = 0 by simp [homeOf, h0]]; exact hr
  · have h0' : ¬ l.countP (isNear (ws ++ [x.id]) z) = 0 := by omega
    unfold homeOf
    rw [if_neg h0, if_neg h0', hf]
    split
    · omega
    · exact Int.ediv_le_ediv (by have := near_here l ws z; omega) (by omega)
/-! The row. -/
theorem same_well {ws ws' : List Int} (h : ∀ id, id ∈ ws ↔ id ∈ ws') : isWell ws = isWell ws' ∧ (∀ z, isNear ws z = isNear ws' z) ∧ (∀ z, isFar ws z = isFar ws' z) := by
  refine ⟨?_, fun z => ?_, fun z => ?_⟩ <;> funext e <;> simp [isWell, isNear, isFar, h]
theorem home_row {l l' : List En} {ws ws' : List Int} {z : Int} (hl : l.Perm l') (hw : ∀ id, id ∈ ws ↔ id ∈ ws') : homeOf l ws z = homeOf l' ws' z := by
  obtain ⟨-, h2, h3⟩ := same_well hw
  unfold homeOf
  rw [h2, h3, hl.countP_eq, hl.countP_eq, hl.countP_eq]
theorem panic_row {l l' : List En} {ws ws' : List Int} {p : Int} (hl : l.Perm l') (hw : ∀ id, id ∈ ws ↔ id ∈ ws') : panicOf l ws p = panicOf l' ws' p := by
  obtain ⟨h1, -, -⟩ := same_well hw
  unfold panicOf
  rw [h1, hl.countP_eq, hl.length_eq]
theorem fit_row {l l' : List En} {ws ws' : List Int} {z p d : Int} (hl : l.Perm l') (hw : ∀ id, id ∈ ws ↔ id ∈ ws') : fitOf l ws z p d = fitOf l' ws' z p d := by
  funext e
  unfold fitOf
  rw [panic_row hl hw, home_row hl hw]
  simp only [hw]
theorem ids_row {l l' : List En} {f : En → Bool} {s : List Int} (hl : l.Perm l') (hs : IsIds l f s) : IsIds l' f s := ⟨hs.1.trans ((hl.filter f).map _), hs.2⟩
/-! The share. -/
/-- One that fits says whether it is here. -/
theorem first_zone {l : List En} {ws : List Int} {z d : Int} {e : En} (h : fitOf l ws z 0 d e = true) : decide (e.zone = z) = decide (d < homeOf l ws z) := by
  have hp : panicOf l ws 0 = false := by simp [panicOf]; omega
  unfold fitOf at h
  rw [hp] at h
  simp only [Bool.false_eq_true, if_false, Bool.and_eq_true, beq_iff_eq] at h
  exact h.2
/-- How many of the endpoints are the first that is told, and are here. -/
theorem share_one {l : List En} {ws : List Int} {z d : Int} {s : List Int} (hd : (l.map En.id).Nodup) (hs : IsIds l (fitOf l ws z 0 d) s) (hd0 : 0 ≤ d) (hd1 : d < 100) :
    l.countP (fun e => match s with | [] => false | a :: _ => decide (e.id = a) && decide (e.zone = z)) = if d < homeOf l ws z then 1 else 0 := by
  have hp : panicOf l ws 0 = false := by simp [panicOf]; omega
  cases s with
  | nil =>
    have hno : ¬ ∃ e ∈ l, e.id ∈ ws := fun hh => by
      obtain ⟨e, he, hf⟩ := (fit_some (z := z) hd0 hd1 hp).2 hh
      have := (ids_mem hs e.id).2 ⟨e, he, hf, rfl⟩
      simp at this
    have h0 : l.countP (isNear ws z) = 0 := by
      rw [List.countP_eq_zero]
      intro e he hn
      simp only [isNear, Bool.and_eq_true, decide_eq_true_eq] at hn
      exact hno ⟨e, he, hn.2⟩
    have hh : homeOf l ws z = 0 := by simp [homeOf, h0]
    rw [hh, if_neg (by omega)]
    exact List.countP_eq_zero.2 (fun e _ h => by cases h)
  | cons a t =>
    obtain ⟨x, hx, hxf, hxa⟩ := (ids_mem hs a).1 (by simp)
    have hz := first_zone hxf
    have hone : ∀ e ∈ l, e.id = a → e = x := fun e he hea => by
      have : e.id = x.id := by rw [hea, hxa]
      obtain ⟨i, hi, rfl⟩ := List.getElem_of_mem he
      obtain ⟨j, hj, rfl⟩ := List.getElem_of_mem hx
      have hpw := List.pairwise_iff_getElem.1 hd
      have hij : i = j := by
        rcases Nat.lt_trichotomy i j with h | h | h
        · exact absurd (by rw [List.getElem_map, List.getElem_map]; exact this) (hpw i j (by simpa using hi) (by simpa using hj) h)
        · exact h
        · exact absurd (by rw [List.getElem_map, List.getElem_map]; exact this.symm) (hpw j i (by simpa using hj) (by simpa using hi) h)
      subst hij; rfl
    by_cases h : d < homeOf l ws z
    · rw [if_pos h]
      have hxz : x.zone = z := by simpa [h] using hz
      have hc : l.countP (fun e => decide (e.id = a)) = 1 := by
        have h1 : (l.map En.id).count a = 1 := by
          have h2 := List.nodup_iff_count.1 hd a
          have h3 : 1 ≤ (l.map En.id).count a := List.count_pos_iff.2 (by rw [← hxa]; exact List.mem_map_of_mem hx)
          omega
        rw [List.count, List.countP_map] at h1
        rw [← h1]
        refine List.countP_congr (fun e _ => by simp)
      rw [← hc]
      refine List.countP_congr (fun e he => ?_)
      simp only [Bool.and_eq_true, decide_eq_true_eq]
      constructor
      · exact fun hh => hh.1
      · exact fun hh => ⟨hh, by rw [hone e he hh]; exact hxz⟩
    · rw [if_neg h]
      have hxz : ¬ x.zone = z := by simpa [h] using hz
      refine List.countP_eq_zero.2 (fun e he hh => ?_)
      simp only [Bool.and_eq_true, decide_eq_true_eq] at hh
      rw [hone e he hh.1] at hh
      exact hxz hh.2
end Go.Proofs.Ythblblkifkndiaa
