/- Plain laws of layer 1: far shares, Chebyshev; parts bit by bit. -/
import Derived.Test.YtfmgcnmikopgeaaFixPlain
namespace Go.Proofs.Ytfmgcnmikopgeaa
theorem sq_nonneg' (y : Int) : 0 ≤ y * y := by
  rcases Int.le_total 0 y with h | h
  · exact Int.mul_nonneg h h
  · exact Int.mul_nonneg_of_nonpos_of_nonpos h h
def shareZ (g a : Int) : Int := g * 1000 / a
def sqZ (l : List Int) : Int := sumZ (l.map (fun x => x * x))
def varZ (l : List Int) : Int := l.length * sqZ l - sumZ l * sumZ l
def gapZ (l : List Int) (s : Int) : Int := sumZ l - l.length * s
def farB (s t : Int) (l : List Int) : Bool := decide (0 < gapZ l s ∧ t * t * varZ l < gapZ l s * gapZ l s * 100)
theorem sqZ_take_succ {l : List Int} {k : Nat} {x : Int} (h : l[k]? = some x) : sqZ (l.take (k + 1)) = sqZ (l.take k) + x * x := by
  unfold sqZ
  rw [List.map_take, List.map_take]
  exact sumZ_take_succ (l := l.map (fun x => x * x)) (by simp [h])
theorem sqZ_nonneg (l : List Int) : 0 ≤ sqZ l := sumZ_nonneg (fun x hx => by
  obtain ⟨y, _, rfl⟩ := List.mem_map.1 hx
  exact sq_nonneg' y)
/-- The gaps' squares together, of whatever middle. -/
theorem gaps_sum (c n : Int) : ∀ l : List Int, sumZ (l.map (fun x => (c - n * x) * (c - n * x))) = l.length * (c * c) - 2 * c * n * sumZ l + n * n * sqZ l
  | [] => by simp [sumZ, sqZ]
  | x :: l => by
    have ih := gaps_sum c n l
    have e : sqZ (x :: l) = x * x + sqZ l := by simp [sqZ, sumZ]
    rw [e]
    simp only [List.map_cons, sumZ, ih, List.length_cons]
    have : ((l.length + 1 : Nat) : Int) = (l.length : Int) + 1 := by omega
    rw [this]
    grind
theorem gaps_all (l : List Int) : sumZ (l.map (fun x => gapZ l x * gapZ l x)) = l.length * varZ l := by
  have := gaps_sum (sumZ l) l.length l
  unfold gapZ varZ
  rw [this]
  grind
theorem var_nonneg (l : List Int) (h : l ≠ []) : 0 ≤ varZ l := by
  have h1 := gaps_all l
  have h2 : 0 ≤ sumZ (l.map (fun x => gapZ l x * gapZ l x)) := sumZ_nonneg (fun x hx => by
    obtain ⟨y, _, rfl⟩ := List.mem_map.1 hx
    exact sq_nonneg' _)
  have h3 : 0 < l.length := List.length_pos_iff.2 h
  rw [h1] at h2
  by_cases h4 : 0 ≤ varZ l
  · exact h4
  · have : (l.length : Int) * varZ l < 0 := Int.mul_neg_of_pos_of_neg (by omega) (by omega)
    omega
theorem far_less {s t : Int} {l : List Int} (hl : l ≠ []) (ht : 1 ≤ t) (h : farB s t l = true) : farB s (t - 1) l = true := by
  unfold farB at *
  simp only [decide_eq_true_eq] at *
  have hv := var_nonneg l hl
  refine ⟨h.1, ?_⟩
  have h1 : (t - 1) * (t - 1) ≤ t * t := Int.mul_le_mul (by omega) (by omega) (by omega) (by omega)
  have h2 : (t - 1) * (t - 1) * varZ l ≤ t * t * varZ l := Int.mul_le_mul_of_nonneg_right h1 hv
  omega
theorem sum_le_of_all {b : Int} : ∀ l : List Int, (∀ x ∈ l, x ≤ b) → sumZ l ≤ l.length * b
  | [], _ => by simp [sumZ]
  | x :: l, h => by
    have h1 := h x (by simp)
    have h2 := sum_le_of_all l (fun y hy => h y (by simp [hy]))
    have : ((l.length + 1 : Nat) : Int) * b = l.length * b + b := by rw [show ((l.length + 1 : Nat) : Int) = (l.length : Int) + 1 by omega, Int.add_mul, Int.one_mul]
    simp only [sumZ, List.length_cons]
    omega
theorem far_not_best {s t : Int} {l : List Int} (h : farB s t l = true) (hs : ∀ x ∈ l, x ≤ s) : False := by
  unfold farB at h
  simp only [decide_eq_true_eq] at h
  have := sum_le_of_all l hs
  have := h.1
  unfold gapZ at this
  omega
def bestZ : List Int → Int
  | [] => 0
  | x :: l => max x (bestZ l)
theorem le_bestZ : ∀ (l : List Int) (x : Int), x ∈ l → x ≤ bestZ l
  | y :: l, x, h => by
    rcases List.mem_cons.1 h with rfl | h
    · simp only [bestZ]; omega
    · have := le_bestZ l x h; simp only [bestZ]; omega
/-- How many of some are far from all of l. -/
def farN (t : Int) (l m : List Int) : Int := sumZ (m.map (fun s => if farB s t l then 1 else 0))
theorem farN_gaps (t : Int) (l : List Int) (hv : 0 ≤ varZ l) : ∀ m : List Int, farN t l m * (t * t * varZ l) ≤ 100 * sumZ (m.map (fun x => gapZ l x * gapZ l x))
  | [] => by simp [farN, sumZ]
  | x :: m => by
    have ih := farN_gaps t l hv m
    have e : farN t l (x :: m) = (if farB x t l then 1 else 0) + farN t l m := by simp [farN, sumZ]
    have hg : 0 ≤ gapZ l x * gapZ l x := sq_nonneg' _
    rw [e]
    simp only [List.map_cons, sumZ]
    by_cases hf : farB x t l = true
    · rw [if_pos hf, Int.add_mul, Int.one_mul]
      unfold farB at hf
      simp only [decide_eq_true_eq] at hf
      have := hf.2
      omega
    · rw [if_neg hf, Int.zero_add]
      omega
theorem mem_le_sumZ {l : List Int} (h : ∀ x ∈ l, 0 ≤ x) {x : Int} (hx : x ∈ l) : x ≤ sumZ l := by
  induction l with
  | nil => simp at hx
  | cons y l ih =>
    have h0 := h y (by simp)
    have h1 := sumZ_nonneg (l := l) (fun z hz => h z (by simp [hz]))
    simp only [sumZ]
    rcases List.mem_cons.1 hx with rfl | hx
    · omega
    · have := ih (fun z hz => h z (by simp [hz])) hx; omega
theorem chebyshev (t : Int) (l : List Int) (ht : 1 ≤ t) : farN t l l * t * t ≤ 100 * l.length := by
  by_cases hl : l = []
  · subst hl; simp [farN, sumZ]
  have hv := var_nonneg l hl
  have hlen : 0 < l.length := List.length_pos_iff.2 hl
  have h1 := farN_gaps t l hv l
  rw [gaps_all] at h1
  rcases Int.lt_or_eq_of_le hv with hv | hv
  · have h2 : farN t l l * t * t * varZ l ≤ 100 * l.length * varZ l := by
      have e1 : farN t l l * (t * t * varZ l) = farN t l l * t * t * varZ l := by grind
      have e2 : 100 * ((l.length : Int) * varZ l) = 100 * l.length * varZ l := by grind
      omega
    exact Int.le_of_mul_le_mul_right h2 hv
  · have h0 : farN t l l = 0 := by
      have hz : ∀ x ∈ l, farB x t l = false := fun x hx => by
        have hs : gapZ l x * gapZ l x ≤ sumZ (l.map (fun x => gapZ l x * gapZ l x)) := mem_le_sumZ (fun z hz => by
          obtain ⟨y, _, rfl⟩ := List.mem_map.1 hz
          exact sq_nonneg' _) (List.mem_map.2 ⟨x, hx, rfl⟩)
        rw [gaps_all, ← hv] at hs
        unfold farB
        rw [← hv]
        simp only [decide_eq_false_iff_not]
        intro hh
        have := hh.2
        omega
      unfold farN
      rw [List.map_congr_left (g := fun _ => (0 : Int)) (fun x hx => by simp [hz x hx])]
      clear hz h1 hv hl
      generalize l = m
      induction m with
      | nil => rfl
      | cons x m ih => simp only [List.map_cons, sumZ]; rw [ih]; rfl
    rw [h0]
    omega
end Go.Proofs.Ytfmgcnmikopgeaa
