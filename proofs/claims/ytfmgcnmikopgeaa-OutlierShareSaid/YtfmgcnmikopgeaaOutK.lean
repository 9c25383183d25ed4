/- Layer 14: the plain law of notes and ticks. -/
import Derived.Test.YtfmgcnmikopgeaaOutI
namespace Go.Proofs.Ytfmgcnmikopgeaa
open Go.RowKit
theorem EsOk.mono {c d : Int} {s : Es} (h : EsOk c s) (hd : c ≤ d) : EsOk d s := ⟨h.r0, by have := h.r1; omega, h.t0, by have := h.t1; omega, h.w0, h.w1, by have := h.a1; omega, h.n⟩
theorem EsOk.zero : EsOk 0 zeroE := ⟨by decide, by decide, by decide, by decide, by decide, by decide, by decide, fun n hn => by cases hn⟩
theorem EsOk.err {c : Int} {s : Es} (h : EsOk c s) : EsOk (c + 1) (errE s) :=
  ⟨by have := h.r0; show 0 ≤ s.row + 1; omega, by have := h.r1; show s.row + 1 ≤ c + 1 + 1000; omega, h.t0, by have := h.t1; show s.times ≤ c + 1; omega, h.w0, by have := h.w1; show s.well ≤ s.att + 1; omega, by have := h.a1; show s.att + 1 ≤ c + 1; omega, h.n⟩
theorem EsOk.eject {c : Int} {s : Es} (h : EsOk c s) (t : Wt) (now : Int) (hc : 0 ≤ c) : EsOk (c + 1) (ejectE t now s) :=
  ⟨h.r0, by have := h.r1; show s.row ≤ c + 1 + 1000; omega, by have := h.t0; show 0 ≤ s.times + 1; omega, by have := h.t1; show s.times + 1 ≤ c + 1; omega, by show ((0 : Nat) : Int) = 0; rfl, by show (0 : Int) ≤ 0; omega, by show (0 : Int) ≤ c + 1; omega, fun n hn => by cases hn⟩
theorem EsOk.back {c : Int} {s : Es} (h : EsOk c s) {t : Wt} (ht : WtOk t) (hc : 0 ≤ c) : EsOk c (backE t s) :=
  ⟨by have := ht.e0; show 0 ≤ t.errors - 1; omega, by have := ht.e1; show t.errors - 1 ≤ c + 1000; omega, h.t0, h.t1, h.w0, h.w1, h.a1, h.n⟩
theorem note_ok {N : Nat} {t : Wt} {S S' : Nat → Es} {now k : Int} {took : Nat} {wl is : Bool} {c : Int} (hS : ∀ i, i < N → EsOk c (S i)) (hc : 0 ≤ c) (htk : took < 1000000) (h : NoteIs N t S now k took wl S' is) : ∀ i, i < N → EsOk (c + 1) (S' i) := by
  intro j hj
  have hu : ∀ (i : Nat) (s : Es), EsOk (c + 1) s → EsOk (c + 1) (upd S i s j) := fun i s hs => by
    by_cases e : j = i
    · subst e; rw [upd_same]; exact hs
    · rw [upd_other _ _ e]; exact (hS j hj).mono (by omega)
  cases h with
  | gone b h1 => exact (hS j hj).mono (by omega)
  | out b i h1 h2 h3 => exact (hS j hj).mono (by omega)
  | well i sk h1 h2 h3 h4 =>
    have h := hS i h1
    refine hu i _ ⟨by show (0 : Int) ≤ 0; omega, by show (0 : Int) ≤ c + 1 + 1000; omega, h.t0, by have := h.t1; show (S i).times ≤ c + 1; omega, ?_, ?_, ?_, fun n hn => ?_⟩
    · show ((skNums sk).length : Int) = (S i).well + 1
      rw [h4, List.length_append]
      have := h.w0
      simp; omega
    · have := h.w1; show (S i).well + 1 ≤ (S i).att + 1; omega
    · have := h.a1; show (S i).att + 1 ≤ c + 1; omega
    · have hn' : n ∈ skNums sk := hn
      rw [h4] at hn'
      rcases List.mem_append.1 hn' with h5 | h5
      · exact h.n n h5
      · simp at h5; subst h5; exact htk
  | err i h1 h2 h3 h4 => exact hu i _ (hS i h1).err
  | eject i h1 h2 h3 h4 h5 =>
    refine hu i _ ?_
    have h := hS i h1
    exact ⟨by have := h.r0; show 0 ≤ (S i).row + 1; omega, by have := h.r1; show (S i).row + 1 ≤ c + 1 + 1000; omega, by have := h.t0; show 0 ≤ (S i).times + 1; omega, by have := h.t1; show (S i).times + 1 ≤ c + 1; omega, by show ((0 : Nat) : Int) = 0; rfl, by show (0 : Int) ≤ 0; omega, by show (0 : Int) ≤ c + 1; omega, fun n hn => by cases hn⟩
theorem tick_ok {N : Nat} {t : Wt} {S : Nat → Es} {c : Int} (now : Int) (ht : WtOk t) (hc : 0 ≤ c) (hS : ∀ i, i < N → EsOk c (S i)) : ∀ i, i < N → EsOk c (tickS N t S now i) := by
  intro i hi
  unfold tickS clr
  split
  · exact (hS i hi).back ht hc
  · exact hS i hi
theorem note_err {N : Nat} {t : Wt} {S S' : Nat → Es} {now k : Int} {took : Nat} {is : Bool} {i : Nat} (h : NoteIs N t S now k took false S' is) (hi : i < N) (hk : k = (i : Int) + 1) (he : (S i).ej = false) (hr : (S i).row + 1 < t.errors) : S' = upd S i (errE (S i)) ∧ is = false := by
  cases h with
  | gone b h1 => omega
  | out b j h1 h2 h3 => obtain rfl : j = i := (by omega); rw [he] at h3; cases h3
  | err j h1 h2 h3 h4 => obtain rfl : j = i := (by omega); exact ⟨rfl, rfl⟩
  | eject j h1 h2 h3 h4 h5 => obtain rfl : j = i := (by omega); exact absurd hr h4
theorem note_ej {N : Nat} {t : Wt} {S S' : Nat → Es} {now k : Int} {took : Nat} {is : Bool} {i : Nat} (h : NoteIs N t S now k took false S' is) (hi : i < N) (hk : k = (i : Int) + 1) (he : (S i).ej = false) (hr : ¬ (S i).row + 1 < t.errors) (hro : roomB N t (upd S i (errE (S i))) = true) : S' = upd S i (ejectE t now (errE (S i))) ∧ is = true := by
  cases h with
  | gone b h1 => omega
  | out b j h1 h2 h3 => obtain rfl : j = i := (by omega); rw [he] at h3; cases h3
  | err j h1 h2 h3 h4 =>
    obtain rfl : j = i := by omega
    rcases h4 with h4 | h4
    · exact absurd h4 hr
    · rw [hro] at h4; cases h4
  | eject j h1 h2 h3 h4 h5 => obtain rfl : j = i := (by omega); exact ⟨rfl, rfl⟩
/-! The example. -/
def exT : Wt := ⟨2, 1000, 0, 0, 50, 10, 1000⟩
theorem exT_ok : WtOk exT := ⟨by decide, by decide, by decide, by decide, by decide, by decide, by decide, by decide, by decide, by decide⟩
def ex0 : Nat → Es := fun _ => zeroE
def ex1 : Nat → Es := upd ex0 0 (errE (ex0 0))
def ex2 : Nat → Es := upd ex1 0 (ejectE exT 5 (errE (ex1 0)))
def ex3 : Nat → Es := tickS 2 exT ex2 15
def ex4 : Nat → Es := upd ex3 0 (ejectE exT 16 (errE (ex3 0)))
theorem ex_room1 : roomB 2 exT (upd ex1 0 (errE (ex1 0))) = true := by decide
theorem ex_until1 : untlOf 2 ex2 1 = 15 := by decide
theorem ex_back : idsOf 2 (backP ex2 15) = [1] := by decide
theorem ex_room2 : roomB 2 exT (upd ex3 0 (errE (ex3 0))) = true := by decide
theorem ex_until2 : untlOf 2 ex4 1 = 36 := by decide
theorem ex_well : idsOf 2 (fun i => !(ex4 i).ej) = [2] := by decide
end Go.Proofs.Ytfmgcnmikopgeaa
