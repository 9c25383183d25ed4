/- Layer 23: the state between two acts of a law. -/
import Derived.Test.YtklbnldkfohkpaaGateS
namespace Go.Proofs.Ytklbnldkfohkpaa
open Go.RowKit
theorem lim_low (l : Lim) (now u took : Int) (well : Bool) : (l.done now u took well).low = l.low := by
  have hn : (l.note took well).low = l.low := by unfold Lim.note; split <;> rfl
  unfold Lim.done Lim.fall
  split
  · exact hn
  · split <;> exact hn
theorem start_st {lo hi M : Int} (h1 : 1 ≤ lo) (h2 : lo ≤ hi) (h3 : hi ≤ 1000) (m0 : 0 ≤ M) (m1 : M ≤ 1000) : St (newGt lo hi M) 0 [] [] [] 0 := by
  refine ⟨⟨⟨RowsOk.nil, by simp [newGt], m0, m1, gLim_ok h1 h2 h3, by simp [newGt]⟩, rfl, fun id => ?_, fun id => by simp, fun id hne => by simp at hne, by simp [newGt], m0, ?_⟩, fun _ => rfl, by simp, by omega⟩
  · show 0 = cR (fun _ => ⟨[], false, 0⟩) id
    simp [cR, cid]
  · simp [newGt, newLim]; omega
/-- The state between two acts. -/
structure PlR (base : Nat) (w2 wr : World) (gb pb : Nat) (S : List Nat) (M lo hi : Int) (g : Gt) (us ws os : List Int) (j : Nat) (now E : Int) : Prop where
  p : Placed base wr gb g pb us ws os S
  st : St g j us ws os E
  most : g.most = M
  low : g.lim.low = lo
  high : g.lim.high = hi
  q : QStep base S w2 wr
  now : 0 ≤ now ∧ now ≤ 3 * (j : Int)
theorem PlR.next {base : Nat} {w2 wr wy : World} {gb pb : Nat} {S : List Nat} {M lo hi : Int} {g : Gt} {us ws os : List Int} {j : Nat} {now E : Int} (h : PlR base w2 wr gb pb S M lo hi g us ws os j now E) (u : Upd [] wr wy) : PlR base w2 wy gb pb S M lo hi g us ws os j now E :=
  ⟨h.p.next u, h.st, h.most, h.low, h.high, h.q.trans (h.p.step0 u), h.now⟩
theorem PlR.act {base : Nat} {w2 wr : World} {gb pb : Nat} {S : List Nat} {M lo hi : Int} {g : Gt} {us ws os : List Int} {j : Nat} {now E : Int} (h : PlR base w2 wr gb pb S M lo hi g us ws os j now E) {a : AcT} (ha : a.Ok) (hj : j < 40) {d : Int} {L : Lim}
    {e : Ending} {w' : World} (hp : ActPost base gb g j pb S E d L wr e w') (hL : L.low = g.lim.low ∧ L.high = g.lim.high) : e = .returned (.bool true) ∧ ∃ g' us' ws' os', PlR base w2 w' gb pb S M lo hi g' us' ws' os' (j + 1) (now + a.later) (E + d) ∧ g'.lim = L := by
  obtain ⟨he, g', us', ws', os', hp', hst, hm, hl, hq⟩ := hp
  refine ⟨he, g', us', ws', os', ⟨hp', hst, hm.trans h.most, ?_, ?_, h.q.trans hq, ?_⟩, hl⟩
  · rw [hl, hL.1]; exact h.low
  · rw [hl, hL.2]; exact h.high
  · have := ha.later; have := h.now; omega
theorem if_lim {g : Gt} {P : Prop} [Decidable P] (now u took : Int) (well : Bool) : (if P then g.lim.done now u took well else g.lim).low = g.lim.low ∧ (if P then g.lim.done now u took well else g.lim).high = g.lim.high := by
  by_cases h : P
  · rw [if_pos h]; exact ⟨lim_low _ _ _ _ _, lim_high _ _ _ _ _⟩
  · rw [if_neg h]; exact ⟨rfl, rfl⟩
theorem cellsA_get : ∀ (l : List AcT) (k : Nat) (a : AcT), l[k]? = some a → ∀ (c : Nat) (u : Value), a.cells[c]? = some u → (cellsA l)[k * 7 + c]? = some u
  | [], k, a, h, _, _, _ => by simp at h
  | b :: l, 0, a, h, c, u, hu => by
    simp at h; subst h
    have hc : c < b.cells.length := (List.getElem?_eq_some_iff.1 hu).1
    show (b.cells ++ cellsA l)[0 * 7 + c]? = some u
    rw [Nat.zero_mul, Nat.zero_add, List.getElem?_append_left hc]; exact hu
  | b :: l, k + 1, a, h, c, u, hu => by
    have := cellsA_get l k a (by simpa using h) c u hu
    show (b.cells ++ cellsA l)[(k + 1) * 7 + c]? = some u
    rw [List.getElem?_append_right (by simp [AcT.cells]; omega)]
    have e : (k + 1) * 7 + c - b.cells.length = k * 7 + c := by simp [AcT.cells]; omega
    rw [e]; exact this
theorem OwnActs.read {base : Nat} {w : World} {v : Value} {l : List AcT} (h : OwnActs base w v l) : (l = [] ∧ v = .slice none 0 0) ∨
    ∃ g cap, v = .slice (some ⟨g, 0, none⟩) l.length cap ∧ base ≤ g ∧ g < w.heap.size ∧ l.length ≤ cap ∧ cap ≤ maxLen ∧ ∀ (j : Nat) (a : AcT), l[j]? = some a → ∀ (c : Nat) (u : Value), a.cells[c]? = some u → w.cell? ⟨g, j * 7 + c, none⟩ = some u := by
  unfold OwnActs at h
  have hlt := h.lt
  have hc := fun g hg => h.cells (g := g) hg
  rcases h.2 with ⟨hv, hn⟩ | ⟨g, cap, cur, rfl, _, hgg, hlc, hcm, _⟩
  · exact .inl ⟨List.eq_nil_of_length_eq_zero hn, hv⟩
  · refine .inr ⟨g, cap, rfl, (hlt g rfl).1, (hlt g rfl).2, hlc, hcm, fun j a ha c u hu => ?_⟩
    have := hc g rfl (j * 7 + c) u (cellsA_get l j a ha c u hu)
    simpa only [Addr.add_lit, Nat.zero_add] using this
/-- The blocks of the acts lie beside. -/
theorem Placed.news {base : Nat} {W W' : World} {gb : Nat} {g : Gt} {pb : Nat} {us ws os : List Int} {S : List Nat} (h : Placed base W gb g pb us ws os S) (u : Upd [] W W') (v : Value) (hv : ∀ k, v.ownBlock = some k → W.heap.size ≤ k ∧ k < W'.heap.size) : Placed base W' gb g pb us ws os (v.ownBlock.toList ++ S) := by
  cases e : v.ownBlock with
  | none => simpa using h.next u
  | some k => simpa using h.new u (hv k e).1 (hv k e).2
/-- The places begin empty, beside a new gate. -/
theorem GateAt.noPlaces {base : Nat} {w : World} {gb : Nat} {g : Gt} {S : List Nat} (hg : GateAt base w gb g S) :
    Placed base (w.alloc (.cells #[.slice none 0 0, .slice none 0 0, .slice none 0 0] 45)) gb g w.heap.size [] [] [] S := by
  have hlt := hg.lt
  refine ⟨.slice none 0 0, .slice none 0 0, .slice none 0 0, ⟨BlockAt.new _ _ _, hg.base_le, fun j hj => ?_, fun j k hj hk => ?_, fun i j k hi hj _ hk => ?_⟩, fun k hk hm => ?_, ?_⟩
  · rcases (show j = 0 ∨ j = 1 ∨ j = 2 by omega) with rfl | rfl | rfl <;> exact OffInts.nil _ _
  · rcases (show j = 0 ∨ j = 1 ∨ j = 2 by omega) with rfl | rfl | rfl <;> simp [three, Value.ownBlock] at hk
  · rcases (show i = 0 ∨ i = 1 ∨ i = 2 by omega) with rfl | rfl | rfl <;> simp [three, Value.ownBlock] at hk
  · have := hlt k hk
    simp [plBlocks, three, Value.ownBlock] at hm
    omega
  · exact (hg.new (Upd.alloc [] w _) (Nat.le_refl _) (by simp)).sub (fun k hk => by simpa [plBlocks, three, Value.ownBlock] using hk)
theorem newActs {base : Nat} {w : World} {v : Value} {l : List AcT} (h : OwnActs base w v l) : ∃ ao cap, v = .slice ao l.length cap := by
  rcases h.read with ⟨rfl, rfl⟩ | ⟨g, cap, rfl, -⟩
  · exact ⟨none, 0, rfl⟩
  · exact ⟨_, _, rfl⟩
end Go.Proofs.Ytklbnldkfohkpaa
