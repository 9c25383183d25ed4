/- Layer 14: Tick whole; what OutlierShare and OutlierWell keep, plain. -/
import Derived.Test.YtfmgcnmikopgeaaOutS
namespace Go.Proofs.Ytfmgcnmikopgeaa
open Go.RowKit
inductive TickIs (N : Nat) (t : Wt) (now frm : Int) (S : Nat → Es) : (Nat → Es) → Int → List Int → Prop
  | in_ : now - frm < t.window → TickIs N t now frm S (tickS N t S now) frm []
  | end_ (S' : Nat → Es) (out : List Int) : t.window ≤ now - frm → EndIs N t now (tickS N t S now) S' out → TickIs N t now frm S S' now out
theorem tick_all (base b : Nat) (t : Wt) (frm : Int) (m N : Nat) (B : Nat → Nat) (S : Nat → Es) (now c : Int) (w : World) (h : GAt base w b t frm m N B S) (ht : WtOk t) (hN : (N : Int) ≤ 20) (hbw : base ≤ w.heap.size) (hd0 : 0 ≤ t.dev) (hd1 : t.dev ≤ 1000) (hc0 : 0 ≤ c) (hc : c ≤ 900) (hS : ∀ i, i < N → EsOk c (S i)) (hn0 : 0 ≤ now) (hn1 : now ≤ 1000000000) (hf0 : 0 ≤ frm) (hf1 : frm ≤ 1000000000) :
    Calls Try.prog 13 #[.pointer (some ⟨b, 0, none⟩), .int .i64 now] w fun e w' => ∃ ov bv S' frm' out, e = .returned (.tuple #[ov, bv]) ∧ TickIs N t now frm S S' frm' out ∧ (∃ lo, OwnInts lo w' ov out) ∧ OwnInts w.heap.size w' bv (idsOf N (backP S now)) ∧ GAt base w' b t frm' m N B S' ∧ GStep base w w' := by
  refine (tick_any base b t frm m N B S now (fun ov W' => ∃ S' out lo, EndIs N t now (tickS N t S now) S' out ∧ OwnInts lo W' ov out ∧ GAt base W' b t now m N B S') w h ht (by omega) hbw hn0 hn1 hf0 hf1 (fun W hg hb _ => (end_any base b t frm m N B (tickS N t S now) now c W hg ht hN hb hd0 hd1 hc (tick_ok now ht hc0 hS) hn0 hn1).mono ?_)).mono ?_
  · rintro e W' ⟨ov, S', out, rfl, h1, h2, h3, h4⟩
    exact ⟨ov, rfl, ⟨S', out, _, h1, h2, h3⟩, h4⟩
  · rintro e w' ⟨ov, bv, rfl, h1, h2⟩
    rcases h2 with ⟨h2, rfl, h3⟩ | ⟨h2, ⟨S', out, lo, h3, h4, h5⟩, h6⟩
    · exact ⟨_, bv, _, frm, [], rfl, .in_ h2, ⟨0, OwnInts.nil _ _⟩, h1, h3.1, h3.2⟩
    · exact ⟨ov, bv, S', now, out, rfl, .end_ S' out h2 h3, ⟨lo, h4⟩, h1, h5, h6⟩
theorem EndE.ok {t : Wt} {now c : Int} {s s' : Es} (h : EndE t now s s') (hs : EsOk c s) (hc : 0 ≤ c) : EsOk (c + 1) s' :=
  ⟨by have := h.row; have := hs.r0; omega, by have := h.row; have := hs.r1; omega, (h.t0 hs.t0).1, by have := (h.t0 hs.t0).2; have := hs.t1; omega, by rw [h.sk, h.well]; rfl, by rw [h.well, h.att]; omega, by rw [h.att]; omega, by rw [h.sk]; intro n hn; cases hn⟩
theorem TickIs.ok {N : Nat} {t : Wt} {now frm c : Int} {S S' : Nat → Es} {frm' : Int} {out : List Int} (h : TickIs N t now frm S S' frm' out) (ht : WtOk t) (hc : 0 ≤ c) (hS : ∀ i, i < N → EsOk c (S i)) : ∀ i, i < N → EsOk (c + 1) (S' i) := by
  intro i hi
  cases h with
  | in_ h1 => exact (tick_ok now ht hc hS i hi).mono (by omega)
  | end_ _ _ h1 h2 => exact (h2.each i hi).ok (tick_ok now ht hc hS i hi) hc
theorem outN_mono {N : Nat} {S S' : Nat → Es} (h : ∀ i, i < N → (S' i).ej = true → (S i).ej = true) : outN N S' ≤ outN N S := by
  unfold outN
  have : ∀ l : List Nat, (∀ i ∈ l, (S' i).ej = true → (S i).ej = true) → (l.filter (fun i => (S' i).ej)).length ≤ (l.filter (fun i => (S i).ej)).length := by
    intro l hl
    induction l with
    | nil => simp
    | cons a l ih =>
      have h1 := hl a (by simp)
      have h2 := ih (fun i hi => hl i (by simp [hi]))
      rw [List.filter_cons, List.filter_cons]
      by_cases e : (S' a).ej = true
      · rw [if_pos e, if_pos (h1 e)]; simp only [List.length_cons]; omega
      · rw [if_neg e]
        split <;> (try simp only [List.length_cons]) <;> omega
  exact this _ (fun i hi => h i (List.mem_range.1 hi))
/-! Never too many. -/
structure ShareI (t : Wt) (now c : Int) (S : Nat → Es) : Prop where
  ok : ∀ i, i < 4 → EsOk c (S i)
  cap : (outN 4 S : Int) ≤ 4 * t.share / 100
  un : ∀ i, i < 4 → ((S i).ej = true ∧ 1 ≤ (S i).untl ∧ (S i).untl ≤ now + t.top) ∨ ((S i).ej = false ∧ (S i).untl = 0)
theorem ShareI.zero (t : Wt) (h0 : 0 ≤ t.share) : ShareI t 0 0 (fun _ => zeroE) := by
  refine ⟨fun _ _ => EsOk.zero, ?_, fun _ _ => .inr ⟨rfl, rfl⟩⟩
  have : outN 4 (fun _ => zeroE) = 0 := rfl
  rw [this]
  have : (0 : Int) ≤ 4 * t.share / 100 := Int.ediv_nonneg (by omega) (by omega)
  simpa using this
theorem ShareI.later {t : Wt} {now now' c c' : Int} {S : Nat → Es} (h : ShareI t now c S) (hn : now ≤ now') (hc : c ≤ c') : ShareI t now' c' S :=
  ⟨fun i hi => (h.ok i hi).mono hc, h.cap, fun i hi => (h.un i hi).imp (fun h => ⟨h.1, h.2.1, by omega⟩) _root_.id⟩
theorem ejectE_untl {t : Wt} (ht : WtK t) (now : Int) (hn : 0 ≤ now) (s : Es) : 1 ≤ (ejectE t now s).untl ∧ (ejectE t now s).untl ≤ now + t.top := by
  have h1 := ht.b0
  have h2 := ht.b1
  have h3 := ht.t0
  have h4 := ht.t1
  have := waitR_bound (base := t.base) (top := t.top) h1 (by omega) (by omega) s.times.toNat
  unfold ejectE
  dsimp only
  omega
theorem ShareI.note {t : Wt} (ht : WtK t) {now c k : Int} {S S' : Nat → Es} {took : Nat} {wl is : Bool} (h : ShareI t now c S) (hn : 0 ≤ now) (hc : 0 ≤ c) (htk : took < 1000000) (hi : NoteIs 4 t S now k took wl S' is) : ShareI t now (c + 1) S' := by
  have hok := note_ok h.ok hc htk hi
  have same : ∀ (i : Nat) (s' : Es), i < 4 → s'.ej = (S i).ej → s'.untl = (S i).untl → (∀ i, i < 4 → EsOk (c + 1) (upd S i s' i)) ∨ True → (outN 4 (upd S i s') = outN 4 S) ∧ ∀ j, j < 4 → ((upd S i s' j).ej = true ∧ 1 ≤ (upd S i s' j).untl ∧ (upd S i s' j).untl ≤ now + t.top) ∨ ((upd S i s' j).ej = false ∧ (upd S i s' j).untl = 0) := fun i s' hi h1 h2 _ => by
    refine ⟨outN_congr fun j hj => ?_, fun j hj => ?_⟩
    · by_cases e : j = i
      · subst e; rw [upd_same, h1]
      · rw [upd_other _ _ e]
    · by_cases e : j = i
      · subst e; rw [upd_same, h1, h2]; exact h.un j hj
      · rw [upd_other _ _ e]; exact h.un j hj
  cases hi with
  | gone b h1 => exact ⟨hok, h.cap, h.un⟩
  | out b i h1 h2 h3 => exact ⟨hok, h.cap, h.un⟩
  | well i sk h1 h2 h3 h4 =>
    obtain ⟨e1, e2⟩ := same i ⟨0, (S i).times, (S i).ej, (S i).untl, (S i).att + 1, (S i).well + 1, sk⟩ h1 rfl rfl (.inr trivial)
    exact ⟨hok, by rw [e1]; exact h.cap, e2⟩
  | err i h1 h2 h3 h4 =>
    obtain ⟨e1, e2⟩ := same i (errE (S i)) h1 rfl rfl (.inr trivial)
    exact ⟨hok, by rw [e1]; exact h.cap, e2⟩
  | eject i h1 h2 h3 h4 h5 =>
    obtain ⟨e1, -⟩ := same i (errE (S i)) h1 rfl rfl (.inr trivial)
    refine ⟨hok, ?_, fun j hj => ?_⟩
    · unfold roomB at h5
      rw [e1] at h5
      have h6 := of_decide_eq_true h5
      have h7 := outN_upd 4 S i (ejectE t now (errE (S i)))
      omega
    · by_cases e : j = i
      · subst e
        rw [upd_same]
        exact .inl ⟨rfl, ejectE_untl ht now hn _⟩
      · rw [upd_other _ _ e]; exact h.un j hj
theorem tickS_cases (N : Nat) (t : Wt) (S : Nat → Es) (now : Int) (i : Nat) : tickS N t S now i = S i ∨ tickS N t S now i = backE t (S i) := by
  unfold tickS clr
  split
  · exact .inr rfl
  · exact .inl rfl
theorem ShareI.tick {t : Wt} (ht : WtK t) {now frm frm' c : Int} {S S' : Nat → Es} {out : List Int} (h : ShareI t now c S) (hn : 0 ≤ now) (hc : 0 ≤ c) (hi : TickIs 4 t now frm S S' frm' out) : ShareI t now (c + 1) S' := by
  have hok := hi.ok ht.ok hc h.ok
  have hT : ∀ i, i < 4 → ((tickS 4 t S now i).ej = true ∧ 1 ≤ (tickS 4 t S now i).untl ∧ (tickS 4 t S now i).untl ≤ now + t.top) ∨ ((tickS 4 t S now i).ej = false ∧ (tickS 4 t S now i).untl = 0) := fun i hi => by
    rcases tickS_cases 4 t S now i with e | e
    · rw [e]; exact h.un i hi
    · rw [e]; exact .inr ⟨rfl, rfl⟩
  have hO : outN 4 (tickS 4 t S now) ≤ outN 4 S := outN_mono fun i hi he => by
    rcases tickS_cases 4 t S now i with e | e
    · rw [e] at he; exact he
    · rw [e] at he; cases he
  have hcap := h.cap
  cases hi with
  | in_ h1 => exact ⟨hok, by omega, hT⟩
  | end_ _ _ h1 h2 =>
    refine ⟨hok, ?_, fun i hi => ?_⟩
    · have h3 := h2.room
      unfold capN at h3
      omega
    · rcases (h2.each i hi).ej with ⟨h3, h4⟩ | ⟨h3, h4, h5⟩
      · rw [h3, h4]; exact hT i hi
      · rw [h4, h5]; exact .inl ⟨rfl, ejectE_untl ht now hn _⟩
/-! Where all is well. -/
structure WellI (c : Int) (S : Nat → Es) : Prop where
  ok : ∀ i, i < 4 → EsOk c (S i)
  un : ∀ i, i < 4 → (S i).ej = false ∧ (S i).well = (S i).att ∧ ∀ n ∈ skNums (S i).sk, n ≤ 9
theorem WellI.zero : WellI 0 (fun _ => zeroE) := ⟨fun _ _ => EsOk.zero, fun _ _ => ⟨rfl, rfl, fun n hn => by cases hn⟩⟩
theorem WellI.note {t : Wt} {now c k : Int} {S S' : Nat → Es} {took : Nat} {is : Bool} (h : WellI c S) (hc : 0 ≤ c) (htk : took ≤ 9) (hi : NoteIs 4 t S now k took true S' is) : WellI (c + 1) S' ∧ is = false := by
  have hok := note_ok h.ok hc (by omega) hi
  cases hi with
  | gone b h1 => exact ⟨⟨hok, h.un⟩, rfl⟩
  | out b i h1 h2 h3 => rw [(h.un i h1).1] at h3; cases h3
  | well i sk h1 h2 h3 h4 =>
    refine ⟨⟨hok, fun j hj => ?_⟩, rfl⟩
    by_cases e : j = i
    · subst e
      rw [upd_same]
      obtain ⟨h5, h6, h7⟩ := h.un j hj
      refine ⟨h3, by show (S j).well + 1 = (S j).att + 1; rw [h6], fun n hn => ?_⟩
      have hn' : n ∈ skNums sk := hn
      rw [h4] at hn'
      rcases List.mem_append.1 hn' with h8 | h8
      · exact h7 n h8
      · simp at h8; omega
    · rw [upd_other _ _ e]; exact h.un j hj
theorem WellI.back {c : Int} {S : Nat → Es} (h : WellI c S) (now : Int) : backL 4 S now = [] := by
  unfold backL
  rw [List.filter_eq_nil_iff]
  intro i hi
  rw [List.mem_range] at hi
  unfold backP
  rw [(h.un i hi).1]
  simp
theorem WellI.ids {c : Int} {S : Nat → Es} (h : WellI c S) (now : Int) : idsOf 4 (backP S now) = [] := by
  rw [backL_ids, h.back]; rfl
theorem WellI.tick {t : Wt} (ht : WtK t) {now frm frm' c : Int} {S S' : Nat → Es} {out : List Int} (h : WellI c S) (hc : 0 ≤ c) (hi : TickIs 4 t now frm S S' frm' out) : WellI (c + 1) S' ∧ out = [] := by
  have hok := hi.ok ht.ok hc h.ok
  have hT : tickS 4 t S now = S := by unfold tickS; rw [h.back, clr_nil]
  cases hi with
  | in_ h1 =>
    rw [hT] at hok ⊢
    exact ⟨⟨hok, h.un⟩, rfl⟩
  | end_ _ _ h1 h2 =>
    rw [hT] at h2
    have hcalm : Calm 4 t S := fun i hi _ => ⟨(h.un i hi).2.1, (h.un i hi).2.2, by have := ht.l0; omega⟩
    obtain ⟨h3, h4⟩ := h2.calm hcalm
    refine ⟨⟨hok, fun i hi => ⟨by rw [(h4 i hi).1]; exact (h.un i hi).1, ?_, ?_⟩⟩, h3⟩
    · rw [(h2.each i hi).well, (h2.each i hi).att]
    · rw [(h2.each i hi).sk]; intro n hn; cases hn
theorem WellI.all {c : Int} {S : Nat → Es} (h : WellI c S) : idsOf 4 (fun i => !(S i).ej) = rise 4 := by
  unfold idsOf rise
  rw [List.filter_eq_self.2 (fun i hi => by rw [List.mem_range] at hi; simp [(h.un i hi).1])]
end Go.Proofs.Ytfmgcnmikopgeaa
