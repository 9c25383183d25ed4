/- Layer 14: a guard, its watch, and acts beside each other. -/
import Derived.Test.YtfmgcnmikopgeaaOutT
namespace Go.Proofs.Ytfmgcnmikopgeaa
open Go.RowKit
/-- A watch is loaded whole. -/
theorem load_watch {W : World} {A : Nat} {t : Wt} (h : BlockAt W A 24 t.cells) (ρ : Operand → Value) (o : Oper) (x : Operand) (ho : o.op = .load 24 x) (hx : ρ x = .pointer (some ⟨A, 0, none⟩)) : (execOp ρ o).run Try.prog W = .ok (.value t.val) W := by
  unfold BlockAt at h
  have hr : (loadVar 24 ⟨A, 0, none⟩).run Try.prog W = .ok t.val W := run_loadVar_row W A 24 24 t.cells.toArray (0, 0) _ h Try.underlying24 rfl (by kernel_rfl)
  unfold execOp
  simp only [ho, hx, Instr.loadAt, Instr.sureAddr, Sem.run_bind, Sem.run_pure, Result.andThen_ok, hr]
/-- Acts of the call's own are read. -/
theorem act_at {lo : Nat} {W : World} {ao : Option Addr} {n cap q : Nat} {l : List ActR} {a : ActR} (h : OwnActs lo W (.slice ao n cap) l) (hq : l[q]? = some a) : ∃ g, ao = some ⟨g, 0, none⟩ ∧ ∀ (j : Nat) (u : Value), a.cells[j]? = some u → W.cell? ⟨g, q * 6 + j, none⟩ = some u := by
  unfold OwnActs at h
  have hc := fun g hg => h.cells (g := g) hg
  rcases h.2 with ⟨hv, hn⟩ | ⟨g, cap', cur, hv, _, hgg, hlc, hcm, _⟩
  · have : l = [] := List.eq_nil_of_length_eq_zero hn
    subst this
    simp at hq
  · obtain rfl : ao = some ⟨g, 0, none⟩ := by cases hv; rfl
    refine ⟨g, rfl, fun j u hu => ?_⟩
    have := hc g rfl (q * 6 + j) u (cellsA_get l q a hq j u hu)
    simpa only [Addr.add_lit, Nat.zero_add] using this
theorem acts_len {lo : Nat} {W : World} {v : Value} {l : List ActR} (h : OwnActs lo W v l) : ∃ ao cap, v = .slice ao l.length cap := by
  rcases h.2 with ⟨hv, hn⟩ | ⟨g, cap', cur, hv, _⟩
  · exact ⟨none, 0, by rw [hv, hn]⟩
  · exact ⟨_, cap', hv⟩
structure RS (w W : World) (X b m : Nat) (B : Nat → Nat) (t : Wt) (frm : Int) (S : Nat → Es) (v : Value) (l : List ActR) : Prop where
  g : GAt w.heap.size W b t frm m 4 B S
  st : Below w.heap.size w W
  x : BlockAt W X 24 t.cells
  a : OwnActs w.heap.size W v l
section
variable {w W W' : World} {X b m : Nat} {B : Nat → Nat} {t : Wt} {frm : Int} {S : Nat → Es} {v : Value} {l : List ActR}
theorem RS.next (h : RS w W X b m B t frm S v l) (u : Upd [] W W') : RS w W' X b m B t frm S v l :=
  ⟨h.g.next u, h.st.trans (u.below h.st.size (by simp)), h.x.keep u (by simp), u.owns h.a (by simp)⟩
theorem RS.step (h : RS w W X b m B t frm S v l) {frm' : Int} {S' : Nat → Es} (hg : GAt w.heap.size W' b t frm' m 4 B S') (hs : GStep w.heap.size W W') : RS w W' X b m B t frm' S' v l :=
  ⟨hg, h.st.trans hs.below, hs.kept.watch h.x, hs.kept.acts h.a⟩
theorem RS.note (h : RS w W X b m B t frm S v l) (ht : WtOk t) {c now k : Int} {took : Nat} (hc : c ≤ 900) (hS : ∀ i, i < 4 → EsOk c (S i)) (hn0 : 0 ≤ now) (hn1 : now ≤ 1000000) (htk : took < 1000000) (wl : Bool) :
    Calls Try.prog 11 #[.pointer (some ⟨b, 0, none⟩), .int .i64 now, .int .i64 k, .bool wl, .int .i64 took] W fun e W' => ∃ S' is, e = .returned (.bool is) ∧ NoteIs 4 t S now k took wl S' is ∧ RS w W' X b m B t frm S' v l :=
  (note_any w.heap.size b t frm m 4 B S now k took wl c W h.g ht (by decide) h.st.size hc hS hn0 (by omega) htk).mono (fun _ _ ⟨S', is, h1, h2, h3, h4⟩ => ⟨S', is, h2, h1, h.step h3 h4⟩)
theorem RS.tick (h : RS w W X b m B t frm S v l) (ht : WtK t) {c now : Int} (hc0 : 0 ≤ c) (hc : c ≤ 900) (hS : ∀ i, i < 4 → EsOk c (S i)) (hn0 : 0 ≤ now) (hn1 : now ≤ 1000000) (hf0 : 0 ≤ frm) (hf1 : frm ≤ now) :
    Calls Try.prog 13 #[.pointer (some ⟨b, 0, none⟩), .int .i64 now] W fun e W' => ∃ ao ac bo bc S' frm' out, e = .returned (.tuple #[.slice ao (out : List Int).length ac, .slice bo (idsOf 4 (backP S now)).length bc]) ∧ TickIs 4 t now frm S S' frm' out ∧ RS w W' X b m B t frm' S' v l :=
  (tick_all w.heap.size b t frm m 4 B S now c W h.g ht.ok (by decide) h.st.size ht.d0 (by have := ht.d1; omega) hc0 hc hS hn0 (by omega) hf0 (by omega)).mono (fun _ _ ⟨ov, bv, S', frm', out, h1, h2, ⟨lo, h3⟩, h4, h5, h6⟩ => by
    obtain ⟨ao, ac, rfl⟩ := own_len h3
    obtain ⟨bo, bc, rfl⟩ := own_len h4
    exact ⟨ao, ac, bo, bc, S', frm', out, h1, h2, h.step h5 h6⟩)
end
theorem ends_at {w : World} {X : Nat} {t : Wt} (W : World) (h : Hid (BlockAt W X 24 t.cells ∧ Below w.heap.size w W)) : Calls Try.prog 9 #[] W fun e W' => ∃ g, e = .returned (.slice (some ⟨g, 0, none⟩) 4 4) ∧ Hid (IntsIn W' (.slice (some ⟨g, 0, none⟩) 4 4) (rise 4)) ∧ Hid (BlockAt W' X 24 t.cells ∧ Below w.heap.size w W') :=
  (ends_any W).mono (fun _ _ ⟨h1, h2, h3⟩ => ⟨_, h1, Lib.hid h2, Lib.hid ⟨h.out.1.keep (Upd.ofBelow h3) (by simp), h.out.2.trans (h3.mono h.out.2.size)⟩⟩)
theorem new_at {w : World} {X : Nat} {t : Wt} (W : World) (g : Nat) (h : Hid (BlockAt W X 24 t.cells ∧ Below w.heap.size w W)) (hi : Hid (IntsIn W (.slice (some ⟨g, 0, none⟩) 4 4) (rise 4))) : Calls Try.prog 8 #[t.val, .slice (some ⟨g, 0, none⟩) 4 4] W fun e W' => ∃ b m B, e = .returned (.pointer (some ⟨b, 0, none⟩)) ∧ Hid (GAt w.heap.size W' b t 0 m 4 B (fun _ => zeroE)) ∧ Hid (BlockAt W' X 24 t.cells ∧ Below w.heap.size w W') :=
  (new_any t _ 4 W hi.out (by decide)).mono (fun _ _ ⟨b, m, B, h1, h2, h3⟩ => ⟨b, m, B, h1, Lib.hid (h2.base_le h.out.2.size), Lib.hid ⟨h.out.1.keep (Upd.ofBelow h3) (by simp), h.out.2.trans (h3.mono h.out.2.size)⟩⟩)
theorem RS.ends {w W : World} {X b m : Nat} {B : Nat → Nat} {t : Wt} {frm : Int} {S : Nat → Es} {v : Value} {l : List ActR} (h : Hid (RS w W X b m B t frm S v l)) : Calls Try.prog 9 #[] W fun e W' => ∃ g, e = .returned (.slice (some ⟨g, 0, none⟩) 4 4) ∧ Hid (RS w W' X b m B t frm S v l) :=
  (ends_any W).mono (fun _ _ ⟨h1, _, h3⟩ => ⟨_, h1, Lib.hid (h.out.next (Upd.ofBelow h3))⟩)
theorem RS.untl {w W : World} {X b m : Nat} {B : Nat → Nat} {t : Wt} {frm : Int} {S : Nat → Es} {v : Value} {l : List ActR} (h : Hid (RS w W X b m B t frm S v l)) {j : Nat} (hj : j < 4) {u : Int} (hu : (S j).untl = u) : Calls Try.prog 17 #[.pointer (some ⟨b, 0, none⟩), .int .i64 ((j : Int) + 1)] W fun e W' => e = .returned (.int .i64 u) ∧ W = W' :=
  (until_any w.heap.size b t frm m 4 B S ((j : Int) + 1) W h.out.g).mono (fun _ _ ⟨h1, h2⟩ => ⟨by
    have : untlOf 4 S ((j : Int) + 1) = u := by unfold untlOf; rw [if_pos (by omega), show ((j : Int) + 1 - 1).toNat = j by omega]; exact hu
    rw [← this]; exact h1, h2⟩)
theorem RS.times {w W : World} {X b m : Nat} {B : Nat → Nat} {t : Wt} {frm : Int} {S : Nat → Es} {v : Value} {l : List ActR} (h : Hid (RS w W X b m B t frm S v l)) {j : Nat} (hj : j < 4) {u : Int} (hu : (S j).times = u) : Calls Try.prog 20 #[.pointer (some ⟨b, 0, none⟩), .int .i64 ((j : Int) + 1)] W fun e W' => e = .returned (.int .i64 u) ∧ W = W' :=
  (times_any w.heap.size b t frm m 4 B S ((j : Int) + 1) W h.out.g).mono (fun _ _ ⟨h1, h2⟩ => ⟨by
    have : timesOf 4 S ((j : Int) + 1) = u := by unfold timesOf; rw [if_pos (by omega), show ((j : Int) + 1 - 1).toNat = j by omega]; exact hu
    rw [← this]; exact h1, h2⟩)
theorem len_well (S : Nat → Es) (N : Nat) : (idsOf N (fun i => !(S i).ej)).length + outN N S = N := by
  unfold idsOf outN
  rw [List.length_map]
  have : ∀ l : List Nat, (l.filter (fun i => !(S i).ej)).length + (l.filter (fun i => (S i).ej)).length = l.length := by
    intro l
    induction l with
    | nil => rfl
    | cons a l ih =>
      rw [List.filter_cons, List.filter_cons]
      cases (S a).ej <;> simp <;> omega
  rw [this, List.length_range]
theorem well_mem (S : Nat → Es) {N i : Nat} (hi : i < N) : decide ((((i : Nat) : Int) + 1) ∈ idsOf N (fun i => !(S i).ej)) = !(S i).ej := by
  cases h : (S i).ej with
  | true =>
    rw [decide_eq_false]
    · rfl
    · intro hm
      obtain ⟨j, h1, h2, h3⟩ := idsOf_mem.1 hm
      obtain rfl : j = i := by omega
      rw [h] at h2; cases h2
  | false =>
    rw [decide_eq_true]
    · rfl
    · exact idsOf_mem.2 ⟨i, hi, by rw [h]; rfl, rfl⟩
theorem TickIs.frm {N : Nat} {t : Wt} {now frm : Int} {S S' : Nat → Es} {frm' : Int} {out : List Int} (h : TickIs N t now frm S S' frm' out) (h0 : 0 ≤ frm) (h1 : frm ≤ now) : 0 ≤ frm' ∧ frm' ≤ now := by
  cases h with
  | in_ h2 => exact ⟨h0, h1⟩
  | end_ _ _ h2 h3 => exact ⟨by omega, by omega⟩
end Go.Proofs.Ytfmgcnmikopgeaa
