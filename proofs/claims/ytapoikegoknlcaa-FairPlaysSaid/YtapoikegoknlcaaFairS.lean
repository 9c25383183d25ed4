/- Layer 22: All. -/
import Derived.Test.YtapoikegoknlcaaFairQ
namespace Go.Proofs.Ytapoikegoknlcaa
open Go.RowKit
/-- What All tells: the greatest priority first. -/
inductive AllR (r : Nat → Row) : Nat → List It → Prop
  | nil : AllR r 4 []
  | cons (p : Nat) (o o' : List It) : AllR r (p + 1) o → RRun (r p).items (r p).taken (r p).last o' → AllR r p (o ++ o')
theorem AllR.len {r : Nat → Row} {p : Nat} {o : List It} (h : AllR r p o) (hl : ∀ q, q < 4 → (r q).items.length ≤ 10000) : p ≤ 4 ∧ o.length + p * 10000 ≤ 40000 := by
  induction h with
  | nil => simp
  | cons p o o' h1 h2 ih =>
    have := h2.perm.length_eq
    have := hl p (by omega)
    simp; omega
theorem QS.out {base : Nat} {W W' : World} {b : Nat} {most n : Int} {r : Nat → Row} {S T : List Nat} (h : QS base W b most n r (T ++ S)) (u : Upd T W W') {g : Nat} (hg : g ∈ T ∨ W.heap.size ≤ g) (hg' : g < W'.heap.size) : QS base W' b most n r (g :: S) := by
  have h' := h.write u (by simp +contextual)
  obtain ⟨v, h0, hb, hS⟩ := h
  refine ⟨v, h0.away u (fun hh => (hS b (by simp [hh])).2 (.inl rfl)) (fun q k hq hk hh => (hS k (by simp [hh])).2 (.inr ⟨q, hq, hk⟩)), Nat.le_trans hb u.size, fun k hk => ?_⟩
  rcases List.mem_cons.1 hk with rfl | hk
  · refine ⟨hg', ?_⟩
    rcases hg with hg | hg
    · exact (hS k (by simp [hg])).2
    · rintro (rfl | ⟨q, hq, hk⟩)
      · have := h0.blk.lt; omega
      · have := ((h0.own q hq).lt _ hk).2; omega
  · exact ⟨Nat.lt_of_lt_of_le (hS k (by simp [hk])).1 u.size, (hS k (by simp [hk])).2⟩
structure AllPost (base b : Nat) (most n : Int) (r : Nat → Row) (S : List Nat) (w : World) (o : List It) (ov : Value) (w' : World) : Prop where
  own : w'.ownsRow w.heap.size 27 3 ov o.length (cellsI o)
  q : QS base w' b most n r (ov.ownBlock.toList ++ S)
  st : QStep base S w w'
set_option maxHeartbeats 2000000 in
theorem all_qs (base b : Nat) (most n : Int) (r : Nat → Row) (S : List Nat) (w : World) (h : QS base w b most n r S) (hlen : ∀ q, q < 4 → (r q).items.length ≤ 10000) :
    Calls Try.prog 18 #[.pointer (some ⟨b, 0, none⟩)] w fun e w' => ∃ o ov, AllR r 0 o ∧ e = .returned ov ∧ AllPost base b most n r S w o ov w' := by
  have HL := Lib.hid hlen
  have HB := Lib.hid h.base_le
  have HS := Lib.hid h.lt
  have HP0 : Hid (AllPost base b most n r S w [] (.slice none 0 0) w) := Lib.hid ⟨World.ownsRow_nil _ _ _ _, by simpa [Value.ownBlock] using h, QStep.refl _ _ _⟩
  have HA0 : Hid (AllR r 4 []) := Lib.hid AllR.nil
  clear h hlen
  go_enter Try.func18, Try.ntmps18
  go_wp2_with fail
  go_loopw [3, 4] (fun ov i wr => ∃ (j : Nat) (o : List It), (j : Int) ≤ 4 ∧ i = .int .i64 ((j : Int) - 1) ∧ Hid (AllR r j o) ∧ Hid (AllPost base b most n r S w o ov wr)) (fun _ i _ => (intOf i + 1).toNat)
  case atStart => exact ⟨4, [], by omega, rfl, HA0, HP0⟩
  case round =>
    obtain ⟨j, o, hj, rfl, HA, HP⟩ := hrel
    clear HP0 HA0
    by_cases hlt : 1 ≤ j
    · obtain ⟨p, rfl⟩ : ∃ p, j = p + 1 := ⟨j - 1, by omega⟩
      rw [show (((p + 1 : Nat) : Int) - 1) = (p : Int) by omega]
      have hp : p < 4 := by omega
      have p0 : (0 : Int) ≤ p := by omega
      have p1 : (p : Int) < 4 := by omega
      obtain ⟨c1, c2, ao, cap, c0, hrow⟩ := HP.out.q.row hp
      have hol := HA.out.len HL.out
      have CR := Lib.hid (round_any w.heap.size b (2 + p * 3) cap ao (r p).items o (r p).taken (r p).last u3 wr hrow (by have := HL.out p hp; omega) (by omega) c0 c1 c2 HP.out.own HP.out.st.size)
      have HPP := Lib.hid hp
      clear hj hlt hp c0 c1 c2 hrow hol
      go_wp2_with fail
      refine CR.out.mono ?_
      rintro e w2 ⟨o', ov', hrun, rfl, hown, hu, hb⟩
      have HA2 := Lib.hid (AllR.cons p o o' HA.out hrun)
      have hlow : ∀ q, q ∈ u3.ownBlock.toList → w.heap.size ≤ q := fun q hq => by simp at hq; exact (HP.out.own.lt q hq).1
      have HP2 : Hid (AllPost base b most n r S w (o ++ o') ov' w2) := Lib.hid (by
        have hwle := HP.out.st.size
        refine ⟨hown, ?_, HP.out.st.trans (QStep.upd hu HP.out.q.base_le (fun k hk => ?_) (fun k hk => HP.out.q.lt k (by simp [hk])))⟩
        · cases hov : ov'.ownBlock with
          | none => simpa using (HP.out.q.write hu (by simp +contextual)).sub (T := S) (by simp +contextual)
          | some g =>
            have := HP.out.q.out hu (g := g) ((hb g hov).imp (fun hh => by simp [hh]) id) ((hown.lt g hov).2)
            simpa using this
        · have h1 := hlow k hk
          have h2 := HB.out
          exact ⟨by omega, fun hh => by have := HS.out k hh; omega⟩)
      clear hown hu hb hlow hrun CR
      go_wp2_with fail
      go_roundw
      case rel => exact ⟨p, o ++ o', by omega, rfl, HA2, HP2⟩
      case measure => simp [intOf] <;> omega
    · obtain rfl : j = 0 := by omega
      rw [show (((0 : Nat) : Int) - 1) = -1 from rfl]
      clear hlt hj
      go_wp2_with fail
      go_ret
      exact ⟨o, _, HA.out, rfl, HP.out⟩
end Go.Proofs.Ytapoikegoknlcaa
