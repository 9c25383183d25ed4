/- Layer 14: the closures; room, Well, Until, Times. -/
import Derived.Test.YtfmgcnmikopgeaaOutC
import Derived.Test.YtfmgcnmikopgeaaFixA
namespace Go.Proofs.Ytfmgcnmikopgeaa
open Go.RowKit
theorem drewN_below (w : World) (n : Nat) : Below w.heap.size w (w.drewN n) := (Upd.drewN [] w n).below (Nat.le_refl _) (by simp)
theorem ejected_any (s : Es) (B : Nat) (w : World) (h : BlockAt w B 56 s.cells) : Calls Try.prog 34 #[.pointer (some ⟨B, 0, none⟩)] w fun e w' => e = .returned (.bool s.ej) ∧ Below w.heap.size w w' := by
  have c2 := h.cell 2 _ rfl
  clear h
  go_enter Try.func34, Try.ntmps34
  go_wp2
  go_ret
  exact ⟨rfl, Below.refl _ _⟩
theorem wellF_any (s : Es) (B : Nat) (w : World) (h : BlockAt w B 56 s.cells) : Calls Try.prog 30 #[.pointer (some ⟨B, 0, none⟩)] w fun e w' => e = .returned (.bool (!s.ej)) ∧ Below w.heap.size w w' := by
  have c2 := h.cell 2 _ rfl
  clear h
  go_enter Try.func30, Try.ntmps30
  go_wp2
  go_ret
  exact ⟨rfl, Below.refl _ _⟩
theorem askedF_any (s : Es) (B : Nat) (w : World) (h : BlockAt w B 56 s.cells) : Calls Try.prog 37 #[.pointer (some ⟨B, 0, none⟩)] w fun e w' => e = .returned (.bool (!s.ej && decide (5 ≤ s.att))) ∧ Below w.heap.size w w' := by
  have c2 := h.cell 2 _ rfl
  have c4 := h.cell 4 _ rfl
  obtain ⟨ej, hej⟩ : ∃ e, s.ej = e := ⟨_, rfl⟩
  rw [hej] at c2 ⊢
  clear h hej
  cases ej
  all_goals
    go_enter Try.func37, Try.ntmps37
    go_wp2
    go_ret
    exact ⟨rfl, Below.refl _ _⟩
theorem cleanF_any (s : Es) (B : Nat) (w : World) (h : BlockAt w B 56 s.cells) : Calls Try.prog 36 #[.pointer (some ⟨B, 0, none⟩)] w fun e w' => e = .returned (.bool (!s.ej && (s.att == s.well))) ∧ Below w.heap.size w w' := by
  have c2 := h.cell 2 _ rfl
  have c4 := h.cell 4 _ rfl
  have c5 := h.cell 5 _ rfl
  have HB := Lib.hid (drewN_below w)
  obtain ⟨ej, hej⟩ : ∃ e, s.ej = e := ⟨_, rfl⟩
  rw [hej] at c2 ⊢
  clear h hej
  cases ej
  all_goals
    go_enter Try.func36, Try.ntmps36
    go_wp2_with fail
    go_quiet (fail)
    go_wp2_with fail
    go_ret
    exact ⟨rfl, HB.out _⟩
theorem backF_any (s : Es) (B X : Nat) (now : Int) (w : World) (h : BlockAt w B 56 s.cells) (hx : w.cell? ⟨X, 0, none⟩ = some (.int .i64 now)) : Calls Try.prog 28 #[.pointer (some ⟨B, 0, none⟩), .pointer (some ⟨X, 0, none⟩)] w fun e w' => e = .returned (.bool (s.ej && decide (s.untl ≤ now))) ∧ Below w.heap.size w w' := by
  have c2 := h.cell 2 _ rfl
  have c3 := h.cell 3 _ rfl
  have HB := Lib.hid (drewN_below w)
  obtain ⟨ej, hej⟩ : ∃ e, s.ej = e := ⟨_, rfl⟩
  rw [hej] at c2 ⊢
  clear h hej
  cases ej
  all_goals
    go_enter Try.func28, Try.ntmps28
    go_wp2_with fail
    go_quiet (fail)
    go_wp2_with fail
    go_ret
    exact ⟨rfl, HB.out _⟩
theorem GAt.endsAt {base : Nat} {W W' : World} {b : Nat} {t : Wt} {frm : Int} {m N : Nat} {B : Nat → Nat} {S : Nat → Es} (h : GAt base W b t frm m N B S) (hb : Below W.heap.size W W') {i : Nat} (hi : i < N) : BlockAt W' (B i) 56 (S i).cells := (h.ends i hi).keep (Upd.ofBelow hb) (by simp)
theorem well_any (base b : Nat) (t : Wt) (frm : Int) (m N : Nat) (B : Nat → Nat) (S : Nat → Es) (w : World) (h : GAt base w b t frm m N B S) (hN : (N : Int) ≤ 1000) :
    Calls Try.prog 15 #[.pointer (some ⟨b, 0, none⟩)] w (SomePost N (fun i => !(S i).ej) w) := by
  have CS := Lib.hid (some_any base b t frm m N B S w h hN 30 #[] (fun i => !(S i).ej) (fun _ _ => rfl) (fun W i hb hi => wellF_any (S i) (B i) W (h.endsAt hb hi)))
  clear h hN
  go_enter Try.func15, Try.ntmps15
  go_wp2_with fail
  refine CS.out.mono ?_
  rintro e w' ⟨v, rfl, h1, h2⟩
  have HP := Lib.hid (show SomePost N (fun i => !(S i).ej) w (.returned v) w' from ⟨v, rfl, h1, h2⟩)
  clear h1 h2 CS
  go_wp2_with fail
  go_ret
  exact HP.out
def outN (N : Nat) (S : Nat → Es) : Nat := ((List.range N).filter (fun i => (S i).ej)).length
/-- Is there room for one more? -/
def roomB (N : Nat) (t : Wt) (S : Nat → Es) : Bool := decide ((outN N S : Int) + 1 ≤ (N : Int) * t.share / 100)
theorem outN_le (N : Nat) (S : Nat → Es) : outN N S ≤ N := by unfold outN; exact Nat.le_trans (List.length_filter_le _ _) (by simp)
theorem GAt.lenM {base : Nat} {W : World} {b : Nat} {t : Wt} {frm : Int} {m N : Nat} {B : Nat → Nat} {S : Nat → Es} (h : GAt base W b t frm m N B S) (ty : TypeId) :
    (Builtin.len_ #[46] ty #[.map (some m)]).run Try.prog W = .ok (.int .i64 N) W := by
  obtain ⟨es, clock, hm⟩ := h.map
  have hl : es.length = N := by have := congrArg List.length hm.is; simpa [entL] using this
  have hmm := hm.at_
  unfold MapAt at hmm
  simp [Builtin.len_, run_underlying tMapEnd, MapKept.run_getObj_map hmm, Result.andThen, goInt, hl]
def RoomPost (N : Nat) (t : Wt) (S : Nat → Es) (w : World) (e : Ending) (w' : World) : Prop := e = .returned (.bool (roomB N t S)) ∧ Below w.heap.size w w'
set_option maxRecDepth 100000 in
set_option maxHeartbeats 2000000 in
theorem room_any (base b : Nat) (t : Wt) (frm : Int) (m N : Nat) (B : Nat → Nat) (S : Nat → Es) (w : World) (h : GAt base w b t frm m N B S) (hN : (N : Int) ≤ 1000) (hs0 : 0 ≤ t.share) (hs1 : t.share ≤ 100) :
    Calls Try.prog 25 #[.pointer (some ⟨b, 0, none⟩)] w (RoomPost N t S w) := by
  have CS := Lib.hid (some_any base b t frm m N B S w h hN 34 #[] (fun i => (S i).ej) (fun _ _ => rfl) (fun W i hb hi => ejected_any (S i) (B i) W (h.endsAt hb hi)))
  have HG := Lib.hid h
  obtain ⟨P, hP⟩ : ∃ P, (N : Int) * t.share = P := ⟨_, rfl⟩
  have hP0 : 0 ≤ P := by rw [← hP]; exact Int.mul_nonneg (by omega) hs0
  have hP1 : P ≤ 100000 := by
    have := Int.mul_le_mul hN hs1 hs0 (by omega : (0 : Int) ≤ 1000)
    omega
  have ewP : IntKind.i64.wrap ((N : Int) * t.share) = P := by rw [hP]; exact IntWalk.i64_in _ (by omega)
  have CD := Lib.hid (fun w => down_any P 100 w (by omega) (by omega) (by omega) (by omega))
  obtain ⟨O, hO⟩ : ∃ O, outN N S = O := ⟨_, rfl⟩
  have hOl : (idsOf N (fun i => (S i).ej)).length = O := by rw [← hO]; unfold idsOf outN; rw [List.length_map]
  have hO1 : (O : Int) ≤ 1000 := by have := outN_le N S; omega
  have ewO : IntKind.i64.wrap ((O : Int) + 1) = (O : Int) + 1 := IntWalk.i64_in _ (by omega)
  have HR := Lib.hid (show roomB N t S = decide ((O : Int) + 1 ≤ P / 100) by unfold roomB; rw [hO, hP])
  have HOL := Lib.hid hOl
  clear h hN hs0 hs1 hP hO hOl
  go_enter Try.func25, Try.ntmps25
  go_wp2_with fail
  refine CS.out.mono ?_
  rintro e w' ⟨v, rfl, h1, h2⟩
  have hg := HG.out.next (Upd.ofBelow h2)
  have c4 := hg.blk.cell 4 _ rfl
  have c8 := hg.blk.cell 8 _ rfl
  obtain ⟨ao, cap, rfl⟩ := own_len h1
  rw [HOL.out]
  have HB := Lib.hid h2
  have hml : ∀ (k : Nat) ty, (Builtin.len_ #[46] ty #[.map (some m)]).run Try.prog (w'.drewN k) = .ok (.int .i64 N) (w'.drewN k) := fun k ty => (hg.next (Upd.drewN [] w' k)).lenM ty
  have hml0 : ∀ ty, (Builtin.len_ #[46] ty #[.map (some m)]).run Try.prog w' = .ok (.int .i64 N) w' := fun ty => hg.lenM ty
  have hml1 : ∀ ty, (Builtin.len_ #[46] ty #[.map (some m)]).run Try.prog w'.drew = .ok (.int .i64 N) w'.drew := fun ty => (hg.next (Upd.drew [] w')).lenM ty
  clear h1 h2 hg CS
  go_wp2_with fail
  go_quiet ((go_at_call 18; exact quietSame (CD.out _)))
  go_wp2_with fail
  go_ret
  exact ⟨by rw [HR.out]; rfl, HB.out.trans ((drewN_below _ _).mono HB.out.size)⟩
end Go.Proofs.Ytfmgcnmikopgeaa
