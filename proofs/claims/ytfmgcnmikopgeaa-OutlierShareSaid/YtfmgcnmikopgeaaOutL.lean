/- Layer 14: the example. -/
import Derived.Test.YtfmgcnmikopgeaaOutK
import Derived.Test.YtfmgcnmikopgeaaHas
namespace Go.Proofs.Ytfmgcnmikopgeaa
open Go.RowKit
theorem GAt.base_le {base base' : Nat} {W : World} {b : Nat} {t : Wt} {frm : Int} {m N : Nat} {B : Nat → Nat} {S : Nat → Es} (h : GAt base' W b t frm m N B S) (hb : base ≤ base') : GAt base W b t frm m N B S :=
  ⟨h.blk, h.map, h.ends, fun i hi sb sm l hs => by obtain ⟨k1, k2, k3, k4⟩ := h.sks i hi sb sm l hs; exact ⟨k1, by omega, by omega, k4⟩, h.inj, h.apart, ⟨by have := h.low.1; omega, fun i hi => by have := h.low.2 i hi; omega⟩⟩
/-- A guard of two endpoints, and nothing written below. -/
structure LG (w W : World) (b m : Nat) (B : Nat → Nat) (S : Nat → Es) : Prop where
  g : GAt w.heap.size W b exT 0 m 2 B S
  st : Below w.heap.size w W
theorem LG.next {w W W' : World} {b m : Nat} {B : Nat → Nat} {S : Nat → Es} (h : LG w W b m B S) (hb : Below W.heap.size W W') : LG w W' b m B S := ⟨h.g.next (Upd.ofBelow hb), h.st.trans (hb.mono h.st.size)⟩
theorem LG.post {w W W' : World} {b m : Nat} {B : Nat → Nat} {S S' : Nat → Es} (h : LG w W b m B S) (k : GPost w.heap.size b exT 0 m 2 B S' W W') : LG w W' b m B S' := ⟨k.1, h.st.trans k.2.below⟩
theorem ok0 : ∀ i, i < 2 → EsOk 0 (ex0 i) := fun _ _ => EsOk.zero
theorem ok1 : ∀ i, i < 2 → EsOk 1 (ex1 i) := note_ok (t := exT) (now := 5) (k := 1) (took := 1) ok0 (by decide) (by decide) (NoteIs.err 0 (by decide) rfl rfl (.inl (by decide)))
theorem ok2 : ∀ i, i < 2 → EsOk 2 (ex2 i) := note_ok (t := exT) (now := 5) (k := 1) (took := 1) ok1 (by decide) (by decide) (NoteIs.eject 0 (by decide) rfl rfl (by decide) ex_room1)
theorem ok3 : ∀ i, i < 2 → EsOk 2 (ex3 i) := tick_ok 15 exT_ok (by decide) ok2
def noteL (w W : World) (b m : Nat) (B : Nat → Nat) (S' : Nat → Es) (is : Bool) (e : Ending) (W' : World) : Prop := e = .returned (.bool is) ∧ LG w W' b m B S' ∧ Kept W W'
theorem LG.note1 {w W : World} {b m : Nat} {B : Nat → Nat} (h : LG w W b m B ex0) : Calls Try.prog 11 #[.pointer (some ⟨b, 0, none⟩), .int .i64 5, .int .i64 1, .bool false, .int .i64 1] W (noteL w W b m B ex1 false) :=
  (note_any w.heap.size b exT 0 m 2 B ex0 5 1 1 false 0 W h.g exT_ok (by decide) h.st.size (by decide) ok0 (by decide) (by decide) (by decide)).mono (fun _ _ ⟨S', is, hn, he, hp⟩ => by
    obtain ⟨rfl, rfl⟩ := note_err hn (i := 0) (by decide) rfl rfl (by decide)
    exact ⟨he, h.post hp, hp.2.kept⟩)
theorem LG.note2 {w W : World} {b m : Nat} {B : Nat → Nat} (h : LG w W b m B ex1) : Calls Try.prog 11 #[.pointer (some ⟨b, 0, none⟩), .int .i64 5, .int .i64 1, .bool false, .int .i64 1] W (noteL w W b m B ex2 true) :=
  (note_any w.heap.size b exT 0 m 2 B ex1 5 1 1 false 1 W h.g exT_ok (by decide) h.st.size (by decide) ok1 (by decide) (by decide) (by decide)).mono (fun _ _ ⟨S', is, hn, he, hp⟩ => by
    obtain ⟨rfl, rfl⟩ := note_ej hn (i := 0) (by decide) rfl rfl (by decide) ex_room1
    exact ⟨he, h.post hp, hp.2.kept⟩)
theorem LG.note3 {w W : World} {b m : Nat} {B : Nat → Nat} (h : LG w W b m B ex3) : Calls Try.prog 11 #[.pointer (some ⟨b, 0, none⟩), .int .i64 16, .int .i64 1, .bool false, .int .i64 1] W (noteL w W b m B ex4 true) :=
  (note_any w.heap.size b exT 0 m 2 B ex3 16 1 1 false 2 W h.g exT_ok (by decide) h.st.size (by decide) ok3 (by decide) (by decide) (by decide)).mono (fun _ _ ⟨S', is, hn, he, hp⟩ => by
    obtain ⟨rfl, rfl⟩ := note_ej hn (i := 0) (by decide) rfl rfl (by decide) ex_room2
    exact ⟨he, h.post hp, hp.2.kept⟩)
def tickL (w W : World) (b m : Nat) (B : Nat → Nat) (e : Ending) (W' : World) : Prop := ∃ g cap, e = .returned (.tuple #[.slice none 0 0, .slice (some ⟨g, 0, none⟩) 1 cap]) ∧ OwnInts W.heap.size W' (.slice (some ⟨g, 0, none⟩) 1 cap) [1] ∧ LG w W' b m B ex3
theorem LG.tick {w W : World} {b m : Nat} {B : Nat → Nat} (h : LG w W b m B ex2) : Calls Try.prog 13 #[.pointer (some ⟨b, 0, none⟩), .int .i64 15] W (tickL w W b m B) :=
  (tick_any w.heap.size b exT 0 m 2 B ex2 15 (fun _ _ => True) W h.g exT_ok (by decide) h.st.size (by decide) (by decide) (by decide) (by decide) (fun W' _ _ hh => absurd hh (by decide))).mono (fun _ _ ⟨ov, bv, he, hb, hh⟩ => by
    rcases hh with ⟨-, rfl, hp⟩ | ⟨hh, -⟩
    · rw [ex_back] at hb
      rcases hb.read with ⟨h1, -⟩ | ⟨g, cap, rfl, h2, -⟩
      · cases h1
      · exact ⟨g, cap, he, hb, h.post hp⟩
    · exact absurd hh (by decide))
theorem LG.until {w W : World} {b m : Nat} {B : Nat → Nat} {S : Nat → Es} (h : LG w W b m B S) {u : Int} (hu : untlOf 2 S 1 = u) : Calls Try.prog 17 #[.pointer (some ⟨b, 0, none⟩), .int .i64 1] W fun e W' => e = .returned (.int .i64 u) ∧ W = W' :=
  (until_any w.heap.size b exT 0 m 2 B S 1 W h.g).mono (fun _ _ ⟨h1, h2⟩ => ⟨by rw [← hu]; exact h1, h2⟩)
theorem LG.well {w W : World} {b m : Nat} {B : Nat → Nat} (h : LG w W b m B ex4) : Calls Try.prog 15 #[.pointer (some ⟨b, 0, none⟩)] W fun e W' => ∃ g cap, e = .returned (.slice (some ⟨g, 0, none⟩) 1 cap) ∧ IntsIn W' (.slice (some ⟨g, 0, none⟩) 1 cap) [2] ∧ LG w W' b m B ex4 :=
  (well_any w.heap.size b exT 0 m 2 B ex4 W h.g (by decide)).mono (fun _ _ ⟨v, he, ho, hb⟩ => by
    rw [ex_well] at ho
    have hin := ho.isIn (by decide)
    rcases ho.read with ⟨h1, -⟩ | ⟨g, cap, rfl, h2, -⟩
    · cases h1
    · exact ⟨g, cap, he, hin, h.next hb⟩)
theorem ints_new (w : World) (zs : List Int) (hl : zs.length ≤ 1000) (hr : ∀ z ∈ zs, -9223372036854775808 ≤ z ∧ z ≤ 9223372036854775807) (n : Nat) (hn : n = zs.length) : IntsIn (w.alloc (.cells ((zs.map (Value.int .i64)).toArray) 3)) (.slice (some ⟨w.heap.size, 0, none⟩) n n) zs := by
  subst hn
  refine ⟨_, _, rfl, by omega, hr, .inr ⟨w.heap.size, 0, rfl, fun j hj => ?_⟩⟩
  rw [Nat.zero_add]
  exact (BlockAt.new w 3 (zs.map (Value.int .i64))).cell j _ (by simp [List.getD, hj])
set_option maxRecDepth 100000 in
set_option maxHeartbeats 4000000 in
theorem lives_any (w : World) : Calls Try.prog 16 #[] w (TruePost w) := by
  have hi := ints_new w [1, 2] (by decide) (by decide) 2 rfl
  have CN := Lib.hid (new_any exT _ 2 (w.alloc (.cells ((([1, 2] : List Int).map (Value.int .i64)).toArray) 3)) hi (by decide))
  unfold Wt.val exT at CN
  dsimp only at CN
  have HB1 := Lib.hid ((Below.refl w.heap.size w).alloc (Nat.le_refl _) (.cells ((([1, 2] : List Int).map (Value.int .i64)).toArray) 3))
  clear hi
  go_enter Try.func16, Try.ntmps16
  go_wp2_with fail
  refine CN.out.mono ?_
  rintro e w1 ⟨b, m, B, rfl, hg, hbel⟩
  have H1 := Lib.hid (show LG w w1 b m B ex0 from ⟨hg.base_le (by simp), HB1.out.trans (hbel.mono (by simp))⟩)
  have C1 := Lib.hid H1.out.note1
  clear hg hbel CN HB1
  go_wp2_with fail
  refine C1.out.mono ?_
  rintro e w2 ⟨rfl, h2, -⟩
  have H2 := Lib.hid h2
  have C2 := Lib.hid h2.note2
  clear h2 C1 H1
  go_wp2_with fail
  refine C2.out.mono ?_
  rintro e w3 ⟨rfl, h3, -⟩
  have H3 := Lib.hid h3
  have C3 := Lib.hid (h3.until ex_until1)
  clear h3 C2 H2
  go_wp2_with fail
  refine C3.out.mono ?_
  rintro e w' ⟨rfl, rfl⟩
  have C4 := Lib.hid H3.out.tick
  clear C3
  go_wp2_with fail
  refine C4.out.mono ?_
  rintro e w4 ⟨g, cap, rfl, ho, h4⟩
  have H4 := Lib.hid (And.intro ho h4)
  have C5 := Lib.hid h4.note3
  clear ho h4 C4 H3
  go_wp2_with fail
  refine C5.out.mono ?_
  rintro e w5 ⟨rfl, h5, hk5⟩
  have H5 := Lib.hid (And.intro (hk5.ints H4.out.1) h5)
  have CS1 : ∀ W, W = w5.alloc (.cells #[.int .i64 1] 3) → Calls Try.prog 14 #[.slice (some ⟨g, 0, none⟩) 1 cap, .slice (some ⟨w5.heap.size, 0, none⟩) 1 1] W fun e w' => e = .returned (.bool true) ∧ Upd [] W w' := by
    rintro W rfl
    exact sameInts_any _ _ [1] _ ((H5.out.1.isIn (by decide)).keep (Upd.alloc [] w5 _) (by simp)) (ints_new w5 [1] (by decide) (by decide) 1 rfl) (by decide)
  have CS := Lib.hid (CS1 _ rfl)
  clear h5 hk5 C5 H4 CS1
  go_wp2_with fail
  refine CS.out.mono ?_
  rintro e w6 ⟨rfl, hu6⟩
  have H6 := Lib.hid (show LG w w6 b m B ex4 from H5.out.2.next (((Upd.alloc [] w5 _).trans hu6).below (Nat.le_refl _) (by simp)))
  have C6 := Lib.hid (H6.out.until ex_until2)
  clear hu6 CS H5
  go_wp2_with fail
  refine C6.out.mono ?_
  rintro e w' ⟨rfl, rfl⟩
  have C7 := Lib.hid H6.out.well
  clear C6
  go_wp2_with fail
  refine C7.out.mono ?_
  rintro e w7 ⟨g7, cap7, rfl, hi7, h7⟩
  have H7 := Lib.hid h7
  have CS2 : ∀ W, W = w7.alloc (.cells #[.int .i64 2] 3) → Calls Try.prog 14 #[.slice (some ⟨g7, 0, none⟩) 1 cap7, .slice (some ⟨w7.heap.size, 0, none⟩) 1 1] W fun e w' => e = .returned (.bool true) ∧ Upd [] W w' := by
    rintro W rfl
    exact sameInts_any _ _ [2] _ (hi7.keep (Upd.alloc [] w7 _) (by simp)) (ints_new w7 [2] (by decide) (by decide) 1 rfl) (by decide)
  have CT := Lib.hid (CS2 _ rfl)
  clear hi7 h7 C7 H6 CS2
  go_wp2_with fail
  refine CT.out.mono ?_
  rintro e w8 ⟨rfl, hu8⟩
  have H8 := Lib.hid (H7.out.next (((Upd.alloc [] w7 (.cells #[.int .i64 2] 3)).trans hu8).below (Nat.le_refl _) (by simp)))
  clear hu8 CT H7
  go_wp2_with fail
  go_ret
  exact ⟨rfl, H8.out.st⟩
end Go.Proofs.Ytfmgcnmikopgeaa
