/- Layer 14: some: the IDs of which something is so, rising. -/
import Derived.Test.YtfmgcnmikopgeaaOutB
import Derived.Test.YtfmgcnmikopgeaaSortK
namespace Go.Proofs.Ytfmgcnmikopgeaa
open Go.RowKit
def idsOf (N : Nat) (p : Nat → Bool) : List Int := ((List.range N).filter p).map (fun i : Nat => (i : Int) + 1)
theorem idsOf_rise (N : Nat) (p : Nat → Bool) : (idsOf N p).Pairwise (· ≤ ·) := by
  unfold idsOf
  rw [List.pairwise_map]
  refine (List.Pairwise.sublist List.filter_sublist ?_)
  exact List.pairwise_lt_range.imp (fun h => by omega)
theorem idsOf_len (N : Nat) (p : Nat → Bool) : (idsOf N p).length ≤ N := by
  unfold idsOf
  rw [List.length_map]
  exact Nat.le_trans (List.length_filter_le _ _) (by simp)
theorem idsOf_mem {N : Nat} {p : Nat → Bool} {z : Int} : z ∈ idsOf N p ↔ ∃ i : Nat, i < N ∧ p i = true ∧ z = (i : Int) + 1 := by
  unfold idsOf
  simp only [List.mem_map, List.mem_filter, List.mem_range]
  constructor
  · rintro ⟨i, ⟨h1, h2⟩, rfl⟩; exact ⟨i, h1, h2, rfl⟩
  · rintro ⟨i, h1, h2, rfl⟩; exact ⟨i, ⟨h1, h2⟩, rfl⟩
theorem sort_ids {zs : List Int} {N : Nat} {p : Nat → Bool} (h : zs.Perm (idsOf N p)) : zs.mergeSort (fun x y => decide (x ≤ y)) = idsOf N p := by
  have h1 : (zs.mergeSort (fun x y => decide (x ≤ y))).Pairwise (fun x y => decide (x ≤ y) = true) := List.pairwise_mergeSort (fun a b c h1 h2 => by simp at *; omega) (fun a b => by simp; omega) zs
  exact List.Perm.eq_of_pairwise (fun a b _ _ h2 h3 => by omega) (h1.imp (fun h => by simpa using h)) (idsOf_rise N p) ((List.mergeSort_perm zs _).trans h)
def SomePost (N : Nat) (p : Nat → Bool) (w : World) (e : Ending) (w' : World) : Prop := ∃ v, e = .returned v ∧ OwnInts w.heap.size w' v (idsOf N p) ∧ Below w.heap.size w w'
set_option maxRecDepth 100000 in
set_option maxHeartbeats 2000000 in
theorem some_any (base b : Nat) (t : Wt) (frm : Int) (m N : Nat) (B : Nat → Nat) (S : Nat → Es) (w : World) (h : GAt base w b t frm m N B S) (hN : (N : Int) ≤ 1000) (f : FuncId) (cs : Array Value) (p : Nat → Bool) (hent : ∀ (args : Array Value) (W : World), (callFunc f args).run Try.prog W = .ok (.enter f args) W)
    (hask : ∀ (W : World) (i : Nat), Below w.heap.size w W → i < N → Calls Try.prog f (#[.pointer (some ⟨B i, 0, none⟩)] ++ cs) W fun e W' => e = .returned (.bool (p i)) ∧ Below W.heap.size W W') :
    Calls Try.prog 27 #[.pointer (some ⟨b, 0, none⟩), .func (Fn.func f) #[] cs] w (SomePost N p w) := by
  obtain ⟨es, clock, hm⟩ := h.map
  have HG := Lib.hid h
  have HM := Lib.hid hm
  have HA := Lib.hid hask
  have c8 := h.blk.cell 8 _ rfl
  have hrg := range_at (P := Try.prog) tMapEnd hm.at_
  have HI0 : Hid (IterAt (w.alloc (.mapIter (some m) clock #[] clock)) w.heap.size m clock #[] ∧ OwnInts w.heap.size (w.alloc (.mapIter (some m) clock #[] clock)) (.slice none 0 0) [] ∧ Below w.heap.size w (w.alloc (.mapIter (some m) clock #[] clock))) :=
    Lib.hid ⟨heap_alloc_new w _, OwnInts.nil _ _, (Below.refl _ _).alloc (Nat.le_refl _) _⟩
  clear h hm hask
  go_enter Try.func27, Try.ntmps27
  go_wp2_with fail
  obtain ⟨W1, hW1⟩ : ∃ W, w.alloc (.mapIter (some m) clock #[] clock) = W := ⟨_, rfl⟩
  obtain ⟨I, hI⟩ : ∃ I, w.heap.size = I := ⟨_, rfl⟩
  have HII := Lib.hid hI
  rw [hW1] at HI0
  have HI1 : Hid (IterAt W1 I m clock #[] ∧ OwnInts w.heap.size W1 (.slice none 0 0) [] ∧ Below w.heap.size w W1) := Lib.hid (by rw [← hI]; exact HI0.out)
  rw [hW1, hI]
  clear hW1 hI HI0 hrg c8
  go_loopw [5, 6, 7] (fun ov _ _ wr => ∃ (seen : Array Nat) (out : List Int), Hid (out.Perm ((seenF es seen p).map (fun i : Nat => (i : Int) + 1))) ∧ Hid (IterAt wr I m clock seen ∧ OwnInts w.heap.size wr ov out ∧ Below w.heap.size w wr)) (fun _ _ _ wr => (leftOf es.toArray (wr.iterSeen I)).size)
  case atStart => exact ⟨#[], [], Lib.hid (by rw [seenF_none]; exact List.Perm.refl _), HI1⟩
  case round =>
    obtain ⟨seen, out, HP, HI⟩ := hrel
    clear HI1
    obtain ⟨hit, hown, hbl⟩ := HI.out
    have hents := HM.out.keep (Upd.ofBelow hbl) (by simp)
    rcases next_at (P := Try.prog) hit hents.at_ hents.old with ⟨h0, hrun⟩ | ⟨e, he, w2, hit2, hu2, hsz2, hrun⟩
    · have hl : es.length = N := by have := congrArg List.length hents.is; simpa [entL] using this
      have hids : out.Perm (idsOf N p) := by have := HP.out; rw [seenF_all h0, hl] at this; exact this
      have hol := hids.length_eq
      have CS := Lib.hid (sortK_any w.heap.size u5 out wr hown (by have := idsOf_len N p; omega))
      have HO := Lib.hid (And.intro hown hids)
      clear hit hown hents hids hol hl
      go_wp2_with fail
      refine CS.out.mono ?_
      rintro e w3 ⟨rfl, hs3, hu3⟩
      rw [sort_ids HO.out.2] at hs3
      have HS3 := Lib.hid (show SomePost N p w (.returned u5) w3 from ⟨u5, rfl, hs3, hbl.trans (hu3.below hbl.size (fun k hk => (HO.out.1.lt k (by simpa using hk)).1))⟩)
      clear hs3 hu3 CS
      go_wp2_with fail
      go_ret
      exact HS3.out
    · obtain ⟨i, hi, hperm⟩ := seenF_push (p := p) hents.nodup he
      have hlist : (entL N B)[i]? = some (e.key, e.val) := by rw [← hents.is, List.getElem?_map, hi]; rfl
      obtain ⟨hiN, hkv⟩ : i < N ∧ (Value.int .i64 ((i : Int) + 1), Value.pointer (some ⟨B i, 0, none⟩)) = (e.key, e.val) := by
        unfold entL at hlist
        rw [List.getElem?_map] at hlist
        cases hr : (List.range N)[i]? with
        | none => rw [hr] at hlist; cases hlist
        | some j =>
          obtain ⟨h1, h2⟩ := List.getElem?_eq_some_iff.1 hr
          rw [List.getElem_range] at h2
          subst h2
          rw [hr] at hlist
          exact ⟨by simpa using h1, Option.some.inj hlist⟩
      rw [Prod.mk.injEq] at hkv
      have hw2 := hu2.below (B := w.heap.size) hbl.size (by have := HII.out; simp; omega)
      have hen := entry_at (P := Try.prog) hit2 ((hents.keep hu2 (by have := HII.out; have := HG.out.map_lt; simp; omega)).at_) (List.mem_of_getElem? hi) hents.nodup
      have hIb : ∀ k, u5.ownBlock = some k → k ≠ I := fun k hk hkI => by
        subst hkI
        rcases hown.2 with ⟨hv, -⟩ | ⟨g, cap, cur, hv, -, hg, -⟩
        · rw [hv] at hk; cases hk
        · rw [hv] at hk; cases hk; unfold IterAt at hit; rw [hit] at hg; cases hg
      have hown2 : OwnInts w.heap.size w2 u5 out := hu2.owns hown (fun k hk => by simp; exact hIb k hk)
      have CA := Lib.hid (HA.out w2 i (hbl.trans hw2) hiN)
      rw [← hkv.1, ← hkv.2] at hrun hen
      have HIN := Lib.hid (And.intro hiN hperm)
      have HB2 := Lib.hid (show Below w.heap.size w w2 from hbl.trans hw2)
      have HO2 := Lib.hid (And.intro hit2 (And.intro hown2 hIb))
      have HSE := Lib.hid (show (leftOf es.toArray (seen.push e.born)).size < (leftOf es.toArray seen).size ∧ wr.iterSeen I = seen from ⟨left_shrinks es.toArray seen e he, by unfold World.iterSeen; unfold IterAt at hit; rw [hit]⟩)
      clear hkv hlist hiN hperm he hi hents hw2 hown hown2 hIb hit hit2 hu2 hbl
      go_wp2_with fail
      refine CA.out.mono ?_
      rintro e2 w3 ⟨rfl, hb3⟩
      have hu3 := Upd.ofBelow hb3
      have HB3 := Lib.hid (HB2.out.trans (hb3.mono HB2.out.size))
      have hit3 := HO2.out.1.keep hu3 (by simp)
      have hown3 : OwnInts w.heap.size w3 u5 out := hu3.owns HO2.out.2.1 (by simp)
      have HO3 := Lib.hid (And.intro hit3 hown3)
      clear hb3 hu3 hit3 hown3 hrun hen CA
      cases hp : p i with
      | true =>
        have HP2 : Hid ((out ++ [(i : Int) + 1]).Perm ((seenF es (seen.push e.born) p).map (fun i : Nat => (i : Int) + 1))) := Lib.hid (by
          have h1 := HIN.out.2.map (fun i : Nat => (i : Int) + 1)
          rw [hp, if_pos rfl, List.map_append] at h1
          exact (HP.out.append_right _).trans h1.symm)
        have hol : out.length ≤ 1000 := by
          have h1 := HP.out.length_eq
          have h2 : (seenF es seen p).length ≤ es.length := by unfold seenF; exact Nat.le_trans (List.length_filter_le _ _) (by simp)
          have h3 : es.length = N := by have := congrArg List.length HM.out.is; simpa [entL] using this
          simp at h1; omega
        have hbs := HB3.out.size
        go_wp2_with (at_builtin; refine wpList_append_put w3 rfl (.tmp 21) (.tmp 23) 22 rfl w.heap.size 3 1 8 Try.infoInt (by kernel_rfl) rfl (by decide) u5 out.length _ rfl HO3.out.2 [.int .i64 ((i : Int) + 1)] rfl rfl rfl (by unfold maxLen; omega) (by omega) hbs ?_)
        intro g4 cap4 w4 hown4 hu4 hg4
        have HR : Hid (IterAt w4 I m clock (seen.push e.born) ∧ OwnInts w.heap.size w4 (.slice (some ⟨g4, 0, none⟩) (out.length + 1) cap4) (out ++ [(i : Int) + 1]) ∧ Below w.heap.size w w4) := Lib.hid
          ⟨HO3.out.1.keep hu4 (by simp; exact fun hh => HO2.out.2.2 I hh rfl), OwnInts.of hown4 (by simp) (by simp), HB3.out.trans (hu4.below hbs (fun k hk => (HO3.out.2.lt k (by simpa using hk)).1))⟩
        have hseen : w4.iterSeen I = seen.push e.born := by have := HR.out.1; unfold IterAt at this; unfold World.iterSeen; rw [this]
        have HSN := Lib.hid hseen
        clear hown4 hu4 hg4 hbs hol hseen
        go_wp2_with fail
        go_roundw
        case rel => exact ⟨seen.push e.born, out ++ [(i : Int) + 1], HP2, HR⟩
        case measure => rw [HSN.out, HSE.out.2]; exact HSE.out.1
      | false =>
        have HP2 : Hid (out.Perm ((seenF es (seen.push e.born) p).map (fun i : Nat => (i : Int) + 1))) := Lib.hid (by
          have h1 := HIN.out.2.map (fun i : Nat => (i : Int) + 1)
          rw [hp, if_neg (by simp), List.append_nil] at h1
          exact HP.out.trans h1.symm)
        have hseen : w3.iterSeen I = seen.push e.born := by have := HO3.out.1; unfold IterAt at this; unfold World.iterSeen; rw [this]
        have HSN := Lib.hid hseen
        have HR : Hid (IterAt w3 I m clock (seen.push e.born) ∧ OwnInts w.heap.size w3 u5 out ∧ Below w.heap.size w w3) := Lib.hid ⟨HO3.out.1, HO3.out.2, HB3.out⟩
        clear hseen
        go_wp2_with fail
        go_roundw
        case rel => exact ⟨seen.push e.born, out, HP2, HR⟩
        case measure => rw [HSN.out, HSE.out.2]; exact HSE.out.1
end Go.Proofs.Ytfmgcnmikopgeaa
