/- Layer 13: a sketch in memory; New, put, Add, Len. -/
import Derived.Test.YtfmgcnmikopgeaaSketchA
import Derived.StillTailTactics
namespace Go.Proofs.Ytfmgcnmikopgeaa
open Go.RowKit
def MapIs (es : List MapEntry) (c : Int → Int) : Prop := IntKeys es ∧ ∀ k, (getE es k).getD (.int .i64 0) = .int .i64 (c k)
def SkMap (w : World) (b m : Nat) (c : Int → Int) (all : Int) : Prop :=
  BlockAt w b 71 [.map (some m), .int .i64 all] ∧ ∃ es clock, MapAt w m es clock ∧ MapIs es c
theorem SkMap.ne {w : World} {b m : Nat} {c : Int → Int} {all : Int} (h : SkMap w b m c all) : b ≠ m := by
  obtain ⟨h1, es, clock, h2, -⟩ := h
  rintro rfl
  unfold BlockAt at h1
  unfold MapAt at h2
  rw [h1] at h2
  cases h2
theorem SkMap.keep {S : List Nat} {w w' : World} {b m : Nat} {c : Int → Int} {all : Int} (h : SkMap w b m c all) (u : Upd S w w') (hb : b ∉ S) (hm : m ∉ S) : SkMap w' b m c all := by
  obtain ⟨h1, es, clock, h2, h3⟩ := h
  exact ⟨h1.keep u hb, es, clock, h2.keep u hm, h3⟩
theorem SkMap.congr {w : World} {b m : Nat} {c c' : Int → Int} {all all' : Int} (h : SkMap w b m c all) (hc : ∀ k, c k = c' k) (ha : all = all') : SkMap w b m c' all' := by
  have : c = c' := funext hc
  subst this ha
  exact h
theorem SkMap.lt {w : World} {b m : Nat} {c : Int → Int} {all : Int} (h : SkMap w b m c all) : b < w.heap.size ∧ m < w.heap.size := by
  obtain ⟨h1, es, clock, h2, -⟩ := h
  exact ⟨h1.lt, h2.lt⟩
theorem tMapInt : Try.prog.underlying 69 = some (.map 3 3) := by kernel_rfl
theorem tInt : Try.prog.underlying 3 = some (.int .i64) := by kernel_rfl
theorem zeroInt (w : World) : (zeroValue 3).run Try.prog w = .ok (.int .i64 0) w := by kernel_rfl
/-- What is looked up in a sketch. -/
theorem sk_look {w : World} {m : Nat} {es : List MapEntry} {clock : Nat} {c : Int → Int} (hm : MapAt w m es clock) (hi : MapIs es c) (k : Int) :
    (Instr.lookup 69 (.map (some m)) (.int .i64 k) false).run Try.prog w = .ok (.int .i64 (c k)) w := by
  rw [map_look tMapInt tInt hm hi.1 (zeroInt w) k, hi.2 k]
def setAt (c : Int → Int) (k v : Int) : Int → Int := fun j => if j = k then v else c j
theorem sk_store {w : World} {m : Nat} {es : List MapEntry} {clock : Nat} {c : Int → Int} (hm : MapAt w m es clock) (hi : MapIs es c) (k v : Int) :
    ∃ w' es' clock', (Instr.mapUpdate 69 (.map (some m)) (.int .i64 k) (.int .i64 v)).run Try.prog w = .ok () w' ∧ MapAt w' m es' clock' ∧ MapIs es' (setAt c k v) ∧ Upd [m] w w' ∧ w'.heap.size = w.heap.size := by
  obtain ⟨w', es', c', h1, h2, h3, h4, h5, h6⟩ := map_store tMapInt tInt hm hi.1 k (.int .i64 v)
  refine ⟨w', es', c', h1, h2, ⟨h3, fun j => ?_⟩, h5, h6⟩
  rw [h4]
  unfold setAt
  split
  · rfl
  · exact hi.2 j
theorem plusI_any (a b : Int) (w : World) (ha0 : 0 ≤ a) (ha : a ≤ 1000000) (hb0 : 0 ≤ b) (hb : b ≤ 1000000) :
    Calls Try.prog 45 #[.int .i64 a, .int .i64 b] w fun e w' => e = .returned (.int .i64 (a + b)) ∧ w' = w := by
  go_enter Try.func45, Try.ntmps45
  go_wp2
  go_ret
  exact ⟨rfl, rfl⟩
def PutPost (b m : Nat) (c : Int → Int) (all k t : Int) (w : World) (e : Ending) (w' : World) : Prop := e = .returned (.tuple #[]) ∧ SkMap w' b m (setAt c k (c k + t)) (all + t) ∧ Upd [b, m] w w'
set_option maxRecDepth 100000 in
theorem put_any (b m : Nat) (c : Int → Int) (all k t : Int) (w : World) (h : SkMap w b m c all) (hc0 : 0 ≤ c k) (hc1 : c k ≤ 1000000) (ht0 : 0 ≤ t) (ht1 : t ≤ 1000000) (ha0 : 0 ≤ all) (ha1 : all ≤ 1000000) :
    Calls Try.prog 39 #[.pointer (some ⟨b, 0, none⟩), .int .i64 k, .int .i64 t] w (PutPost b m c all k t w) := by
  have hne := h.ne
  obtain ⟨h1, es, clock, h2, h3⟩ := h
  have c0 := h1.cell 0 _ rfl
  have c1 := h1.cell 1 _ rfl
  have hlk : (Instr.lookup 69 (.map (some m)) (.int .i64 k) false).run Try.prog w.drew = .ok (.int .i64 (c k)) w.drew := sk_look (w := w.drew) h2 h3 k
  obtain ⟨w1, es1, clock1, hst, hm1, hi1, hu1, hs1⟩ := sk_store (w := w.drew) h2 h3 k (c k + t)
  have hB1 : BlockAt w1 b 71 [.map (some m), .int .i64 all] := BlockAt.keep (w := w.drew) h1 hu1 (by simpa using hne)
  have d1 := hB1.cell 1 _ rfl
  have f1 := hB1.free 1
  have HM := Lib.hid hm1
  have HI := Lib.hid hi1
  have HB := Lib.hid hB1
  have HU := Lib.hid hu1
  obtain ⟨ck, hck⟩ : ∃ x, c k = x := ⟨_, rfl⟩
  rw [hck] at hc0 hc1 hlk hst
  have HCK := Lib.hid hck
  clear h1 h2 h3 hm1 hi1 hB1 hu1 hs1 hck
  go_enter Try.func39, Try.ntmps39
  go_wp2_with fail
  refine wp_region_still_tail 13 (by kernel_rfl) (by kernel_rfl) ?_
  simp only [List.take_succ_cons, List.take_zero, List.drop_succ_cons, List.drop_zero]
  change wpStill _ _ w.drew (fun a' => wpList _ _ _ _ a' w.drew) _ _
  repeat still_step
  still_call (plusI_any ck t w.drew hc0 hc1 ht0 ht1)
  refine wpStill_nil ?_
  go_wp2_with fail
  refine (plusI_any all t w1 ha0 ha1 ht0 ht1).mono ?_
  rintro e w2 ⟨rfl, rfl⟩
  go_wp2
  go_end0
  have hck' : c k = ck := HCK.out
  refine ⟨rfl, ⟨BlockAt.set HB.out 1 _, es1, clock1, HM.out.keep (Upd.setCell _ _ _) (by simp; exact fun e => hne e.symm), ?_⟩, ?_⟩
  · rw [hck']; have := HI.out; rwa [hck'] at this
  · exact (Upd.drew _ _).trans ((HU.out.mono (by simp)).trans (Upd.setCell' _ _ _ (by simp)))
/-- The counts of some numbers. -/
def cntI (l : List Nat) (k : Int) : Int := if 0 ≤ k then (cntN l k.toNat : Int) else 0
theorem cntI_nonneg (l : List Nat) (k : Int) : 0 ≤ cntI l k := by unfold cntI; split <;> omega
theorem cntI_le (l : List Nat) (k : Int) : cntI l k ≤ l.length := by unfold cntI; split <;> (try (have := cntN_le l k.toNat)) <;> omega
theorem cntI_nat (l : List Nat) (k : Nat) : cntI l k = cntN l k := by unfold cntI; simp
theorem cntI_append (l m : List Nat) (k : Int) : cntI (l ++ m) k = cntI l k + cntI m k := by
  unfold cntI
  split
  · rw [cntN_append]; omega
  · rfl
theorem cntI_snoc (l : List Nat) (n : Nat) : ∀ k, setAt (cntI l) (bucketN n) (cntI l (bucketN n) + 1) k = cntI (l ++ [n]) k := by
  intro k
  unfold setAt cntI
  by_cases hk : 0 ≤ k
  · rw [if_pos hk, if_pos hk, cntN_snoc]
    by_cases he : k = bucketN n
    · subst he; simp
    · rw [if_neg he, if_neg (by omega)]; simp
  · rw [if_neg (by omega), if_neg hk, if_neg hk]
def SkAt (w : World) (b m : Nat) (l : List Nat) : Prop := SkMap w b m (cntI l) l.length
theorem SkAt.keep {S : List Nat} {w w' : World} {b m : Nat} {l : List Nat} (h : SkAt w b m l) (u : Upd S w w') (hb : b ∉ S) (hm : m ∉ S) : SkAt w' b m l := SkMap.keep h u hb hm
theorem newSk_any (w : World) : Calls Try.prog 32 #[] w fun e w' => e = .returned (.pointer (some ⟨w.heap.size + 1, 0, none⟩)) ∧ SkAt w' (w.heap.size + 1) w.heap.size [] ∧ Upd [] w w' := by
  have hmm := @run_makeMap Try.prog
  go_enter Try.func32, Try.ntmps32
  go_wp2
  go_ret
  refine ⟨by simp, ⟨?_, [], 0, MapAt.keep (MapAt.new w) (Upd.alloc [] _ _) (by simp), ?_, fun k => ?_⟩, (Upd.alloc _ _ _).trans (Upd.alloc _ _ _)⟩
  · have := BlockAt.new (w.alloc (.map #[] 0)) 71 [.map (some w.heap.size), .int .i64 0]
    simpa using this
  · intro e he; simp at he
  · simp [getE, cntI, cntN]
def AddPost (b m : Nat) (l : List Nat) (n : Nat) (w : World) (e : Ending) (w' : World) : Prop := e = .returned (.tuple #[]) ∧ SkAt w' b m (l ++ [n]) ∧ Upd [b, m] w w'
theorem add_any (b m : Nat) (l : List Nat) (n : Nat) (w : World) (h : SkAt w b m l) (hlen : l.length ≤ 1000) (hn : n < 4611686018427387904) :
    Calls Try.prog 33 #[.pointer (some ⟨b, 0, none⟩), .int .i64 n] w (AddPost b m l n w) := by
  have HN := Lib.hid hn
  have H := Lib.hid h
  clear hn h
  go_enter Try.func33, Try.ntmps33
  go_wp2_with fail
  refine (bucket_any n _ HN.out).mono ?_
  rintro e w1 ⟨rfl, rfl⟩
  go_wp2_with fail
  refine (put_any b m (cntI l) l.length (bucketN n) 1 _ H.out (cntI_nonneg _ _) (by have := cntI_le l (bucketN n); omega) (by omega) (by omega) (by omega) (by omega)).mono ?_
  rintro e w1 ⟨rfl, hs, hu⟩
  go_wp2
  go_end0
  exact ⟨rfl, SkMap.congr hs (cntI_snoc l n) (by simp), hu⟩
def ReachedPost (L : Nat) (left c : Int) (w : World) (e : Ending) (w' : World) : Prop := e = .returned (.bool (decide (left - c ≤ 0))) ∧ BlockAt w' L 3 [.int .i64 (left - c)] ∧ Upd [L] w w'
set_option maxRecDepth 100000 in
theorem reached_any (b m L S : Nat) (l : List Nat) (k : Nat) (left : Int) (w : World) (h : SkAt w b m l) (hL : BlockAt w L 3 [.int .i64 left]) (hS : BlockAt w S 52 [.pointer (some ⟨b, 0, none⟩)]) (hlen : l.length ≤ 1000) (h0 : -1000 ≤ left) (h1 : left ≤ 1000) :
    Calls Try.prog 59 #[.int .i64 k, .pointer (some ⟨L, 0, none⟩), .pointer (some ⟨S, 0, none⟩)] w (ReachedPost L left (cntN l k) w) := by
  obtain ⟨hb, es, clock, hm, hi⟩ := h
  have c0 := hb.cell 0 _ rfl
  have l0 := hL.cell 0 _ rfl
  have lf := hL.free 0
  have s0 := hS.cell 0 _ rfl
  have hlk : (Instr.lookup 69 (.map (some m)) (.int .i64 k) false).run Try.prog w.drew = .ok (.int .i64 (cntI l k)) w.drew := sk_look (w := w.drew) hm hi k
  have hcl := cntN_le l k
  rw [cntI_nat] at hlk
  have HL := Lib.hid hL
  generalize cntN l k = C at *
  clear hb hm hi hL hS
  go_enter Try.func59, Try.ntmps59
  go_wp2_with fail
  go_still_tail 8, (by kernel_rfl)
  change wpList _ _ _ _ _ w.drew
  go_wp2
  go_ret
  exact ⟨by simp, BlockAt.set (BlockAt.drew HL.out) 0 _, (Upd.drew _ _).trans (Upd.setCell' _ _ _ (by simp))⟩
end Go.Proofs.Ytfmgcnmikopgeaa
