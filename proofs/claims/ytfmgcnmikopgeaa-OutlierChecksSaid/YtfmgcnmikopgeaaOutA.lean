/- Layer 14: a guard in memory. -/
import Derived.Test.YtfmgcnmikopgeaaSketchE
import Derived.Laws.IdiomRangeMap
namespace Go.Proofs.Ytfmgcnmikopgeaa
open Go.RowKit
structure Wt where
  errors : Int
  window : Int
  dev : Int
  slow : Int
  share : Int
  base : Int
  top : Int
def Wt.cells (t : Wt) : List Value := [.int .i64 t.errors, .int .i64 t.window, .int .i64 t.dev, .int .i64 t.slow, .int .i64 t.share, .int .i64 t.base, .int .i64 t.top]
def Wt.val (t : Wt) : Value := .agg #[.int .i64 t.errors, .int .i64 t.window, .int .i64 t.dev, .int .i64 t.slow, .int .i64 t.share, .int .i64 t.base, .int .i64 t.top]
/-- What is known of an endpoint: its sketch: its block, its map's, its numbers. -/
structure Es where
  row : Int
  times : Int
  ej : Bool
  untl : Int
  att : Int
  well : Int
  sk : Option (Nat × Nat × List Nat)
def skPtr (o : Option (Nat × Nat × List Nat)) : Value := .pointer (o.map fun x => ⟨x.1, 0, none⟩)
def Es.cells (s : Es) : List Value := [.int .i64 s.row, .int .i64 s.times, .bool s.ej, .int .i64 s.untl, .int .i64 s.att, .int .i64 s.well, skPtr s.sk]
def gCells (t : Wt) (frm : Int) (m : Nat) : List Value := [.int .i64 t.errors, .int .i64 t.window, .int .i64 t.dev, .int .i64 t.slow, .int .i64 t.share, .int .i64 t.base, .int .i64 t.top, .int .i64 frm, .map (some m)]
def upd {α : Type} (f : Nat → α) (p : Nat) (x : α) : Nat → α := fun q => if q = p then x else f q
theorem upd_same {α : Type} (f : Nat → α) (p : Nat) (x : α) : upd f p x p = x := by simp [upd]
theorem upd_other {α : Type} (f : Nat → α) {p q : Nat} (x : α) (h : q ≠ p) : upd f p x q = f q := by simp [upd, h]
theorem upd_self {α : Type} (f : Nat → α) (p : Nat) : upd f p (f p) = f := by funext q; unfold upd; split <;> simp_all
theorem upd_twice {α : Type} (f : Nat → α) (p : Nat) (x y : α) : upd (upd f p x) p y = upd f p y := by funext q; unfold upd; split <;> rfl
/-- The map's entries: the IDs from 1 on. -/
def entL (N : Nat) (B : Nat → Nat) : List (Value × Value) := (List.range N).map (fun i : Nat => (Value.int .i64 ((i : Int) + 1), Value.pointer (some ⟨B i, 0, none⟩)))
structure EntsAt (W : World) (m N : Nat) (B : Nat → Nat) (es : List MapEntry) (clock : Nat) : Prop where
  at_ : MapAt W m es clock
  is : es.map (fun e => (e.key, e.val)) = entL N B
  nodup : (es.map (·.born)).Nodup
  old : ∀ e ∈ es, e.born < clock
structure GAt (base : Nat) (W : World) (b : Nat) (t : Wt) (frm : Int) (m N : Nat) (B : Nat → Nat) (S : Nat → Es) : Prop where
  blk : BlockAt W b 48 (gCells t frm m)
  map : ∃ es clock, EntsAt W m N B es clock
  ends : ∀ i, i < N → BlockAt W (B i) 56 (S i).cells
  sks : ∀ i, i < N → ∀ sb sm l, (S i).sk = some (sb, sm, l) → SkAt W sb sm l ∧ base ≤ sb ∧ base ≤ sm ∧ sm ≠ m
  inj : ∀ i j, i < N → j < N → B i = B j → i = j
  apart : ∀ i j, i < N → j < N → i ≠ j → ∀ sb sm l sb' sm' l', (S i).sk = some (sb, sm, l) → (S j).sk = some (sb', sm', l') → sb ≠ sb' ∧ sm ≠ sm'
  low : base ≤ b ∧ ∀ i, i < N → base ≤ B i
theorem EntsAt.keep {T : List Nat} {W W' : World} {m N : Nat} {B : Nat → Nat} {es : List MapEntry} {clock : Nat} (h : EntsAt W m N B es clock) (u : Upd T W W') (hm : m ∉ T) : EntsAt W' m N B es clock := ⟨h.at_.keep u hm, h.is, h.nodup, h.old⟩
theorem bmap_ne {W : World} {b m : Nat} {t : TypeId} {cs : List Value} {es : List MapEntry} {c : Nat} (h : BlockAt W b t cs) (k : MapAt W m es c) : b ≠ m := by
  rintro rfl
  unfold BlockAt at h
  unfold MapAt at k
  rw [h] at k
  cases k
theorem btype_ne {W : World} {b c : Nat} {t u : TypeId} {cs ds : List Value} (h : BlockAt W b t cs) (k : BlockAt W c u ds) (hne : t ≠ u) : b ≠ c := by
  rintro rfl
  unfold BlockAt at h k
  rw [h] at k
  simp at k
  exact hne k.2
theorem GAt.next {base : Nat} {W W' : World} {b : Nat} {t : Wt} {frm : Int} {m N : Nat} {B : Nat → Nat} {S : Nat → Es} (h : GAt base W b t frm m N B S) (u : Upd [] W W') : GAt base W' b t frm m N B S := by
  obtain ⟨es, c, hm⟩ := h.map
  exact ⟨h.blk.keep u (by simp), ⟨es, c, hm.keep u (by simp)⟩, fun i hi => (h.ends i hi).keep u (by simp), fun i hi sb sm l hs => ⟨(h.sks i hi sb sm l hs).1.keep u (by simp) (by simp), (h.sks i hi sb sm l hs).2⟩, h.inj, h.apart, h.low⟩
theorem GAt.ends_lt {base : Nat} {W : World} {b : Nat} {t : Wt} {frm : Int} {m N : Nat} {B : Nat → Nat} {S : Nat → Es} (h : GAt base W b t frm m N B S) {i : Nat} (hi : i < N) : B i < W.heap.size := (h.ends i hi).lt
theorem GAt.map_lt {base : Nat} {W : World} {b : Nat} {t : Wt} {frm : Int} {m N : Nat} {B : Nat → Nat} {S : Nat → Es} (h : GAt base W b t frm m N B S) : m < W.heap.size := by
  obtain ⟨es, c, hm⟩ := h.map; exact hm.at_.lt
/-- The guard's window began anew, or nothing. -/
theorem GAt.from {base : Nat} {W W' : World} {b : Nat} {t : Wt} {frm frm' : Int} {m N : Nat} {B : Nat → Nat} {S : Nat → Es} (h : GAt base W b t frm m N B S) (u : Upd [b] W W') (hb : BlockAt W' b 48 (gCells t frm' m)) : GAt base W' b t frm' m N B S := by
  obtain ⟨es, c, hm⟩ := h.map
  refine ⟨hb, ⟨es, c, hm.keep u (by simp; exact (bmap_ne h.blk hm.at_).symm)⟩, fun i hi => (h.ends i hi).keep u (by simp; exact btype_ne (h.ends i hi) h.blk (by decide)), fun i hi sb sm l hs => ?_, h.inj, h.apart, h.low⟩
  obtain ⟨⟨k1, es', c', k2, k3⟩, k4⟩ := h.sks i hi sb sm l hs
  exact ⟨SkMap.keep ⟨k1, es', c', k2, k3⟩ u (by simp; exact btype_ne k1 h.blk (by decide)) (by simp; exact (bmap_ne h.blk k2).symm), k4⟩
/-- An endpoint was written. -/
theorem GAt.turn {base : Nat} {W W' : World} {b : Nat} {t : Wt} {frm : Int} {m N : Nat} {B : Nat → Nat} {S : Nat → Es} (h : GAt base W b t frm m N B S) {i : Nat} (hi : i < N) {T : List Nat} {s' : Es} (u : Upd T W W')
    (hT : ∀ k ∈ T, k = B i ∨ (∃ sb sm l, (S i).sk = some (sb, sm, l) ∧ (k = sb ∨ k = sm)) ∨ W.heap.size ≤ k) (hb : BlockAt W' (B i) 56 s'.cells)
    (hs : ∀ sb sm l, s'.sk = some (sb, sm, l) → SkAt W' sb sm l ∧ ((∃ l0, (S i).sk = some (sb, sm, l0)) ∨ (W.heap.size ≤ sb ∧ W.heap.size ≤ sm ∧ base ≤ W.heap.size))) : GAt base W' b t frm m N B (upd S i s') := by
  obtain ⟨es, c, hm⟩ := h.map
  have hsk := fun sb sm l hh => h.sks i hi sb sm l hh
  have nb : b ∉ T := fun hh => by
    rcases hT b hh with e | ⟨sb, sm, l, hsi, e | e⟩ | e
    · exact btype_ne h.blk (h.ends i hi) (by decide) e
    · obtain ⟨⟨k1, es', c', k2, k3⟩, k4⟩ := hsk sb sm l hsi; exact btype_ne h.blk k1 (by decide) e
    · obtain ⟨⟨k1, es', c', k2, k3⟩, k4⟩ := hsk sb sm l hsi; exact bmap_ne h.blk k2 e
    · have := h.blk.lt; omega
  have nm : m ∉ T := fun hh => by
    rcases hT m hh with e | ⟨sb, sm, l, hsi, e | e⟩ | e
    · exact bmap_ne (h.ends i hi) hm.at_ e.symm
    · obtain ⟨⟨k1, es', c', k2, k3⟩, k4⟩ := hsk sb sm l hsi; exact bmap_ne k1 hm.at_ e.symm
    · exact (hsk sb sm l hsi).2.2.2 e.symm
    · have := hm.at_.lt; omega
  have nB : ∀ j, j < N → j ≠ i → B j ∉ T := fun j hj hji hh => by
    rcases hT (B j) hh with e | ⟨sb, sm, l, hsi, e | e⟩ | e
    · exact hji (h.inj j i hj hi e)
    · obtain ⟨⟨k1, es', c', k2, k3⟩, k4⟩ := hsk sb sm l hsi; exact btype_ne (h.ends j hj) k1 (by decide) e
    · obtain ⟨⟨k1, es', c', k2, k3⟩, k4⟩ := hsk sb sm l hsi; exact bmap_ne (h.ends j hj) k2 e
    · have := (h.ends j hj).lt; omega
  have nS : ∀ j, j < N → j ≠ i → ∀ sb sm l, (S j).sk = some (sb, sm, l) → sb ∉ T ∧ sm ∉ T := fun j hj hji sb sm l hsj => by
    obtain ⟨⟨k1, es', c', k2, k3⟩, k4⟩ := h.sks j hj sb sm l hsj
    refine ⟨fun hh => ?_, fun hh => ?_⟩
    · rcases hT sb hh with e | ⟨sb', sm', l', hsi, e | e⟩ | e
      · exact btype_ne k1 (h.ends i hi) (by decide) e
      · exact (h.apart j i hj hi hji sb sm l sb' sm' l' hsj hsi).1 e
      · obtain ⟨⟨q1, es2, c2, q2, q3⟩, q4⟩ := hsk sb' sm' l' hsi; exact bmap_ne k1 q2 e
      · have := k1.lt; omega
    · rcases hT sm hh with e | ⟨sb', sm', l', hsi, e | e⟩ | e
      · exact bmap_ne (h.ends i hi) k2 e.symm
      · obtain ⟨⟨q1, es2, c2, q2, q3⟩, q4⟩ := hsk sb' sm' l' hsi; exact bmap_ne q1 k2 e.symm
      · exact (h.apart j i hj hi hji sb sm l sb' sm' l' hsj hsi).2 e
      · have := k2.lt; omega
  refine ⟨h.blk.keep u nb, ⟨es, c, hm.keep u nm⟩, fun j hj => ?_, fun j hj sb sm l hsj => ?_, h.inj, fun j k hj hk hjk sb sm l sb' sm' l' h1 h2 => ?_, h.low⟩
  · by_cases e : j = i
    · subst e; rw [upd_same]; exact hb
    · rw [upd_other _ _ e]; exact (h.ends j hj).keep u (nB j hj e)
  · by_cases e : j = i
    · subst e
      rw [upd_same] at hsj
      obtain ⟨k1, k2⟩ := hs sb sm l hsj
      rcases k2 with ⟨l0, k2⟩ | ⟨k2, k3, k4⟩
      · exact ⟨k1, (hsk sb sm l0 k2).2⟩
      · exact ⟨k1, by omega, by omega, by have := hm.at_.lt; omega⟩
    · rw [upd_other _ _ e] at hsj
      obtain ⟨k1, k2⟩ := h.sks j hj sb sm l hsj
      exact ⟨k1.keep u (nS j hj e sb sm l hsj).1 (nS j hj e sb sm l hsj).2, k2⟩
  · by_cases e : j = i
    · subst e
      rw [upd_same] at h1
      rw [upd_other _ _ (Ne.symm hjk)] at h2
      obtain ⟨k1, k2⟩ := hs sb sm l h1
      obtain ⟨⟨q1, es2, c2, q2, q3⟩, q4⟩ := h.sks k hk sb' sm' l' h2
      rcases k2 with ⟨l0, k2⟩ | ⟨k2, k3, k4⟩
      · exact h.apart j k hj hk hjk sb sm l0 sb' sm' l' k2 h2
      · have := q1.lt; have := q2.lt; exact ⟨by omega, by omega⟩
    · rw [upd_other _ _ e] at h1
      by_cases e2 : k = i
      · subst e2
        rw [upd_same] at h2
        obtain ⟨k1, k2⟩ := hs sb' sm' l' h2
        obtain ⟨⟨q1, es2, c2, q2, q3⟩, q4⟩ := h.sks j hj sb sm l h1
        rcases k2 with ⟨l0, k2⟩ | ⟨k2, k3, k4⟩
        · exact h.apart j k hj hk hjk sb sm l sb' sm' l0 h1 k2
        · have := q1.lt; have := q2.lt; exact ⟨by omega, by omega⟩
      · rw [upd_other _ _ e2] at h2
        exact h.apart j k hj hk hjk sb sm l sb' sm' l' h1 h2
/-- An endpoint's cells were written, its sketch left, or let go. -/
theorem GAt.write {base : Nat} {W W' : World} {b : Nat} {t : Wt} {frm : Int} {m N : Nat} {B : Nat → Nat} {S : Nat → Es} (h : GAt base W b t frm m N B S) {i : Nat} (hi : i < N) {s' : Es} (u : Upd [B i] W W') (hb : BlockAt W' (B i) 56 s'.cells) (hs : s'.sk = none ∨ s'.sk = (S i).sk) : GAt base W' b t frm m N B (upd S i s') :=
  h.turn hi u (by simp) hb (fun sb sm l hh => by
    rcases hs with e | e
    · rw [e] at hh; cases hh
    · rw [e] at hh
      obtain ⟨⟨k1, es', c', k2, k3⟩, k4⟩ := h.sks i hi sb sm l hh
      exact ⟨SkMap.keep ⟨k1, es', c', k2, k3⟩ u (by simp; exact btype_ne k1 (h.ends i hi) (by decide)) (by simp; exact (bmap_ne (h.ends i hi) k2).symm), .inl ⟨l, hh⟩⟩)
/-! Rows of integers, and of pairs, are not written by a guard. -/
def PlainO (o : Obj) : Prop := ∃ cs t fr, o = .cells cs t fr ∧ (t = 3 ∨ t = 67 ∨ t = 24 ∨ t = 32)
def Kept (w w' : World) : Prop := ∀ (k : Nat) (o : Obj), w.heap[k]? = some o → PlainO o → w'.heap[k]? = some o
def FreeB (w : World) (k : Nat) : Prop := ∀ o, w.heap[k]? = some o → ¬ PlainO o
theorem FreeB.block {w : World} {k : Nat} {t : TypeId} {cs : List Value} (h : BlockAt w k t cs) (h1 : t ≠ 3) (h2 : t ≠ 67) (h3 : t ≠ 24) (h4 : t ≠ 32) : FreeB w k := by
  rintro o ho ⟨cs', t', fr, rfl, ht⟩
  unfold BlockAt at h
  rw [h] at ho
  simp at ho
  rw [← ho.2.1] at ht
  rcases ht with ht | ht | ht | ht
  · exact h1 ht
  · exact h2 ht
  · exact h3 ht
  · exact h4 ht
theorem FreeB.map {w : World} {k : Nat} {es : List MapEntry} {c : Nat} (h : MapAt w k es c) : FreeB w k := by
  rintro o ho ⟨cs', t', fr, rfl, ht⟩
  unfold MapAt at h
  rw [h] at ho
  cases ho
theorem FreeB.new {w : World} {k : Nat} (h : w.heap.size ≤ k) : FreeB w k := by
  intro o ho
  have := lt_of_some ho
  omega
structure GStep (base : Nat) (w w' : World) : Prop where
  below : Below base w w'
  kept : Kept w w'
  size : w.heap.size ≤ w'.heap.size
theorem GStep.refl (base : Nat) (w : World) : GStep base w w := ⟨Below.refl _ _, fun _ _ h _ => h, Nat.le_refl _⟩
theorem GStep.trans {base : Nat} {a b c : World} (h : GStep base a b) (k : GStep base b c) : GStep base a c := ⟨h.below.trans k.below, fun i o ho hp => k.kept i o (h.kept i o ho hp) hp, Nat.le_trans h.size k.size⟩
theorem GStep.of {base : Nat} {w w' : World} {T : List Nat} (u : Upd T w w') (hb : base ≤ w.heap.size) (hT : ∀ k ∈ T, base ≤ k ∧ FreeB w k) : GStep base w w' :=
  ⟨u.below hb (fun k hk => (hT k hk).1), fun k o ho hp => u.keep ho (fun hk => (hT k hk).2 o ho hp), u.size⟩
theorem GStep.ofBelow {base : Nat} {w w' : World} (h : Below w.heap.size w w') (hb : base ≤ w.heap.size) : GStep base w w' := .of (Upd.ofBelow h) hb (by simp)
theorem Kept.owns {base : Nat} {w w' : World} (h : Kept w w') {e : TypeId} (he : e = 3 ∨ e = 67) {size : Nat} {v : Value} {n : Nat} {xs : List Value} (ho : w.ownsRow base e size v n xs) : w'.ownsRow base e size v n xs := by
  refine ⟨ho.1, ?_⟩
  rcases ho.2 with hn | ⟨g, cap, cur, hv, hb, hgg, rest⟩
  · exact .inl hn
  · exact .inr ⟨g, cap, cur, hv, hb, h g _ hgg ⟨_, _, _, rfl, he.imp _root_.id .inl⟩, rest⟩
theorem Kept.watch {w w' : World} (h : Kept w w') {k : Nat} {cs : List Value} (hb : BlockAt w k 24 cs) : BlockAt w' k 24 cs := h k _ hb ⟨_, _, _, rfl, .inr (.inr (.inl rfl))⟩
/-- Acts of the call's own. -/
theorem Kept.acts {base : Nat} {w w' : World} (h : Kept w w') {v : Value} {n : Nat} {xs : List Value} (ho : w.ownsRow base 32 6 v n xs) : w'.ownsRow base 32 6 v n xs := by
  refine ⟨ho.1, ?_⟩
  rcases ho.2 with hn | ⟨g, cap, cur, hv, hb, hgg, rest⟩
  · exact .inl hn
  · exact .inr ⟨g, cap, cur, hv, hb, h g _ hgg ⟨_, _, _, rfl, .inr (.inr (.inr rfl))⟩, rest⟩
theorem Kept.ints {base : Nat} {w w' : World} (h : Kept w w') {v : Value} {zs : List Int} (ho : OwnInts base w v zs) : OwnInts base w' v zs := Kept.owns h (.inl rfl) ho
theorem GAt.freeE {base : Nat} {W : World} {b : Nat} {t : Wt} {frm : Int} {m N : Nat} {B : Nat → Nat} {S : Nat → Es} (h : GAt base W b t frm m N B S) {i : Nat} (hi : i < N) : base ≤ B i ∧ FreeB W (B i) := ⟨h.low.2 i hi, .block (h.ends i hi) (by decide) (by decide) (by decide) (by decide)⟩
/-! Looking an endpoint up. -/
def ptrOf (N : Nat) (B : Nat → Nat) (k : Int) : Value := if 1 ≤ k ∧ k ≤ N then .pointer (some ⟨B (k - 1).toNat, 0, none⟩) else .pointer none
theorem ents_keys {es : List MapEntry} {N : Nat} {B : Nat → Nat} (h : es.map (fun e => (e.key, e.val)) = entL N B) : IntKeys es := fun e he => by
  have hm : (e.key, e.val) ∈ entL N B := by rw [← h]; exact List.mem_map.2 ⟨e, he, rfl⟩
  obtain ⟨i, -, hi⟩ := List.mem_map.1 hm
  exact ⟨(i : Int) + 1, by rw [Prod.mk.injEq] at hi; exact hi.1.symm⟩
theorem getE_ents (B : Nat → Nat) (k : Int) : ∀ (n o : Nat) (es : List MapEntry), es.map (fun e => (e.key, e.val)) = (List.range' o n).map (fun i : Nat => (Value.int .i64 ((i : Int) + 1), Value.pointer (some ⟨B i, 0, none⟩))) →
    getE es k = if (o : Int) + 1 ≤ k ∧ k ≤ (o : Int) + n then some (.pointer (some ⟨B (k - 1).toNat, 0, none⟩)) else none
  | 0, o, es, h => by
    have : es = [] := by simpa using h
    subst this
    rw [if_neg (by omega)]; rfl
  | n + 1, o, es, h => by
    rw [List.range'_succ, List.map_cons] at h
    cases es with
    | nil => simp at h
    | cons e es =>
      rw [List.map_cons, List.cons.injEq, Prod.mk.injEq] at h
      obtain ⟨⟨h1, h2⟩, h3⟩ := h
      have ih := getE_ents B k n (o + 1) es h3
      have hk : keyIs e k = decide (((o : Int) + 1) = k) := by unfold keyIs; rw [h1]
      unfold getE
      rw [hk, h2, ih]
      by_cases e1 : (o : Int) + 1 = k
      · subst e1
        rw [if_pos (by simp), if_pos (by omega), show ((o : Int) + 1 - 1).toNat = o by omega]
      · rw [if_neg (by simpa using e1)]
        by_cases e2 : (o : Int) + 1 + 1 ≤ k ∧ k ≤ (o : Int) + (n + 1 : Nat)
        · rw [if_pos (by omega), if_pos (by omega)]
        · rw [if_neg (by omega), if_neg (by omega)]
theorem tMapEnd : Try.prog.underlying 46 = some (.map 3 51) := by kernel_rfl
theorem zeroEndP (w : World) : (zeroValue 51).run Try.prog w = .ok (.pointer none) w := by kernel_rfl
theorem EntsAt.look {W : World} {m N : Nat} {B : Nat → Nat} {es : List MapEntry} {clock : Nat} (h : EntsAt W m N B es clock) (k : Int) :
    (Instr.lookup 46 (.map (some m)) (.int .i64 k) false).run Try.prog W = .ok (ptrOf N B k) W := by
  rw [map_look tMapEnd tInt h.at_ (ents_keys h.is) (zeroEndP W) k]
  congr 1
  rw [getE_ents B k N 0 es (by rw [h.is]; unfold entL; rw [List.range_eq_range'])]
  unfold ptrOf
  by_cases e : 1 ≤ k ∧ k ≤ (N : Int)
  · rw [if_pos (by omega), if_pos e]; rfl
  · rw [if_neg (by omega), if_neg e]; rfl
theorem GAt.look {base : Nat} {W : World} {b : Nat} {t : Wt} {frm : Int} {m N : Nat} {B : Nat → Nat} {S : Nat → Es} (h : GAt base W b t frm m N B S) (k : Int) :
    (Instr.lookup 46 (.map (some m)) (.int .i64 k) false).run Try.prog W = .ok (ptrOf N B k) W := by
  obtain ⟨es, c, hm⟩ := h.map; exact hm.look k
theorem ptrOf_in {N : Nat} {B : Nat → Nat} {i : Nat} (h : i < N) : ptrOf N B ((i : Int) + 1) = .pointer (some ⟨B i, 0, none⟩) := by
  unfold ptrOf
  rw [if_pos (by omega), show ((i : Int) + 1 - 1).toNat = i by omega]
theorem ptrOf_out {N : Nat} {B : Nat → Nat} {k : Int} (h : ¬ (1 ≤ k ∧ k ≤ (N : Int))) : ptrOf N B k = .pointer none := by unfold ptrOf; rw [if_neg h]
end Go.Proofs.Ytfmgcnmikopgeaa
