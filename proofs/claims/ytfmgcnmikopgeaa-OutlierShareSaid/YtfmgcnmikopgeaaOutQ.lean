/- Layer 14: the end of a window: what it makes of the endpoints, and what lies beside the guard meanwhile. -/
import Derived.Test.YtfmgcnmikopgeaaOutP
import Derived.Test.YtfmgcnmikopgeaaOutK
namespace Go.Proofs.Ytfmgcnmikopgeaa
open Go.RowKit
/-! The window's own part cleared; the times lowered. -/
def wz (s : Es) : Es := ⟨s.row, s.times, s.ej, s.untl, 0, 0, none⟩
def tmE (s : Es) : Es := ⟨s.row, max (s.times - 1) 0, s.ej, s.untl, s.att, s.well, s.sk⟩
def winS (S : Nat → Es) (l : List Nat) : Nat → Es := fun i => if i ∈ l then wz (S i) else S i
def timS (S : Nat → Es) (l : List Nat) : Nat → Es := fun i => if i ∈ l then tmE (S i) else S i
theorem winS_nil (S : Nat → Es) : winS S [] = S := by funext i; simp [winS]
theorem timS_nil (S : Nat → Es) : timS S [] = S := by funext i; simp [timS]
theorem timS_snoc {S : Nat → Es} {l : List Nat} {i : Nat} (h : i ∉ l) : upd (timS S l) i (tmE (timS S l i)) = timS S (l ++ [i]) := by
  have hi : timS S l i = S i := by unfold timS; rw [if_neg h]
  rw [hi]
  funext j
  by_cases e : j = i
  · subst e; rw [upd_same]; simp [timS]
  · rw [upd_other _ _ e]; simp [timS, e]
theorem winS_more {S : Nat → Es} {l l' : List Nat} {i : Nat} (h : l'.Perm (l ++ [i])) : upd (winS S l) i (wz (winS S l i)) = winS S l' := by
  funext j
  have hm : j ∈ l' ↔ j ∈ l ∨ j = i := by rw [h.mem_iff]; simp
  by_cases e : j = i
  · subst e
    rw [upd_same]
    unfold winS
    rw [if_pos (hm.2 (.inr rfl))]
    by_cases hl : j ∈ l
    · rw [if_pos hl]; rfl
    · rw [if_neg hl]
  · rw [upd_other _ _ e]
    unfold winS
    by_cases hl : j ∈ l
    · rw [if_pos hl, if_pos (hm.2 (.inl hl))]
    · rw [if_neg hl, if_neg (fun hh => (hm.1 hh).elim hl e)]
def askP (S : Nat → Es) (i : Nat) : Bool := !(S i).ej && decide (5 ≤ (S i).att)
def cleanP (S : Nat → Es) (i : Nat) : Bool := !(S i).ej && ((S i).att == (S i).well)
def askL (N : Nat) (S : Nat → Es) : List Nat := (List.range N).filter (askP S)
def cleanL (N : Nat) (S : Nat → Es) : List Nat := (List.range N).filter (cleanP S)
theorem idsOf_filter (N : Nat) (p : Nat → Bool) : idsOf N p = ((List.range N).filter p).map (fun i : Nat => (i : Int) + 1) := rfl
theorem filter_idx {N : Nat} {p : Nat → Bool} {q i : Nat} (h : ((List.range N).filter p)[q]? = some i) : i < N ∧ p i = true ∧ (idsOf N p)[q]? = some ((i : Int) + 1) ∧ i ∉ ((List.range N).filter p).take q := by
  have hm := List.mem_of_getElem? h
  rw [List.mem_filter, List.mem_range] at hm
  refine ⟨hm.1, hm.2, by rw [idsOf_filter, List.getElem?_map, h]; rfl, fun hh => ?_⟩
  obtain ⟨k, hk⟩ := List.getElem?_of_mem hh
  obtain ⟨h1, h2⟩ := List.getElem?_eq_some_iff.1 hk
  obtain ⟨h3, h4⟩ := List.getElem?_eq_some_iff.1 h
  rw [List.getElem_take] at h2
  have hn : ((List.range N).filter p).Nodup := List.Nodup.sublist List.filter_sublist List.nodup_range
  have := (List.getElem_inj hn).1 (h2.trans h4.symm)
  simp at h1; omega
theorem filter_idx_of {N : Nat} {p : Nat → Bool} {q n : Nat} (hn : (idsOf N p).length = n) (h : q < n) : ∃ i, ((List.range N).filter p)[q]? = some i := by
  rw [idsOf_filter, List.length_map] at hn
  exact ⟨((List.range N).filter p)[q]'(by omega), List.getElem?_eq_getElem _⟩
/-! Who may have been ejected. -/
def EjTo (t : Wt) (now : Int) (S S1 : Nat → Es) (l : List Nat) : Prop := ∀ i, S1 i = S i ∨ (i ∈ l ∧ (S i).ej = false ∧ S1 i = ejectE t now (S i))
theorem EjTo.start (t : Wt) (now : Int) (S : Nat → Es) : EjTo t now S S [] := fun _ => .inl rfl
theorem EjTo.same {t : Wt} {now : Int} {S S1 : Nat → Es} {l : List Nat} (h : EjTo t now S S1 l) (i : Nat) : EjTo t now S S1 (l ++ [i]) := fun j => (h j).imp _root_.id fun h => ⟨by simp [h.1], h.2⟩
theorem EjTo.at {t : Wt} {now : Int} {S S1 : Nat → Es} {l : List Nat} (h : EjTo t now S S1 l) {i : Nat} (hi : i ∉ l) : S1 i = S i := (h i).elim _root_.id fun h => absurd h.1 hi
theorem EjTo.more {t : Wt} {now : Int} {S S1 : Nat → Es} {l : List Nat} (h : EjTo t now S S1 l) {i : Nat} (hi : i ∉ l) (hf : (S i).ej = false) : EjTo t now S (upd S1 i (ejectE t now (S1 i))) (l ++ [i]) := fun j => by
  by_cases e : j = i
  · subst e
    rw [upd_same, h.at hi]
    exact .inr ⟨by simp, hf, rfl⟩
  · rw [upd_other _ _ e]
    exact h.same i j
/-- How many are ejected: one more at most. -/
theorem outN_upd (N : Nat) (S : Nat → Es) (i : Nat) (s' : Es) : outN N (upd S i s') ≤ outN N S + 1 := by
  unfold outN
  have h : ∀ l : List Nat, l.Nodup → (l.filter (fun j => (upd S i s' j).ej)).length ≤ (l.filter (fun j => (S j).ej)).length + 1 ∧ (i ∉ l → (l.filter (fun j => (upd S i s' j).ej)).length = (l.filter (fun j => (S j).ej)).length) := by
    intro l hl
    induction l with
    | nil => simp
    | cons a l ih =>
      rw [List.nodup_cons] at hl
      obtain ⟨h1, h2⟩ := ih hl.2
      by_cases e : a = i
      · subst e
        have h3 := h2 hl.1
        refine ⟨?_, fun hh => by simp at hh⟩
        rw [List.filter_cons, List.filter_cons]
        split <;> split <;> (try simp only [List.length_cons]) <;> omega
      · have : (upd S i s' a).ej = (S a).ej := by rw [upd_other _ _ e]
        refine ⟨?_, fun hh => ?_⟩
        · rw [List.filter_cons, List.filter_cons, this]
          split <;> (try simp only [List.length_cons]) <;> omega
        · rw [List.filter_cons, List.filter_cons, this]
          have h4 := h2 (fun hm => hh (List.mem_cons_of_mem _ hm))
          split <;> (try simp only [List.length_cons]) <;> omega
  exact (h _ List.nodup_range).1
theorem outN_congr {N : Nat} {S S' : Nat → Es} (h : ∀ i, i < N → (S' i).ej = (S i).ej) : outN N S' = outN N S := by
  unfold outN
  rw [List.filter_congr (fun i hi => h i (List.mem_range.1 hi))]
def capN (N : Nat) (t : Wt) (S : Nat → Es) : Int := max (outN N S : Int) ((N : Int) * t.share / 100)
def Calm (N : Nat) (t : Wt) (S : Nat → Es) : Prop := ∀ i, i < N → (S i).ej = false → CalmE t (S i)
/-- What the end of a window makes of one. -/
structure EndE (t : Wt) (now : Int) (s s' : Es) : Prop where
  row : s'.row = s.row
  ej : (s'.ej = s.ej ∧ s'.untl = s.untl) ∨ (s.ej = false ∧ s'.ej = true ∧ s'.untl = (ejectE t now s).untl)
  t0 : 0 ≤ s.times → 0 ≤ s'.times ∧ s'.times ≤ s.times + 1
  att : s'.att = 0
  well : s'.well = 0
  sk : s'.sk = none
structure EndIs (N : Nat) (t : Wt) (now : Int) (S S' : Nat → Es) (out : List Int) : Prop where
  each : ∀ i, i < N → EndE t now (S i) (S' i)
  room : (outN N S' : Int) ≤ capN N t S
  calm : Calm N t S → out = [] ∧ ∀ i, i < N → (S' i).ej = (S i).ej ∧ (S' i).untl = (S i).untl
theorem EndIs.of {N : Nat} {t : Wt} {now : Int} {S S1 : Nat → Es} {out : List Int} {l : List Nat} (h : EjTo t now S S1 l) (hr : (outN N S1 : Int) ≤ capN N t S) (hc : Calm N t S → out = [] ∧ S1 = S) :
    EndIs N t now S (winS (timS S1 (cleanL N S)) (List.range N)) out := by
  have he : ∀ i, i < N → (winS (timS S1 (cleanL N S)) (List.range N) i).ej = (S1 i).ej ∧ (winS (timS S1 (cleanL N S)) (List.range N) i).untl = (S1 i).untl ∧ (winS (timS S1 (cleanL N S)) (List.range N) i).row = (S1 i).row := fun i hi => by
    unfold winS
    rw [if_pos (List.mem_range.2 hi)]
    unfold timS wz
    split <;> exact ⟨rfl, rfl, rfl⟩
  refine ⟨fun i hi => ?_, by rw [outN_congr fun i hi => (he i hi).1]; exact hr, fun hcalm => ⟨(hc hcalm).1, fun i hi => ?_⟩⟩
  · obtain ⟨h1, h2, h3⟩ := he i hi
    refine ⟨?_, ?_, fun h0 => ?_, ?_, ?_, ?_⟩
    · rw [h3]; rcases h i with e | ⟨-, -, e⟩ <;> rw [e]; rfl
    · rw [h1, h2]
      rcases h i with e | ⟨-, e0, e⟩
      · rw [e]; exact .inl ⟨rfl, rfl⟩
      · rw [e]; exact .inr ⟨e0, rfl, rfl⟩
    · have h4 : 0 ≤ (S1 i).times ∧ (S1 i).times ≤ (S i).times + 1 := by
        rcases h i with e | ⟨-, -, e⟩
        · rw [e]; omega
        · rw [e]; show 0 ≤ (S i).times + 1 ∧ (S i).times + 1 ≤ (S i).times + 1; omega
      unfold winS
      rw [if_pos (List.mem_range.2 hi)]
      unfold timS wz tmE
      split <;> dsimp only <;> omega
    · unfold winS; rw [if_pos (List.mem_range.2 hi)]; rfl
    · unfold winS; rw [if_pos (List.mem_range.2 hi)]; rfl
    · unfold winS; rw [if_pos (List.mem_range.2 hi)]; rfl
  · obtain ⟨h1, h2, -⟩ := he i hi
    rw [h1, h2, (hc hcalm).2]; exact ⟨rfl, rfl⟩
/-! The pairs of those that were asked. -/
def pairsS (S : Nat → Es) (l : List Nat) : List (Int × Int) := l.map (fun i => ((S i).well, (S i).att))
def cellsP (ps : List (Int × Int)) : List Value := ps.flatMap fun p => [.int .i64 p.1, .int .i64 p.2]
theorem cellsP_append (l m : List (Int × Int)) : cellsP (l ++ m) = cellsP l ++ cellsP m := by simp [cellsP]
theorem cellsP_get (l : List (Int × Int)) : ∀ (k : Nat) (p : Int × Int), l[k]? = some p → (cellsP l)[k * 2]? = some (.int .i64 p.1) ∧ (cellsP l)[k * 2 + 1]? = some (.int .i64 p.2) := by
  induction l with
  | nil => intro k a h; simp at h
  | cons x l ih =>
    intro k p h
    have e : cellsP (x :: l) = .int .i64 x.1 :: .int .i64 x.2 :: cellsP l := by simp [cellsP]
    rw [e]
    match k, h with
    | 0, h => simp at h; subst h; simp
    | k + 1, h =>
      have := ih k p (by simpa using h)
      rw [show (k + 1) * 2 = k * 2 + 1 + 1 by omega]
      simpa using this
theorem Try.infoPair : (Try.prog.info? 67).map (fun i => (i.zero, i.size, i.bytes)) = some (some (.agg #[.int .i64 0, .int .i64 0]), 2, 16) := by kernel_rfl
/-- Pairs of the call's own. -/
def PairsOwn (base : Nat) (w : World) (u : Value) (l : List (Int × Int)) : Prop := w.ownsRow base 67 2 u l.length (cellsP l)
theorem PairsOwn.isIn {base : Nat} {w : World} {u : Value} {l : List (Int × Int)} (h : PairsOwn base w u l) (hl : l.length ≤ 20) (hok : ∀ p ∈ l, PairOk p) : PairsIn w u l := by
  unfold PairsOwn at h
  have hc := fun g hg => h.cells (g := g) hg
  rcases h.2 with ⟨hv, hn⟩ | ⟨g, cap, cur, rfl, _, hgg, hlc, hcm, _⟩
  · have : l = [] := List.eq_nil_of_length_eq_zero hn
    subst this
    exact ⟨none, 0, hv, by simp, by simp, .inl rfl⟩
  · refine ⟨_, cap, rfl, hl, hok, .inr ⟨g, 0, rfl, fun j p hp => ?_⟩⟩
    obtain ⟨e1, e2⟩ := cellsP_get l j p hp
    have c1 := hc g rfl (j * 2) _ e1
    have c2 := hc g rfl (j * 2 + 1) _ e2
    simp only [Addr.add_lit, Nat.zero_add] at c1 c2
    exact ⟨by rw [Nat.zero_add]; exact c1, by rw [Nat.zero_add]; exact c2⟩
theorem pairsS_ok {N : Nat} {S : Nat → Es} {c : Int} (hc : c ≤ 900) (h : ∀ i, i < N → EsOk c (S i)) : ∀ p ∈ pairsS S (askL N S), PairOk p := fun p hp => by
  obtain ⟨i, hi, rfl⟩ := List.mem_map.1 hp
  unfold askL at hi
  rw [List.mem_filter, List.mem_range] at hi
  have h1 := h i hi.1
  have h2 := hi.2
  unfold askP at h2
  simp at h2
  have := h1.w0; have := h1.w1; have := h1.a1
  exact ⟨by dsimp only; omega, h1.w1, by dsimp only; omega, by dsimp only; omega⟩
theorem pairsS_calm {N : Nat} {t : Wt} {S : Nat → Es} (h : Calm N t S) : CalmP (pairsS S (askL N S)) := fun p hp => by
  obtain ⟨i, hi, rfl⟩ := List.mem_map.1 hp
  unfold askL at hi
  rw [List.mem_filter, List.mem_range] at hi
  have h2 := hi.2
  unfold askP at h2
  simp at h2
  exact (h i hi.1 h2.1).1
/-! Memory. -/
theorem GAt.far {base : Nat} {W W' : World} {b : Nat} {t : Wt} {frm : Int} {m N : Nat} {B : Nat → Nat} {S : Nat → Es} (h : GAt base W b t frm m N B S) {T : List Nat} (u : Upd T W W') (hT : ∀ k ∈ T, (∃ cs ty, BlockAt W k ty cs ∧ (ty = 3 ∨ ty = 67)) ∨ W.heap.size ≤ k) : GAt base W' b t frm m N B S := by
  obtain ⟨es, c, hm⟩ := h.map
  have blk : ∀ (x : Nat) (ty : TypeId) (cs : List Value), BlockAt W x ty cs → ty ≠ 3 → ty ≠ 67 → x ∉ T := fun x ty cs hx h1 h2 hh => by
    rcases hT x hh with ⟨cs', ty', hb, h3⟩ | h3
    · rcases h3 with rfl | rfl
      · exact btype_ne hx hb h1 rfl
      · exact btype_ne hx hb h2 rfl
    · have := hx.lt; omega
  have mp : ∀ (x : Nat) (es : List MapEntry) (c : Nat), MapAt W x es c → x ∉ T := fun x es c hx hh => by
    rcases hT x hh with ⟨cs', ty', hb, h3⟩ | h3
    · exact bmap_ne hb hx rfl
    · have := hx.lt; omega
  refine ⟨h.blk.keep u (blk _ _ _ h.blk (by decide) (by decide)), ⟨es, c, hm.keep u (mp _ _ _ hm.at_)⟩, fun i hi => (h.ends i hi).keep u (blk _ _ _ (h.ends i hi) (by decide) (by decide)), fun i hi sb sm l hs => ?_, h.inj, h.apart, h.low⟩
  obtain ⟨⟨k1, es', c', k2, k3⟩, k4⟩ := h.sks i hi sb sm l hs
  exact ⟨SkMap.keep ⟨k1, es', c', k2, k3⟩ u (blk _ _ _ k1 (by decide) (by decide)) (mp _ _ _ k2), k4⟩
theorem GStep.own {base : Nat} {w wr w1 : World} (h : GStep base w wr) {T : List Nat} (u : Upd T wr w1) (hb : base ≤ w.heap.size) (hT : ∀ k ∈ T, w.heap.size ≤ k) : GStep base w w1 :=
  ⟨h.below.trans (u.below (Nat.le_trans hb h.size) (fun k hk => Nat.le_trans hb (hT k hk))), fun k o ho hp => u.keep (h.kept k o ho hp) (fun hk => by have := hT k hk; have := lt_of_some ho; omega), Nat.le_trans h.size u.size⟩
theorem own_block {W : World} {base : Nat} {e : TypeId} {size : Nat} {v : Value} {n : Nat} {xs : List Value} (h : W.ownsRow base e size v n xs) {k : Nat} (hk : v.ownBlock = some k) : ∃ cs, BlockAt W k e cs := by
  rcases h.2 with ⟨hv, -⟩ | ⟨g, cap, cur, hv, -, hg, -⟩
  · rw [hv] at hk; cases hk
  · rw [hv] at hk; cases hk
    exact ⟨cur.toList, by unfold BlockAt; simpa using hg⟩
/-- What lies beside the guard at the end of a window: who was clean, who was asked, their shares. -/
structure EW (base : Nat) (w : World) (b : Nat) (t : Wt) (frm : Int) (m N : Nat) (B : Nat → Nat) (L1 : Nat) (av cv uv : Value) (zs ys : List Int) (ps : List (Int × Int)) (S : Nat → Es) (W : World) : Prop where
  g : GAt base W b t frm m N B S
  st : GStep base w W
  a : OwnInts w.heap.size W av zs
  c : OwnInts w.heap.size W cv ys
  p : PairsOwn L1 W uv ps
  al : ∀ k, av.ownBlock = some k → k < L1
  cl : ∀ k, cv.ownBlock = some k → k < L1
  ll : w.heap.size ≤ L1 ∧ L1 ≤ W.heap.size ∧ base ≤ w.heap.size
section
variable {base : Nat} {w : World} {b : Nat} {t : Wt} {frm : Int} {m N : Nat} {B : Nat → Nat} {L1 : Nat} {av cv uv : Value} {zs ys : List Int} {ps : List (Int × Int)} {S : Nat → Es} {W W' : World}
theorem EW.guard (h : EW base w b t frm m N B L1 av cv uv zs ys ps S W) {S' : Nat → Es} (hg : GPost base b t frm m N B S' W W') : EW base w b t frm m N B L1 av cv uv zs ys ps S' W' :=
  ⟨hg.1, h.st.trans hg.2, hg.2.kept.ints h.a, hg.2.kept.ints h.c, hg.2.kept.owns (.inr rfl) h.p, h.al, h.cl, h.ll.1, Nat.le_trans h.ll.2.1 hg.2.size, h.ll.2.2⟩
theorem EW.next (h : EW base w b t frm m N B L1 av cv uv zs ys ps S W) (u : Upd [] W W') : EW base w b t frm m N B L1 av cv uv zs ys ps S W' :=
  h.guard ⟨h.g.next u, .of u (Nat.le_trans h.ll.2.2 h.st.size) (by simp)⟩
theorem EW.pairs (h : EW base w b t frm m N B L1 av cv uv zs ys ps S W) {uv' : Value} {ps' : List (Int × Int)} (hp : PairsOwn L1 W' uv' ps') (u : Upd uv.ownBlock.toList W W') : EW base w b t frm m N B L1 av cv uv' zs ys ps' S W' := by
  have hT : ∀ k ∈ uv.ownBlock.toList, L1 ≤ k ∧ ∃ cs, BlockAt W k 67 cs := fun k hk => by
    have hk' : uv.ownBlock = some k := by simpa using hk
    exact ⟨(h.p.lt k hk').1, own_block h.p hk'⟩
  refine ⟨h.g.far u (fun k hk => ?_), h.st.own u h.ll.2.2 (fun k hk => by have := (hT k hk).1; have := h.ll.1; omega), u.owns h.a (fun k hk => ?_), u.owns h.c (fun k hk => ?_), hp, h.al, h.cl, h.ll.1, Nat.le_trans h.ll.2.1 u.size, h.ll.2.2⟩
  · obtain ⟨-, cs, hb⟩ := hT k hk
    exact .inl ⟨cs, _, hb, .inr rfl⟩
  · intro hh; have := (hT k hh).1; have := h.al k hk; omega
  · intro hh; have := (hT k hh).1; have := h.cl k hk; omega
end
/-- With who was ejected, in a row of its own. -/
structure EW2 (base : Nat) (w : World) (b : Nat) (t : Wt) (frm : Int) (m N : Nat) (B : Nat → Nat) (L1 L2 : Nat) (av cv uv : Value) (zs ys : List Int) (ps : List (Int × Int)) (S : Nat → Es) (ov : Value) (out : List Int) (W : World) : Prop where
  e : EW base w b t frm m N B L1 av cv uv zs ys ps S W
  o : OwnInts L2 W ov out
  ul : ∀ k, uv.ownBlock = some k → k < L2
  ll : L1 ≤ L2 ∧ L2 ≤ W.heap.size
section
variable {base : Nat} {w : World} {b : Nat} {t : Wt} {frm : Int} {m N : Nat} {B : Nat → Nat} {L1 L2 : Nat} {av cv uv : Value} {zs ys : List Int} {ps : List (Int × Int)} {S : Nat → Es} {ov : Value} {out : List Int} {W W' : World}
theorem EW.two (h : EW base w b t frm m N B L1 av cv uv zs ys ps S W) : EW2 base w b t frm m N B L1 W.heap.size av cv uv zs ys ps S (.slice none 0 0) [] W :=
  ⟨h, OwnInts.nil _ _, fun k hk => (h.p.lt k hk).2, h.ll.2.1, Nat.le_refl _⟩
theorem EW2.guard (h : EW2 base w b t frm m N B L1 L2 av cv uv zs ys ps S ov out W) {S' : Nat → Es} (hg : GPost base b t frm m N B S' W W') : EW2 base w b t frm m N B L1 L2 av cv uv zs ys ps S' ov out W' :=
  ⟨h.e.guard hg, hg.2.kept.ints h.o, h.ul, h.ll.1, Nat.le_trans h.ll.2 hg.2.size⟩
theorem EW2.next (h : EW2 base w b t frm m N B L1 L2 av cv uv zs ys ps S ov out W) (u : Upd [] W W') : EW2 base w b t frm m N B L1 L2 av cv uv zs ys ps S ov out W' :=
  ⟨h.e.next u, u.owns h.o (by simp), h.ul, h.ll.1, Nat.le_trans h.ll.2 u.size⟩
theorem EW2.app (h : EW2 base w b t frm m N B L1 L2 av cv uv zs ys ps S ov out W) {ov' : Value} {out' : List Int} (ho : OwnInts L2 W' ov' out') (u : Upd ov.ownBlock.toList W W') : EW2 base w b t frm m N B L1 L2 av cv uv zs ys ps S ov' out' W' := by
  have hT : ∀ k ∈ ov.ownBlock.toList, L2 ≤ k ∧ ∃ cs, BlockAt W k 3 cs := fun k hk => by
    have hk' : ov.ownBlock = some k := by simpa using hk
    exact ⟨(h.o.lt k hk').1, own_block h.o hk'⟩
  have hl := h.ll.1
  have hl2 := h.e.ll.1
  refine ⟨⟨h.e.g.far u (fun k hk => ?_), h.e.st.own u h.e.ll.2.2 (fun k hk => by have := (hT k hk).1; omega), u.owns h.e.a (fun k hk => ?_), u.owns h.e.c (fun k hk => ?_), u.owns h.e.p (fun k hk => ?_), h.e.al, h.e.cl, h.e.ll.1, Nat.le_trans h.e.ll.2.1 u.size, h.e.ll.2.2⟩, ho, h.ul, h.ll.1, Nat.le_trans h.ll.2 u.size⟩
  · obtain ⟨-, cs, hb⟩ := hT k hk
    exact .inl ⟨cs, _, hb, .inl rfl⟩
  · intro hh; have := (hT k hh).1; have := h.e.al k hk; omega
  · intro hh; have := (hT k hh).1; have := h.e.cl k hk; omega
  · intro hh; have := (hT k hh).1; have := h.ul k hk; omega
end
theorem iter_block {W : World} {I bm clock : Nat} {seen : Array Nat} (hit : IterAt W I bm clock seen) {k : Nat} {ty : TypeId} {cs : List Value} (h : BlockAt W k ty cs) : k ≠ I := by
  rintro rfl
  unfold IterAt at hit
  unfold BlockAt at h
  rw [h] at hit
  cases hit
theorem iter_map {W : World} {I bm clock : Nat} {seen : Array Nat} (hit : IterAt W I bm clock seen) {k : Nat} {es : List MapEntry} {c : Nat} (h : MapAt W k es c) : k ≠ I := by
  rintro rfl
  unfold IterAt at hit
  unfold MapAt at h
  rw [h] at hit
  cases hit
theorem iter_own {W : World} {I bm clock : Nat} {seen : Array Nat} (hit : IterAt W I bm clock seen) {base : Nat} {e : TypeId} {size : Nat} {v : Value} {n : Nat} {xs : List Value} (h : W.ownsRow base e size v n xs) : ∀ k ∈ v.ownBlock.toList, k ≠ I := fun k hk => by
  obtain ⟨cs, hb⟩ := own_block h (by simpa using hk)
  exact iter_block hit hb
/-- An iterator went on. -/
theorem GAt.iter {base : Nat} {W W' : World} {b : Nat} {t : Wt} {frm : Int} {m N : Nat} {B : Nat → Nat} {S : Nat → Es} (h : GAt base W b t frm m N B S) {I bm clock : Nat} {seen : Array Nat} (hit : IterAt W I bm clock seen) (u : Upd [I] W W') : GAt base W' b t frm m N B S := by
  obtain ⟨es, c, hm⟩ := h.map
  refine ⟨h.blk.keep u (by simp; exact iter_block hit h.blk), ⟨es, c, hm.keep u (by simp; exact iter_map hit hm.at_)⟩, fun i hi => (h.ends i hi).keep u (by simp; exact iter_block hit (h.ends i hi)), fun i hi sb sm l hs => ?_, h.inj, h.apart, h.low⟩
  obtain ⟨⟨k1, es', c', k2, k3⟩, k4⟩ := h.sks i hi sb sm l hs
  exact ⟨SkMap.keep ⟨k1, es', c', k2, k3⟩ u (by simp; exact iter_block hit k1) (by simp; exact iter_map hit k2), k4⟩
theorem EW2.iter {base : Nat} {w : World} {b : Nat} {t : Wt} {frm : Int} {m N : Nat} {B : Nat → Nat} {L1 L2 : Nat} {av cv uv : Value} {zs ys : List Int} {ps : List (Int × Int)} {S : Nat → Es} {ov : Value} {out : List Int} {W W' : World}
    (h : EW2 base w b t frm m N B L1 L2 av cv uv zs ys ps S ov out W) {I bm clock : Nat} {seen : Array Nat} (hit : IterAt W I bm clock seen) (u : Upd [I] W W') (hI : w.heap.size ≤ I) : EW2 base w b t frm m N B L1 L2 av cv uv zs ys ps S ov out W' := by
  refine ⟨⟨h.e.g.iter hit u, h.e.st.own u h.e.ll.2.2 (by simpa using hI), u.owns h.e.a (fun k hk => ?_), u.owns h.e.c (fun k hk => ?_), u.owns h.e.p (fun k hk => ?_), h.e.al, h.e.cl, h.e.ll.1, Nat.le_trans h.e.ll.2.1 u.size, h.e.ll.2.2⟩, u.owns h.o (fun k hk => ?_), h.ul, h.ll.1, Nat.le_trans h.ll.2 u.size⟩
  · simpa using iter_own hit h.e.a k (by simpa using hk)
  · simpa using iter_own hit h.e.c k (by simpa using hk)
  · simpa using iter_own hit h.e.p k (by simpa using hk)
  · simpa using iter_own hit h.o k (by simpa using hk)
/-- A row of integers of the call's own is read. -/
theorem own_at {lo : Nat} {W : World} {ao : Option Addr} {n cap q : Nat} {zs : List Int} {z : Int} (h : OwnInts lo W (.slice ao n cap) zs) (hq : zs[q]? = some z) : ∃ g, ao = some ⟨g, 0, none⟩ ∧ W.cell? ⟨g, q, none⟩ = some (.int .i64 z) := by
  rcases h.read with ⟨h1, -⟩ | ⟨g, cp, hv, -, -, -, -, hc⟩
  · rw [h1] at hq; simp at hq
  · refine ⟨g, ?_, hc q z hq⟩
    cases hv; rfl
end Go.Proofs.Ytfmgcnmikopgeaa
