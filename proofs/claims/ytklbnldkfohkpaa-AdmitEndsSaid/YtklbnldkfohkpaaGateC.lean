/- Layer 23: the walks of next, Done, Gone. -/
import Derived.Test.YtklbnldkfohkpaaGateB
namespace Go.Proofs.Ytklbnldkfohkpaa
open Go.RowKit
/-- 'append(row, x)' of one element that has just been built: and where the row lies then. -/
theorem wpList_append_put {P : Program} {ops : Array Oper} {rest : List Oper} {o : Oper} {a : Act} {Q : Exit → Act → World → Prop} (wr : World) (hgd : o.guard = none) (s x : Operand) (t : TypeId)
    (ho : o.op = .call { callee := .builtin .append, args := #[s, x], argTypes := #[t, t] })
    (base : Nat) (e : TypeId) (size bytes : Nat) {z : Value} (hinfo : (P.info? e).map (fun i => (i.zero, i.size, i.bytes)) = some (some z, size, bytes)) (ht : P.underlying t = some (.slice e)) (hzs : z.cells.size = size) (hsz : 0 < size)
    (v : Value) (n : Nat) (xs : List Value) (hs : a.eval s = v) (hown : wr.ownsRow base e size v n xs)
    (news : List Value) (hx : a.eval x = .slice (some ⟨wr.heap.size, 0, none⟩) 1 1) (hl : news.length = size) (h1 : news.all Value.oneCell' = true)
    (hn : n + 1 ≤ maxLen) (hbytes : (n + 1) * bytes ≤ 140737488355328) (hbase : base ≤ wr.heap.size)
    (h : ∀ g cap w', w'.ownsRow base e size (.slice (some ⟨g, 0, none⟩) (n + 1) cap) (n + 1) (xs ++ news) → Upd v.ownBlock.toList wr w' → (v.ownBlock = some g ∨ wr.heap.size ≤ g) → wpList P ops Q rest (a.put o.dst (.slice (some ⟨g, 0, none⟩) (n + 1) cap)) w') : wpList P ops Q (o :: rest) a (wr.alloc (.cells news.toArray e)) := by
  obtain ⟨i, hi, hz, hz1, hz2⟩ := info_parts hinfo
  refine wpList_step (fun K hK => ?_)
  refine step_append_own hgd s x t ho base e i z size bytes ht hi hz hz1 hz2 hzs hsz v n xs hs (hown.alloc _) ⟨wr.heap.size, 0, none⟩ 1 1 news hx (by omega) (by omega) (cells_new wr e news) (fun u hu => List.all_eq_true.1 h1 u hu) hn hbytes (by simp; omega) ?_
  intro g cap w' hown' hu hg
  refine hK _ _ (h g cap w' hown' ((Upd.alloc _ wr _).trans hu) (hg.imp id (fun hh => ?_)))
  have : (wr.alloc (.cells news.toArray e)).heap.size = wr.heap.size + 1 := by simp
  omega
/-- Those that go on. -/
inductive NextRun : Gt → List Int → Gt → Prop
  | full (g : Gt) : g.lim.lim ≤ g.U.length → NextRun g [] g
  | none (g : Gt) (r' : Nat → Row) (x : It) : (g.U.length : Int) < g.lim.lim → TakeIs g.r r' x false → NextRun g [] ⟨g.most, g.n, r', g.lim, g.U⟩
  | go (g g' : Gt) (r' : Nat → Row) (x : It) (ids : List Int) : (g.U.length : Int) < g.lim.lim → TakeIs g.r r' x true → NextRun ⟨g.most, g.n - 1, r', g.lim, putU g.U x.id⟩ ids g' → NextRun g (x.id :: ids) g'
theorem takeIs_rows {r r' : Nat → Row} {x : It} {is : Bool} (h : TakeIs r r' x is) (q : Nat) : (r' q).items.length ≤ (r q).items.length := by
  cases h with
  | none h0 => exact Nat.le_refl _
  | some p i f x h1 h2 h3 h4 h5 h6 =>
    by_cases e : q = p
    · subst e; rw [upd_same]; dsimp only; rw [List.length_eraseIdx]; split <;> omega
    · rw [upd_other _ _ e]; exact Nat.le_refl _
theorem QS.out {base : Nat} {W W' : World} {b : Nat} {most n : Int} {r : Nat → Row} {S T : List Nat} (h : QS base W b most n r (T ++ S)) (u : Upd T W W') {g : Nat} (hg : g ∈ T ∨ W.heap.size ≤ g) (hg' : g < W'.heap.size) : QS base W' b most n r (g :: S) := by
  have h' := h.write u (by simp +contextual)
  obtain ⟨v, h0, hb, hS⟩ := h
  refine ⟨v, h0.away u (fun hh => (hS b (by simp [hh])).2 (.inl rfl)) (fun q k hq hk hh => (hS k (by simp [hh])).2 (.inr ⟨q, hq, hk⟩)), Nat.le_trans hb u.size, fun k hk => ?_⟩
  rcases List.mem_cons.1 hk with rfl | hk
  · refine ⟨hg', ?_⟩
    rcases hg with hg | hg
    · exact (hS k (by simp [hg])).2
    · rintro (rfl | ⟨q, hq, hk⟩)
      · have := h0.blk.lt; omega
      · have := ((h0.own q hq).lt _ hk).2; omega
  · exact ⟨Nat.lt_of_lt_of_le (hS k (by simp [hk])).1 u.size, (hS k (by simp [hk])).2⟩
theorem GateIs.out {base : Nat} {W W' : World} {gb qb lb um : Nat} {g : Gt} {S T : List Nat} (h : GateIs base W gb qb lb um g (T ++ S)) (u : Upd T W W') {z : Nat} (hz : z ∈ T ∨ W.heap.size ≤ z) (hz' : z < W'.heap.size) : GateIs base W' gb qb lb um g (z :: S) := by
  have h1 := h.blk.lt
  have h2 := h.lim.lt
  have h3 := h.set.lt
  have hw := h.write u (by simp +contextual)
  have hq : QS base W qb g.most g.n g.r (T ++ (gb :: lb :: um :: S)) := h.q.sub (by
    intro k hk; simp at hk ⊢
    rcases hk with hk | hk | hk | hk | hk
    · simp [hk]
    · simp [hk]
    · simp [hk]
    · simp [hk]
    · simp [hk])
  have nz : ∀ k, (k = gb ∨ k = lb ∨ k = um) → k ≠ z := fun k hk e => by
    subst e
    rcases hz with hz | hz
    · rcases hk with rfl | rfl | rfl
      · exact h.ap.1 (by simp [hz])
      · exact h.ap.2.1 (by simp [hz])
      · exact h.ap.2.2 (by simp [hz])
    · rcases hk with rfl | rfl | rfl <;> omega
  refine ⟨hw.blk, (hq.out u hz hz').sub (by simp +contextual), hw.lim, hw.set, h.gl, h.gm, h.lm, h.low, ?_, ?_, ?_⟩
  · simp; exact ⟨nz gb (.inl rfl), fun hh => h.ap.1 (by simp [hh])⟩
  · simp; exact ⟨nz lb (.inr (.inl rfl)), fun hh => h.ap.2.1 (by simp [hh])⟩
  · simp; exact ⟨nz um (.inr (.inr rfl)), fun hh => h.ap.2.2 (by simp [hh])⟩
def lenOf : Value → Nat | .slice _ n _ => n | _ => 0
theorem own_len {base : Nat} {w : World} {v : Value} {zs : List Int} (h : OwnInts base w v zs) : ∃ ao cap, v = .slice ao zs.length cap := by
  rcases h.read with ⟨rfl, rfl⟩ | ⟨g, cap, hv, -⟩
  · exact ⟨none, 0, rfl⟩
  · exact ⟨_, cap, hv⟩
theorem putU_len (U : List Int) (k : Int) : (putU U k).length ≤ U.length + 1 := by
  unfold putU; split <;> simp
theorem Gt.Ok.take {g : Gt} (h : g.Ok) {r' : Nat → Row} {x : It} (ht : TakeIs g.r r' x true) (hu : (g.U.length : Int) < g.lim.lim) : Gt.Ok ⟨g.most, g.n - 1, r', g.lim, putU g.U x.id⟩ := by
  have hl := h.lim
  refine ⟨by simpa using h.rows.take ht, by have := h.n1; dsimp only; omega, h.m0, h.m1, h.lim, ?_⟩
  have := putU_len g.U x.id; have := hl.l2; have := hl.l3; dsimp only; omega
def GNextPost (base gb : Nat) (g : Gt) (S : List Nat) (w : World) (e : Ending) (w' : World) : Prop :=
  ∃ ids v g', NextRun g ids g' ∧ e = .returned v ∧ OwnInts w.heap.size w' v ids ∧ GateAt base w' gb g' (v.ownBlock.toList ++ S) ∧ QStep base S w w'
end Go.Proofs.Ytklbnldkfohkpaa
