/- Layer 23: calls at a gate with the places beside it; what the acts keep. -/
import Derived.Test.YtklbnldkfohkpaaGateO
namespace Go.Proofs.Ytklbnldkfohkpaa
open Go.RowKit
section
variable {base : Nat} {W W' : World} {gb : Nat} {g : Gt} {pb : Nat} {us ws os : List Int} {S : List Nat}
theorem Placed.base_le (h : Placed base W gb g pb us ws os S) : base ≤ W.heap.size := by
  obtain ⟨vu, vw, vo, h1, h2, h3⟩ := h
  exact h3.base_le
theorem Placed.lt (h : Placed base W gb g pb us ws os S) : ∀ k ∈ S, k < W.heap.size := by
  obtain ⟨vu, vw, vo, h1, h2, h3⟩ := h
  exact fun k hk => h3.lt k (by simp [hk])
theorem Placed.sub {T : List Nat} (h : Placed base W gb g pb us ws os S) (hs : ∀ k ∈ T, k ∈ S) : Placed base W gb g pb us ws os T := by
  obtain ⟨vu, vw, vo, h1, h2, h3⟩ := h
  exact ⟨vu, vw, vo, h1, fun k hk => h2 k (hs k hk), h3.sub (fun k hk => by
    rcases List.mem_append.1 hk with hk | hk
    · exact List.mem_append_left _ hk
    · exact List.mem_append_right _ (hs k hk))⟩
theorem Placed.next (h : Placed base W gb g pb us ws os S) (u : Upd [] W W') : Placed base W' gb g pb us ws os S := by
  obtain ⟨vu, vw, vo, h1, h2, h3⟩ := h
  exact ⟨vu, vw, vo, h1.away u (by simp), h2, h3.next u⟩
theorem Placed.new (h : Placed base W gb g pb us ws os S) (u : Upd [] W W') {z : Nat} (hz : W.heap.size ≤ z) (hz' : z < W'.heap.size) : Placed base W' gb g pb us ws os (z :: S) := by
  obtain ⟨vu, vw, vo, h1, h2, h3⟩ := h
  refine ⟨vu, vw, vo, h1.away u (by simp), fun k hk hm => ?_, (h3.new u hz hz').sub (fun k hk => ?_)⟩
  · simp only [List.mem_cons] at hk
    rcases hk with rfl | hk
    · have := (h1.lt k hm).2; omega
    · exact h2 k hk hm
  · simp only [List.mem_append, List.mem_cons] at hk ⊢
    rcases hk with h | rfl | h
    · exact .inr (.inl h)
    · exact .inl rfl
    · exact .inr (.inr h)
theorem Placed.alloc (h : Placed base W gb g pb us ws os S) (o : Obj) : Placed base (W.alloc o) gb g pb us ws os (W.heap.size :: S) := h.new (Upd.alloc [] W o) (Nat.le_refl _) (by simp)
theorem Placed.step0 (h : Placed base W gb g pb us ws os S) (u : Upd [] W W') : QStep base S W W' := QStep.upd u h.base_le (by simp) h.lt
/-- A block beside both is written. -/
theorem Placed.write {T : List Nat} (h : Placed base W gb g pb us ws os S) (u : Upd T W W') (hT : ∀ k ∈ T, k ∈ S) : Placed base W' gb g pb us ws os S := by
  obtain ⟨vu, vw, vo, h1, h2, qb, lb, um, h3⟩ := h
  exact ⟨vu, vw, vo, h1.away u (fun k hk hh => h2 k (hT k hh) hk), h2, qb, lb, um, h3.write u (fun k hk => List.mem_append_right _ (hT k hk))⟩
/-- What the block of the places holds, and a store into it. -/
theorem Placed.open (h : Placed base W gb g pb us ws os S) : ∃ v0 v1 v2, PV base W pb (three v0 v1 v2) (three us ws os) ∧ pb ∉ S ∧ (∀ k j, k ∈ S → j < 3 → (three v0 v1 v2 j).ownBlock ≠ some k) ∧
    ∀ (j : Nat) (x : Value) (l' : List Int) (W1 : World), j < 3 → Upd (three v0 v1 v2 j).ownBlock.toList W W1 → OffInts base W1 x l' → (∀ k, x.ownBlock = some k → (three v0 v1 v2 j).ownBlock = some k ∨ W.heap.size ≤ k) →
      Placed base (W1.setCell ⟨pb, j, none⟩ x) gb g pb (upd (three us ws os) j l' 0) (upd (three us ws os) j l' 1) (upd (three us ws os) j l' 2) S ∧ QStep base S W (W1.setCell ⟨pb, j, none⟩ x) := by
  have hS : pb ∉ S ∧ True := by
    obtain ⟨vu, vw, vo, h1, h2, h3⟩ := h
    exact ⟨fun hh => h2 pb hh (mem_plBlocks.2 (.inl rfl)), trivial⟩
  have hb := h.base_le
  obtain ⟨T, ⟨v0, v1, v2, hp, -, hs⟩, hk⟩ := h.places
  refine ⟨v0, v1, v2, hp, hS.1, fun k j hk hj hv => (hs k (List.mem_append_right _ hk)).2 (mem_plBlocks.2 (.inr ⟨j, hj, hv⟩)), fun j x l' W1 hj u ho hx => ?_⟩
  have hst := hp.store hb hs hj u ho hx
  have hp2 := hst.1.congr (to_three _) (to_three _)
  exact ⟨hk _ _ _ _ ⟨_, _, _, hp2, Nat.le_trans hb hst.2.2.size, fun k hk => ⟨(hst.2.1 k hk).1, by rw [plBlocks_congr (to_three _)]; exact (hst.2.1 k hk).2⟩⟩ hst.2.2, hst.2.2.sub (fun k hk => List.mem_append_right _ hk)⟩
end
def PEnterPost (base gb : Nat) (g : Gt) (p : Nat) (x : It) (pb : Nat) (us ws os : List Int) (S : List Nat) (w : World) (e : Ending) (w' : World) : Prop :=
  ∃ what sh is g', EnterIs g p x what sh is g' ∧ e = .returned (.tuple #[.int .i64 what, sh.val, .bool is]) ∧ Placed base w' gb g' pb us ws os S ∧ QStep base S w w'
theorem enter_p (base gb : Nat) (g : Gt) (pb : Nat) (us ws os : List Int) (S : List Nat) (p : Nat) (x : It) (w : World) (h : Placed base w gb g pb us ws os S) (ho : g.Ok) (hp : p < 4) (hx : x.prio = (p : Int)) :
    Calls Try.prog 11 #[.pointer (some ⟨gb, 0, none⟩), x.val] w (PEnterPost base gb g p x pb us ws os S w) := by
  obtain ⟨T, hg, hk⟩ := h.gate
  refine (enter_any base gb g (T ++ S) p x w hg ho hp hx).mono ?_
  rintro e w' ⟨what, sh, is, g', he, rfl, hg', hst⟩
  exact ⟨what, sh, is, g', he, rfl, hk g' w' [] (by simpa using hg') hst (by simp), hst.sub (fun k hk => List.mem_append_right _ hk)⟩
def POnPost (R : List Int → Gt → Prop) (base gb pb : Nat) (us ws os : List Int) (S : List Nat) (w : World) (e : Ending) (w' : World) : Prop :=
  ∃ ids v g', R ids g' ∧ e = .returned v ∧ OwnInts w.heap.size w' v ids ∧ Placed base w' gb g' pb us ws os (v.ownBlock.toList ++ S) ∧ QStep base S w w'
theorem done_p (base gb : Nat) (g : Gt) (pb : Nat) (us ws os : List Int) (S : List Nat) (now id took : Int) (well : Bool) (w : World) (h : Placed base w gb g pb us ws os S) (ho : g.Ok) (h0 : 0 ≤ now) (h1 : now ≤ 1000000) (h2 : 1 ≤ took) (h3 : took ≤ 1000) :
    Calls Try.prog 14 #[.pointer (some ⟨gb, 0, none⟩), .int .i64 now, .int .i64 id, .int .i64 took, .bool well] w (POnPost (DoneIs g now id took well) base gb pb us ws os S w) := by
  obtain ⟨T, hg, hk⟩ := h.gate
  refine (gdone_any base gb g now id took well (T ++ S) w hg ho h0 h1 h2 h3).mono ?_
  rintro e w' ⟨ids, v, g', hd, rfl, hown, hg', hst⟩
  exact ⟨ids, v, g', hd, rfl, hown, hk g' w' _ hg' hst (fun k hk => (hown.lt k (by simpa using hk)).1), hst.sub (fun k hk => List.mem_append_right _ hk)⟩
theorem gone_p (base gb : Nat) (g : Gt) (pb : Nat) (us ws os : List Int) (S : List Nat) (id : Int) (w : World) (h : Placed base w gb g pb us ws os S) (ho : g.Ok) :
    Calls Try.prog 25 #[.pointer (some ⟨gb, 0, none⟩), .int .i64 id] w (POnPost (GoneIs g id) base gb pb us ws os S w) := by
  obtain ⟨T, hg, hk⟩ := h.gate
  refine (ggone_any base gb g id (T ++ S) w hg ho).mono ?_
  rintro e w' ⟨ids, v, g', hd, rfl, hown, hg', hst⟩
  exact ⟨ids, v, g', hd, rfl, hown, hk g' w' _ hg' hst (fun k hk => (hown.lt k (by simpa using hk)).1), hst.sub (fun k hk => List.mem_append_right _ hk)⟩
theorem on_p (base b0 gb : Nat) (g : Gt) (pb : Nat) (us ws os ids : List Int) (S : List Nat) (v : Value) (w : World) (h : Placed base w gb g pb us ws os (v.ownBlock.toList ++ S)) (hv : OwnInts b0 w v ids) (hok : OnOk ws ids) (hi : I64s ids) (hw : I64s ws) (hul : (us.length : Int) + ids.length ≤ 10000) (hwl : (ws.length : Int) ≤ 10000) :
    Calls Try.prog 24 #[.pointer (some ⟨pb, 0, none⟩), v] w fun e w' => e = .returned (.bool true) ∧ Placed base w' gb g pb (us ++ ids) (ids.foldl lessOf ws) os S ∧ QStep base S w w' := by
  obtain ⟨T, hp, hk⟩ := h.places
  refine (on_any base b0 pb us ws os ids (T ++ (v.ownBlock.toList ++ S)) v w hp hv (fun k hk => by simp [hk]) hok hi hw hul hwl).mono ?_
  rintro e w' ⟨rfl, hp', hst⟩
  exact ⟨rfl, (hk _ _ _ _ hp' hst).sub (fun k hk => by simp [hk]), hst.sub (fun k hk => by simp [hk])⟩
theorem under_p (base gb : Nat) (g : Gt) (pb : Nat) (us ws os : List Int) (S : List Nat) (w : World) (h : Placed base w gb g pb us ws os S) :
    Calls Try.prog 15 #[.pointer (some ⟨gb, 0, none⟩)] w fun e w' => e = .returned (.int .i64 g.U.length) ∧ w = w' := by
  obtain ⟨T, hg, hk⟩ := h.gate
  exact under_any base gb g _ w hg
theorem limit_p (base gb : Nat) (g : Gt) (pb : Nat) (us ws os : List Int) (S : List Nat) (w : World) (h : Placed base w gb g pb us ws os S) :
    Calls Try.prog 22 #[.pointer (some ⟨gb, 0, none⟩)] w fun e w' => e = .returned (.int .i64 g.lim.lim) ∧ w = w' := by
  obtain ⟨T, hg, hk⟩ := h.gate
  exact limit_any base gb g _ w hg
theorem waiting_p (base gb : Nat) (g : Gt) (pb : Nat) (us ws os : List Int) (S : List Nat) (w : World) (h : Placed base w gb g pb us ws os S) :
    Calls Try.prog 19 #[.pointer (some ⟨gb, 0, none⟩)] w fun e w' => e = .returned (.int .i64 g.n) ∧ w = w' := by
  obtain ⟨T, hg, hk⟩ := h.gate
  exact waiting_any base gb g _ w hg
/-! What is kept. -/
theorem NextRun.keeps {g g' : Gt} {ids : List Int} (h : NextRun g ids g') : g'.most = g.most ∧ g'.lim = g.lim := by
  induction h with
  | full => exact ⟨rfl, rfl⟩
  | none => exact ⟨rfl, rfl⟩
  | go => assumption
theorem EnterIs.keeps {g g' : Gt} {p : Nat} {x y : It} {what : Int} {is : Bool} (h : EnterIs g p x what y is g') : g'.most = g.most ∧ g'.lim = g.lim := by
  cases h <;> exact ⟨rfl, rfl⟩
theorem DoneIs.keeps {g g' : Gt} {now id took : Int} {well : Bool} {ids : List Int} (h : DoneIs g now id took well ids g') : g'.most = g.most ∧ g'.lim = if id ∈ g.U then g.lim.done now g.U.length took well else g.lim := by
  cases h with
  | no h => exact ⟨rfl, by rw [if_neg h]⟩
  | yes _ _ h hr => exact ⟨hr.keeps.1, by rw [if_pos h]; exact hr.keeps.2⟩
theorem GoneIs.keeps {g g' : Gt} {id : Int} {ids : List Int} (h : GoneIs g id ids g') : g'.most = g.most ∧ g'.lim = g.lim := by
  cases h with
  | wait _ _ _ _ hr => exact hr.keeps
  | under _ _ _ _ hr => exact hr.keeps
theorem on_len {ids : List Int} : ∀ {ws : List Int}, OnOk ws ids → (∀ id, ws.count id ≤ 1) → (ids.foldl lessOf ws).length + ids.length = ws.length := by
  induction ids with
  | nil => exact fun _ _ => rfl
  | cons a ids ih =>
    intro ws h hc
    have h1 := ih h.2 (fun id => by rw [count_less]; have := hc id; split <;> omega)
    have h2 := length_less ws a
    have h3 : 1 ≤ ws.count a := List.count_pos_iff.2 h.1
    have h4 := hc a
    simp only [List.foldl_cons, List.length_cons]
    omega
theorem on_sub {ids : List Int} : ∀ {ws : List Int}, OnOk ws ids → ∀ z ∈ ids, z ∈ ws := by
  induction ids with
  | nil => exact fun _ z hz => by simp at hz
  | cons a ids ih =>
    intro ws h z hz
    rcases List.mem_cons.1 hz with rfl | hz
    · exact h.1
    · exact (List.mem_filter.1 (ih h.2 z hz)).1
/-- The state between two acts: i acts were done; E entered. -/
structure St (g : Gt) (i : Int) (us ws os : List Int) (E : Int) : Prop where
  pi : PI g i us ws os
  full : Full g
  len : (us.length : Int) + ws.length + os.length = E
  e : E ≤ i
theorem PI.ints {g : Gt} {i : Int} {us ws os : List Int} (h : PI g i us ws os) (hi : i ≤ 1000000) : I64s us ∧ I64s ws ∧ I64s os := by
  refine ⟨fun z hz => ?_, fun z hz => ?_, fun z hz => ?_⟩
  all_goals
    have h1 : 1 ≤ List.count z _ := List.count_pos_iff.2 hz
    have h2 := h.past z (by omega)
    omega
theorem St.mono {g : Gt} {i j : Int} {us ws os : List Int} {E : Int} (h : St g i us ws os E) (hij : i ≤ j) : St g j us ws os E :=
  ⟨⟨h.pi.ok, h.pi.u, h.pi.w, h.pi.one, fun id hne => by have := h.pi.past id hne; omega, h.pi.wn, h.pi.le, h.pi.hi⟩, h.full, h.len, by have := h.e; omega⟩
/-- One that is under way is done. -/
theorem St.done {g g' : Gt} {i now id took : Int} {well : Bool} {us ws os ids : List Int} {E : Int} (h : St g i us ws os E) (hd : DoneIs g now id took well ids g') (hm : id ∈ us) (h0 : 0 ≤ now) (h1 : now ≤ 1000000) (h2 : 1 ≤ took) (h3 : took ≤ 1000) :
    OnOk ws ids ∧ St g' i (lessOf us id ++ ids) (ids.foldl lessOf ws) (os ++ [id]) E := by
  obtain ⟨a1, a2, a3⟩ := h.pi.done hd hm h0 h1 h2 h3
  refine ⟨a1, a2, a3, ?_, h.e⟩
  have b1 := on_len a1 (fun id => by have := h.pi.one id; omega)
  have b2 := length_less us id
  have b3 : 1 ≤ us.count id := List.count_pos_iff.2 hm
  have b4 := h.pi.one id
  have b5 := h.len
  simp only [List.length_append, List.length_cons, List.length_nil]
  omega
theorem St.gone {g g' : Gt} {i id : Int} {us ws os ids : List Int} {E : Int} (h : St g i us ws os E) (hd : GoneIs g id ids g') :
    OnOk (lessOf ws id) ids ∧ St g' i (lessOf us id ++ ids) (ids.foldl lessOf (lessOf ws id)) (if id ∈ us ∨ id ∈ ws then os ++ [id] else os) E := by
  obtain ⟨a1, a2, a3⟩ := h.pi.gone hd
  refine ⟨a1, a2, a3, ?_, h.e⟩
  have b1 := on_len a1 (fun k => by rw [count_less]; have := h.pi.one k; split <;> omega)
  have b2 := length_less us id
  have b3 := length_less ws id
  have b4 := h.pi.one id
  have b5 := h.len
  have b6 : (if id ∈ us ∨ id ∈ ws then os ++ [id] else os).length = os.length + (us.count id + ws.count id) := by
    by_cases e : id ∈ us ∨ id ∈ ws
    · rw [if_pos e]
      have : 1 ≤ us.count id + ws.count id := by
        rcases e with e | e
        · have := List.count_pos_iff.2 e; omega
        · have := List.count_pos_iff.2 e; omega
      simp only [List.length_append, List.length_cons, List.length_nil]
      omega
    · rw [if_neg e]
      have h1 : us.count id = 0 := List.count_eq_zero.2 (fun hh => e (.inl hh))
      have h2 : ws.count id = 0 := List.count_eq_zero.2 (fun hh => e (.inr hh))
      omega
  rw [List.length_append]
  omega
theorem St.lens {g : Gt} {i : Int} {us ws os : List Int} {E : Int} (h : St g i us ws os E) : (us.length : Int) ≤ i ∧ (ws.length : Int) ≤ i ∧ (os.length : Int) ≤ i := by
  have := h.len
  have := h.e
  omega
end Go.Proofs.Ytklbnldkfohkpaa
