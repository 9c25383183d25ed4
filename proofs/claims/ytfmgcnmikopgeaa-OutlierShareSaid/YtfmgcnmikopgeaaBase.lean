/- General lemmas on worlds: a frame relation with a list of blocks that may be written, blocks of cells, maps with concrete entries. -/
import Derived.Test.YtfmgcnmikopgeaaRows
import Derived.WalkKit
import Derived.WalkLawsBesides
import Derived.WalkSpells
import Derived.WalkSmall
import Derived.Deep.QuietTactic
import Derived.BigQuiet
import Derived.Lib.Hide
import Derived.MapKept
import Derived.Laws.AppendOwnNone
namespace Go.Proofs.Ytfmgcnmikopgeaa
open Go.RowKit

/-- w' is w but for the blocks in S, new blocks and the count of draws. -/
structure Upd (S : List Nat) (w w' : World) : Prop where
  os : w'.os = w.os
  tape : w'.tape = w.tape
  output : w'.output = w.output
  size : w.heap.size ≤ w'.heap.size
  block : ∀ k, k < w.heap.size → k ∉ S → w'.heap[k]? = w.heap[k]?

theorem Upd.refl (S : List Nat) (w : World) : Upd S w w := ⟨rfl, rfl, rfl, Nat.le_refl _, fun _ _ _ => rfl⟩
theorem Upd.trans {S : List Nat} {a b c : World} (h : Upd S a b) (k : Upd S b c) : Upd S a c :=
  ⟨k.os.trans h.os, k.tape.trans h.tape, k.output.trans h.output, Nat.le_trans h.size k.size,
   fun i hi hs => (k.block i (Nat.lt_of_lt_of_le hi h.size) hs).trans (h.block i hi hs)⟩
theorem Upd.mono {S T : List Nat} {w w' : World} (h : Upd S w w') (hs : ∀ k ∈ S, k ∈ T) : Upd T w w' :=
  ⟨h.os, h.tape, h.output, h.size, fun k hk hn => h.block k hk (fun h' => hn (hs k h'))⟩
/-- A second step may also write blocks that are new since the first world. -/
theorem Upd.trans' {S T : List Nat} {a b c : World} (h : Upd S a b) (k : Upd T b c) (ht : ∀ i ∈ T, i ∈ S ∨ a.heap.size ≤ i) : Upd S a c :=
  ⟨k.os.trans h.os, k.tape.trans h.tape, k.output.trans h.output, Nat.le_trans h.size k.size,
   fun i hi hs => (k.block i (Nat.lt_of_lt_of_le hi h.size) (fun hT => (ht i hT).elim hs (fun h' => by omega))).trans (h.block i hi hs)⟩
theorem Upd.nil_trans {S : List Nat} {a b c : World} (h : Upd [] a b) (k : Upd S b c) : Upd S a c := (h.mono (by simp)).trans k
theorem Upd.trans_nil {S : List Nat} {a b c : World} (h : Upd S a b) (k : Upd [] b c) : Upd S a c := h.trans (k.mono (by simp))
theorem Upd.alloc (S : List Nat) (w : World) (o : Obj) : Upd S w (w.alloc o) :=
  ⟨rfl, rfl, rfl, by simp, fun k hk _ => Below.heap_alloc w o k hk⟩
theorem Upd.drewN (S : List Nat) (w : World) (n : Nat) : Upd S w (w.drewN n) := ⟨rfl, rfl, rfl, Nat.le_refl _, fun _ _ _ => rfl⟩
theorem Upd.drew (S : List Nat) (w : World) : Upd S w w.drew := ⟨rfl, rfl, rfl, Nat.le_refl _, fun _ _ _ => rfl⟩
theorem Upd.setCell (w : World) (a : Addr) (v : Value) : Upd [a.block] w (w.setCell a v) :=
  ⟨rfl, rfl, rfl, by simp [World.setCell], fun k _ hs => Below.heap_setCell _ _ _ _ (by simpa using hs)⟩
theorem Upd.setCell' {S : List Nat} (w : World) (a : Addr) (v : Value) (h : a.block ∈ S) : Upd S w (w.setCell a v) := (Upd.setCell w a v).mono (by intro k hk; simp at hk; rw [hk]; exact h)
theorem Upd.setObj (w : World) (r : Nat) (o : Obj) : Upd [r] w { w with heap := w.heap.setIfInBounds r o } :=
  ⟨rfl, rfl, rfl, by simp, fun k _ hs => by simp at hs; simp [Ne.symm hs]⟩
theorem Upd.grown {w w' : World} {row : Option Nat} (h : w.grownBy w' row) : Upd row.toList w w' :=
  ⟨h.os, h.tape, h.output, h.size, fun k hk hs => h.block k hk (fun e => hs (by simp [← e]))⟩
theorem Upd.below {S : List Nat} {B : Nat} {w w' : World} (h : Upd S w w') (hB : B ≤ w.heap.size) (hs : ∀ k ∈ S, B ≤ k) : Below B w w' :=
  ⟨h.os, h.tape, h.output, h.size, fun k hk => h.block k (by omega) (fun h' => by have := hs k h'; omega)⟩
theorem Upd.ofBelow {w w' : World} (h : Below w.heap.size w w') : Upd [] w w' := ⟨h.os, h.tape, h.output, h.size, fun k hk _ => h.block k hk⟩
/-- What a block held it holds. -/
theorem Upd.keep {S : List Nat} {w w' : World} (h : Upd S w w') {k : Nat} {o : Obj} (hk : w.heap[k]? = some o) (hs : k ∉ S) : w'.heap[k]? = some o :=
  (h.block k (Array.getElem?_eq_some_iff.1 hk).1 hs).trans hk
theorem Upd.cell {S : List Nat} {w w' : World} (h : Upd S w w') {a : Addr} {v : Value} (hk : w.cell? a = some v) (hs : a.block ∉ S) : w'.cell? a = some v :=
  (World.cell?_of_block (h.block a.block (World.block_lt_of_cell? w a hk) hs)).trans hk
theorem Upd.toGrown {S : List Nat} {w w' : World} (h : Upd S w w') {row : Option Nat} (hs : ∀ k ∈ S, k < w.heap.size → row = some k) : w.grownBy w' row :=
  ⟨h.os, h.tape, h.output, h.size, fun k hk hne => h.block k hk (fun hS => hne (hs k hS hk).symm)⟩
theorem Upd.owns {S : List Nat} {w w' : World} (h : Upd S w w') {base : Nat} {e : TypeId} {size : Nat} {v : Value} {n : Nat} {xs : List Value} (ho : w.ownsRow base e size v n xs) (hs : ∀ k, v.ownBlock = some k → k ∉ S) : w'.ownsRow base e size v n xs := by
  refine ⟨ho.1, ?_⟩
  rcases ho.2 with hn | ⟨g, cap, cur, rfl, hb, hgg, rest⟩
  · exact .inl hn
  · exact .inr ⟨g, cap, cur, rfl, hb, h.keep hgg (hs g rfl), rest⟩

theorem lt_of_some {w : World} {k : Nat} {o : Obj} (h : w.heap[k]? = some o) : k < w.heap.size := (Array.getElem?_eq_some_iff.1 h).1

/-- Block b is the cells cs of type t, and may be written. -/
def BlockAt (w : World) (b : Nat) (t : TypeId) (cs : List Value) : Prop := w.heap[b]? = some (.cells cs.toArray t (0, 0))
theorem BlockAt.cell {w : World} {b : Nat} {t : TypeId} {cs : List Value} (h : BlockAt w b t cs) (i : Nat) (v : Value) (hv : cs[i]? = some v) : w.cell? ⟨b, i, none⟩ = some v := by
  unfold BlockAt at h; simp [World.cell?, h, hv]
theorem BlockAt.free {w : World} {b : Nat} {t : TypeId} {cs : List Value} (h : BlockAt w b t cs) (i : Nat) : w.frozen? ⟨b, i, none⟩ = false := by
  unfold BlockAt at h; simp [World.frozen?, h]
theorem BlockAt.lt {w : World} {b : Nat} {t : TypeId} {cs : List Value} (h : BlockAt w b t cs) : b < w.heap.size := lt_of_some h
theorem BlockAt.keep {S : List Nat} {w w' : World} {b : Nat} {t : TypeId} {cs : List Value} (h : BlockAt w b t cs) (u : Upd S w w') (hs : b ∉ S) : BlockAt w' b t cs := u.keep h hs
theorem BlockAt.alloc {w : World} {b : Nat} {t : TypeId} {cs : List Value} (h : BlockAt w b t cs) (o : Obj) : BlockAt (w.alloc o) b t cs := h.keep (Upd.alloc [] w o) (by simp)
theorem BlockAt.drewN {w : World} {b : Nat} {t : TypeId} {cs : List Value} (h : BlockAt w b t cs) (n : Nat) : BlockAt (w.drewN n) b t cs := h
theorem BlockAt.drew {w : World} {b : Nat} {t : TypeId} {cs : List Value} (h : BlockAt w b t cs) : BlockAt w.drew b t cs := h
theorem BlockAt.new (w : World) (t : TypeId) (cs : List Value) : BlockAt (w.alloc (.cells cs.toArray t)) w.heap.size t cs := heap_alloc_new w _
theorem BlockAt.set {w : World} {b : Nat} {t : TypeId} {cs : List Value} (h : BlockAt w b t cs) (i : Nat) (v : Value) : BlockAt (w.setCell ⟨b, i, none⟩ v) b t (cs.set i v) := by
  unfold BlockAt at *
  have hlt := lt_of_some h
  have h' : w.heap[b] = .cells cs.toArray t (0, 0) := by simpa [Array.getElem?_eq_getElem hlt] using h
  show (w.heap.modify b _)[b]? = _
  rw [Array.getElem?_eq_getElem (by simpa using hlt), Array.getElem_modify_self, h']
  simp
theorem BlockAt.setOther {w : World} {b : Nat} {t : TypeId} {cs : List Value} (h : BlockAt w b t cs) {a : Addr} (ha : a.block ≠ b) (v : Value) : BlockAt (w.setCell a v) b t cs :=
  h.keep (Upd.setCell w a v) (by simp; exact fun e => ha e.symm)

/-! Maps with concrete entries. -/
def MapAt (w : World) (r : Nat) (es : List MapEntry) (clock : Nat) : Prop := w.heap[r]? = some (.map es.toArray clock)
theorem MapAt.lt {w : World} {r : Nat} {es : List MapEntry} {c : Nat} (h : MapAt w r es c) : r < w.heap.size := lt_of_some h
theorem MapAt.keep {S : List Nat} {w w' : World} {r : Nat} {es : List MapEntry} {c : Nat} (h : MapAt w r es c) (u : Upd S w w') (hs : r ∉ S) : MapAt w' r es c := u.keep h hs
theorem MapAt.new (w : World) : MapAt (w.alloc (.map #[] 0)) w.heap.size [] 0 := heap_alloc_new w _
/-- The world with another object in a block. -/
def setObjW (w : World) (r : Nat) (o : Obj) : World := { w with heap := w.heap.setIfInBounds r o }
theorem setObjW_upd (w : World) (r : Nat) (o : Obj) : Upd [r] w (setObjW w r o) := Upd.setObj w r o
theorem setObjW_at {w : World} {r : Nat} (o : Obj) (h : r < w.heap.size) : (setObjW w r o).heap[r]? = some o := by simp [setObjW, h]
theorem setObjW_alloc (w : World) (o o' : Obj) : setObjW (w.alloc o) w.heap.size o' = w.alloc o' := by
  have h1 : (w.alloc o).heap = w.heap.push o := rfl
  have h2 : (w.alloc o').heap = w.heap.push o' := rfl
  have : (w.heap.push o).setIfInBounds w.heap.size o' = w.heap.push o' := by
    apply Array.ext_getElem?
    intro i
    by_cases hi : i = w.heap.size
    · subst hi; simp
    · simp [Ne.symm hi, Array.getElem?_push, hi]
  unfold setObjW
  rw [h1, this]
  rfl

section
variable {P : Program} {w : World} {t K E : TypeId} {d : TypeDesc} {r : Nat} {es : List MapEntry} {c : Nat} {k : Value}
theorem run_update_new (hT : P.underlying t = some (.map K E)) (hK : P.underlying K = some d) (hk : MapKept.IsKey d k) (hm : MapAt w r es c) (hf : Instr.findNow d k es 0 = some none) (v : Value) :
    (Instr.mapUpdate t (.map (some r)) k v).run P w = .ok () (setObjW w r (.map (es ++ [(⟨k, v, c⟩ : MapEntry)]).toArray (c + 1))) := by
  simp [Instr.mapUpdate, run_underlying hT, MapKept.run_getObj_map hm, MapKept.run_checkKey hK hk, MapKept.run_findKey hK hf, MapKept.run_setObj_map _ hm, Result.andThen, setObjW]
theorem run_update_hit (hT : P.underlying t = some (.map K E)) (hK : P.underlying K = some d) (hk : MapKept.IsKey d k) (hm : MapAt w r es c) {i : Nat} {u : Value} {e : MapEntry} (hf : Instr.findNow d k es 0 = some (some (i, u))) (he : es[i]? = some e) (hek : e.key = k) (v : Value) :
    (Instr.mapUpdate t (.map (some r)) k v).run P w = .ok () (setObjW w r (.map (es.set i (⟨k, v, e.born⟩ : MapEntry)).toArray c)) := by
  have hm2 : es.modify i (fun e => { key := k, val := v, born := e.born }) = es.set i ⟨k, v, e.born⟩ := by
    apply List.ext_getElem?
    intro j
    by_cases hij : i = j
    · subst hij
      obtain ⟨hlt, he'⟩ := List.getElem?_eq_some_iff.1 he
      simp [hlt, he']
    · simp [hij]
  simp [Instr.mapUpdate, run_underlying hT, MapKept.run_getObj_map hm, MapKept.run_checkKey hK hk, MapKept.run_findKey hK hf, he, hek, MapKept.run_keyThatStays hk, MapKept.run_setObj_map _ hm, Result.andThen, setObjW, hm2]
theorem run_lookup_hit (hT : P.underlying t = some (.map K E)) (hK : P.underlying K = some d) (hk : MapKept.IsKey d k) (hm : MapAt w r es c) {i : Nat} {u : Value} (hf : Instr.findNow d k es 0 = some (some (i, u))) (ok : Bool) :
    (Instr.lookup t (.map (some r)) k ok).run P w = .ok (if ok then .tuple #[u, .bool true] else u) w := by
  simp [Instr.lookup, run_underlying hT, MapKept.run_getObj_map hm, MapKept.run_checkKey hK hk, MapKept.run_findKey hK hf, Result.andThen]
theorem run_lookup_miss (hT : P.underlying t = some (.map K E)) (hK : P.underlying K = some d) (hk : MapKept.IsKey d k) (hm : MapAt w r es c) (hf : Instr.findNow d k es 0 = some none) {z : Value} (hz : (zeroValue E).run P w = .ok z w) (ok : Bool) :
    (Instr.lookup t (.map (some r)) k ok).run P w = .ok (if ok then .tuple #[z, .bool false] else z) w := by
  simp [Instr.lookup, run_underlying hT, MapKept.run_getObj_map hm, MapKept.run_checkKey hK hk, MapKept.run_findKey hK hf, hz, Result.andThen]
end
theorem cells_new (w : World) (t : TypeId) (cs : List Value) : ∀ j u, cs[j]? = some u → (w.alloc (.cells cs.toArray t)).cell? ((⟨w.heap.size, 0, none⟩ : Addr).add j) = some u := by
  intro j u hu
  rw [Addr.add_lit]
  simpa using BlockAt.cell (BlockAt.new w t cs) j u hu
/-- 'append(out, x)' of one element that has just been built, onto a row of the call's own. -/
theorem wpList_append_one {P : Program} {ops : Array Oper} {rest : List Oper} {o : Oper} {a : Act} {Q : Exit → Act → World → Prop} (wr : World) (hgd : o.guard = none) (s x : Operand) (t : TypeId)
    (ho : o.op = .call { callee := .builtin .append, args := #[s, x], argTypes := #[t, t] })
    (base : Nat) (e : TypeId) (size bytes : Nat) {z : Value} (hinfo : (P.info? e).map (fun i => (i.zero, i.size, i.bytes)) = some (some z, size, bytes)) (ht : P.underlying t = some (.slice e)) (hzs : z.cells.size = size) (hsz : 0 < size)
    (v : Value) (n : Nat) (xs : List Value) (hs : a.eval s = v) (hown : wr.ownsRow base e size v n xs)
    (news : List Value) (hx : a.eval x = .slice (some ⟨wr.heap.size, 0, none⟩) 1 1) (hl : news.length = size) (h1 : news.all Value.oneCell' = true)
    (hn : n + 1 ≤ maxLen) (hbytes : (n + 1) * bytes ≤ 140737488355328) (hbase : base ≤ wr.heap.size)
    (h : ∀ v' w', w'.ownsRow base e size v' (n + 1) (xs ++ news) → Upd v.ownBlock.toList wr w' → wpList P ops Q rest (a.put o.dst v') w') : wpList P ops Q (o :: rest) a (wr.alloc (.cells news.toArray e)) := by
  obtain ⟨i, hi, hz, hz1, hz2⟩ := info_parts hinfo
  refine wpList_append_own (wr.alloc (.cells news.toArray e)) hgd s x t ho base e i z size bytes ht hi hz hz1 hz2 hzs hsz v n xs hs (hown.alloc _) ⟨wr.heap.size, 0, none⟩ 1 1 news hx (by omega) (cells_new wr e news) (fun u hu => List.all_eq_true.1 h1 u hu) hn hbytes (by simp; omega) ?_
  intro v' w' hown' hg _
  exact h v' w' hown' ((Upd.alloc _ wr _).trans (Upd.grown hg))
/-- A row of the call's own was written: below it nothing has turned. -/
theorem below_own {B : Nat} {w wr w1 : World} {e : TypeId} {size : Nat} {v : Value} {n : Nat} {xs : List Value} (hb : Below B w wr) (hown : wr.ownsRow B e size v n xs) (hB : B ≤ wr.heap.size) (hup : Upd v.ownBlock.toList wr w1) : Below B w w1 :=
  hb.trans (hup.below hB (fun k hk => (hown.lt k (by simpa using hk)).1))
/-- A callee that leaves the world alone, in a region that draws its order. -/
theorem quietSame {P : Program} {f : FuncId} {args : Array Value} {w : World} {n : Nat} {v : Value}
    (h : Calls P f args (w.drewN n) fun e w' => e = .returned v ∧ w.drewN n = w') : Calls P f args (w.drewN n) fun e w'' => e = .returned v ∧ ∃ m, w'' = w.drewN m :=
  h.mono fun _ _ ⟨he, hm⟩ => ⟨he, n, hm.symm⟩
theorem ret_int {k : IntKind} {a b : Int} (h : a = b) : Ending.returned (.int k a) = .returned (.int k b) := by rw [h]
theorem ret_bool {a b : Bool} (h : a = b) : Ending.returned (.bool a) = .returned (.bool b) := by rw [h]
theorem world_eta (w : World) : w.drewN 0 = w := rfl
/-- A slice of integers that is only read. -/
def IntsIn (w : World) (v : Value) (zs : List Int) : Prop :=
  ∃ a cap, v = .slice a zs.length cap ∧ zs.length ≤ 9223372036854775807 ∧ (∀ z ∈ zs, -9223372036854775808 ≤ z ∧ z ≤ 9223372036854775807) ∧
    (zs = [] ∨ ∃ b off, a = some ⟨b, off, none⟩ ∧ ∀ j, j < zs.length → w.cell? ⟨b, off + j, none⟩ = some (.int .i64 (zs.getD j 0)))
theorem IntsIn.keep {S : List Nat} {w w' : World} {v : Value} {zs : List Int} (h : IntsIn w v zs) (u : Upd S w w') (hs : ∀ k ∈ S, w.heap.size ≤ k) : IntsIn w' v zs := by
  obtain ⟨a, cap, rfl, hl, hr, h⟩ := h
  refine ⟨a, cap, rfl, hl, hr, ?_⟩
  rcases h with h | ⟨b, off, rfl, hc⟩
  · exact .inl h
  · refine .inr ⟨b, off, rfl, fun j hj => u.cell (hc j hj) (fun hm => ?_)⟩
    have := hs _ hm
    have := World.block_lt_of_cell? w _ (hc j hj)
    omega
theorem intsIn_nil (w : World) (a : Option Addr) (cap : Nat) : IntsIn w (.slice a 0 cap) [] := ⟨a, cap, rfl, by simp, by simp, .inl rfl⟩
theorem intsIn_row {w : World} {x : Addr} {len cap : Nat} {zs : List Int} (hl : len ≤ cap) (hm : cap ≤ maxLen) (hz : zs.length = cap)
    (hc : ∀ i, i < zs.length → w.cell? (x.add i) = some (.int .i64 (zs.getD i 0))) (hw : ∀ n ∈ zs, (Lit.int .i64 n).wf = true) : IntsIn w (.slice (some x) len cap) (zs.take len) := by
  have hlen : (zs.take len).length = len := by simp; omega
  refine ⟨some x, cap, by rw [hlen], by rw [hlen]; unfold maxLen at hm; omega, ?_, ?_⟩
  · intro z hzm
    have := hw z (List.mem_of_mem_take hzm)
    simp [Lit.wf, show IntKind.i64.min = -9223372036854775808 from by decide, show IntKind.i64.max = 9223372036854775807 from by decide] at this
    omega
  · by_cases h0 : len = 0
    · subst h0; exact .inl rfl
    · have c0 := hc 0 (by omega)
      obtain ⟨b, off, spot⟩ := x
      have hs : spot = none := by
        cases spot with
        | none => rfl
        | some s =>
          simp only [Addr.add, if_true, World.cell?] at c0
          split at c0 <;> simp at c0
      subst hs
      refine .inr ⟨b, off, rfl, fun j hj => ?_⟩
      have := hc j (by omega)
      rw [Addr.add_lit] at this
      rw [this]
      simp [List.getD, show j < len by omega]
theorem bd_i64 {n : Int} (h : (Lit.int .i64 n).wf = true) : -9223372036854775808 ≤ n ∧ n ≤ 9223372036854775807 := by
  simp [Lit.wf, show IntKind.i64.min = -9223372036854775808 from by decide, show IntKind.i64.max = 9223372036854775807 from by decide] at h
  omega
/-- A stretch of cells that is read: nothing, where there is no address. -/
def RowIn (w : World) (size : Nat) (ao : Option Addr) (n cap : Nat) (xs : List Value) : Prop :=
  xs.length = n * size ∧ (ao = none → n = 0 ∧ cap = 0) ∧ ∀ ad, ao = some ad → ∀ j u, xs[j]? = some u → w.cell? (ad.add j) = some u
theorem RowIn.empty (w : World) (size : Nat) (ao : Option Addr) (cap : Nat) (h : ao = none → cap = 0) : RowIn w size ao 0 cap [] := ⟨by simp, fun e => ⟨rfl, h e⟩, fun _ _ j u hu => by simp at hu⟩
/-- 'append(out, xs...)', xs a stretch that may be empty, onto a row of the call's own. -/
theorem wpList_append_view {P : Program} {ops : Array Oper} {rest : List Oper} {o : Oper} {a : Act} {Q : Exit → Act → World → Prop} (w : World) (hgd : o.guard = none) (s x : Operand) (t : TypeId)
    (ho : o.op = .call { callee := .builtin .append, args := #[s, x], argTypes := #[t, t] })
    (base : Nat) (e : TypeId) (size bytes : Nat) {z : Value} (hinfo : (P.info? e).map (fun i => (i.zero, i.size, i.bytes)) = some (some z, size, bytes)) (ht : P.underlying t = some (.slice e)) (hzs : z.cells.size = size) (hsz : 0 < size)
    (v : Value) (n : Nat) (xs : List Value) (hs : a.eval s = v) (hown : w.ownsRow base e size v n xs)
    (ao : Option Addr) (m c : Nat) (news : List Value) (hx : a.eval x = .slice ao m c) (hv : RowIn w size ao m c news) (h1 : ∀ u ∈ news, u.oneCell' = true)
    (hn : n + m ≤ maxLen) (hbytes : (n + m) * bytes ≤ 140737488355328) (hbase : base ≤ w.heap.size)
    (h : ∀ v' w', w'.ownsRow base e size v' (n + m) (xs ++ news) → Upd v.ownBlock.toList w w' → wpList P ops Q rest (a.put o.dst v') w') : wpList P ops Q (o :: rest) a w := by
  obtain ⟨i, hi, hz, hz1, hz2⟩ := info_parts hinfo
  obtain ⟨hl, hnone, hc⟩ := hv
  cases ao with
  | none =>
    obtain ⟨rfl, rfl⟩ := hnone rfl
    have hnews : news = [] := List.eq_nil_of_length_eq_zero (by simpa using hl)
    subst hnews
    exact wpList_append_own_none hgd s x t ho base e i size ht hi v n xs hs hown hx (h v w (by simpa using hown) (Upd.refl _ _))
  | some ad =>
    refine wpList_append_own w hgd s x t ho base e i z size bytes ht hi hz hz1 hz2 hzs hsz v n xs hs hown ad m c news hx hl (hc ad rfl) h1 hn hbytes hbase ?_
    intro v' w' hown' hg _
    exact h v' w' hown' (Upd.grown hg)
theorem int_cells (k : IntKind) (zs : List Int) : ∀ u ∈ zs.map (Value.int k), u.oneCell' = true := by
  intro u hu
  obtain ⟨_, _, rfl⟩ := List.mem_map.1 hu
  rfl
/-- What is read of a slice of integers. -/
theorem IntsIn.read {w : World} {v : Value} {zs : List Int} (h : IntsIn w v zs) : (zs = [] ∧ ∃ a cap, v = .slice a 0 cap) ∨
    ∃ b off cap, v = .slice (some ⟨b, off, none⟩) zs.length cap ∧ b < w.heap.size ∧ zs.length ≤ 9223372036854775807 ∧ (∀ z ∈ zs, -9223372036854775808 ≤ z ∧ z ≤ 9223372036854775807) ∧ ∀ j z, zs[j]? = some z → w.cell? ⟨b, off + j, none⟩ = some (.int .i64 z) := by
  obtain ⟨a, cap, rfl, hl, hr, h⟩ := h
  rcases h with rfl | ⟨b, off, rfl, hc⟩
  · exact .inl ⟨rfl, a, cap, rfl⟩
  · by_cases h0 : zs = []
    · subst h0; exact .inl ⟨rfl, _, cap, rfl⟩
    · have hlen : 0 < zs.length := List.length_pos_iff.2 h0
      refine .inr ⟨b, off, cap, rfl, World.block_lt_of_cell? w _ (hc 0 hlen), hl, hr, fun j z hz => ?_⟩
      rw [hc j (List.getElem?_eq_some_iff.1 hz).1, List.getD, hz]; rfl
/-- A row of integers of the call's own. -/
def OwnInts (base : Nat) (w : World) (v : Value) (zs : List Int) : Prop := w.ownsRow base 3 1 v zs.length (zs.map (Value.int .i64))
theorem OwnInts.read {base : Nat} {w : World} {v : Value} {zs : List Int} (h : OwnInts base w v zs) : (zs = [] ∧ v = .slice none 0 0) ∨
    ∃ g cap, v = .slice (some ⟨g, 0, none⟩) zs.length cap ∧ base ≤ g ∧ g < w.heap.size ∧ zs.length ≤ cap ∧ cap ≤ maxLen ∧ ∀ j z, zs[j]? = some z → w.cell? ⟨g, j, none⟩ = some (.int .i64 z) := by
  unfold OwnInts at h
  have hlt := h.lt
  have hc := fun g hg => h.cells (g := g) hg
  rcases h.2 with ⟨hv, hn⟩ | ⟨g, cap, cur, rfl, _, hgg, hlc, hcm, _⟩
  · exact .inl ⟨List.eq_nil_of_length_eq_zero hn, hv⟩
  · refine .inr ⟨g, cap, rfl, (hlt g rfl).1, (hlt g rfl).2, hlc, hcm, fun j z hz => ?_⟩
    have := hc g rfl j (.int .i64 z) (by simp [hz])
    simpa only [Addr.add_lit, Nat.zero_add] using this
theorem OwnInts.isIn {base : Nat} {w : World} {v : Value} {zs : List Int} (h : OwnInts base w v zs) (hr : ∀ z ∈ zs, -9223372036854775808 ≤ z ∧ z ≤ 9223372036854775807) : IntsIn w v zs := by
  rcases h.read with ⟨rfl, rfl⟩ | ⟨g, cap, rfl, _, _, hlc, hcm, hc⟩
  · exact intsIn_nil _ _ _
  · refine ⟨_, cap, rfl, by unfold maxLen at hcm; omega, hr, .inr ⟨g, 0, rfl, fun j hj => ?_⟩⟩
    rw [Nat.zero_add, hc j (zs.getD j 0) (by simp [List.getD, hj])]
theorem OwnInts.nil (base : Nat) (w : World) : OwnInts base w (.slice none 0 0) [] := World.ownsRow_nil _ _ _ _
theorem OwnInts.keep {base : Nat} {w w' : World} {S : List Nat} {v : Value} {zs : List Int} (h : OwnInts base w v zs) (u : Upd S w w') (hs : ∀ k, base ≤ k → k ∉ S) : OwnInts base w' v zs := u.owns h (fun k hk => hs k (h.lt k hk).1)
theorem OwnInts.of {base : Nat} {w : World} {v : Value} {zs : List Int} {n : Nat} {xs : List Value} (h : w.ownsRow base 3 1 v n xs) (hn : n = zs.length) (hx : xs = zs.map (Value.int .i64)) : OwnInts base w v zs := by subst hn hx; exact h
theorem Try.infoInt : (Try.prog.info? 3).map (fun i => (i.zero, i.size, i.bytes)) = some (some (.int .i64 0), 1, 8) := by kernel_rfl
end Go.Proofs.Ytfmgcnmikopgeaa
