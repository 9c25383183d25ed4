/- Layer 11: the plain law of the reference's rows of IDs: the least that is not told yet, one behind the other. -/
import Derived.Test.YthblblkifkndiaaZonePlain
namespace Go.Proofs.Ythblblkifkndiaa
def refFit (ws : List Int) (z : Int) (here all : Bool) (e : En) : Bool := (decide (e.zone = z) == here) && (all || decide (e.id ∈ ws))
/-- What is told so far: the least ones. -/
structure OutI (F out : List Int) : Prop where
  sub : ∀ x ∈ out, x ∈ F
  srt : out.Pairwise (· < ·)
  low : ∀ x ∈ out, ∀ y ∈ F, y ∉ out → x < y
theorem OutI.nil (F : List Int) : OutI F [] := ⟨by simp, List.Pairwise.nil, by simp⟩
theorem OutI.next {F out : List Int} {m : Int} (h : OutI F out) (hm : m ∈ F) (hn : m ∉ out) (hl : ∀ y ∈ F, y ∉ out → m ≤ y) : OutI F (out ++ [m]) := by
  refine ⟨fun x hx => ?_, List.pairwise_append.2 ⟨h.srt, List.pairwise_singleton _ _, fun a ha b hb => ?_⟩, fun x hx y hy hny => ?_⟩
  · rcases List.mem_append.1 hx with hx | hx
    · exact h.sub x hx
    · simp at hx; subst hx; exact hm
  · simp at hb; subst hb
    exact h.low a ha b hm hn
  · have hy1 : y ∉ out := fun hh => hny (List.mem_append_left _ hh)
    have hy2 : y ≠ m := fun hh => hny (by simp [hh])
    rcases List.mem_append.1 hx with hx | hx
    · exact h.low x hx y hy hy1
    · simp at hx; subst hx
      have := hl y hy hy1
      omega
theorem nodup_lt {l : List Int} (h : l.Pairwise (· < ·)) : l.Nodup := h.imp (fun hh => by omega)
theorem OutI.all {F out : List Int} (h : OutI F out) (hF : F.Nodup) (ha : ∀ y ∈ F, y ∈ out) : out.Perm F :=
  (List.perm_ext_iff_of_nodup (nodup_lt h.srt) hF).2 (fun a => ⟨h.sub a, ha a⟩)
theorem OutI.len {F out : List Int} (h : OutI F out) : out.length ≤ F.length := (nodup_lt h.srt).length_le_of_subset (fun x hx => h.sub x hx)
theorem OutI.full {F out : List Int} (h : OutI F out) (hl : F.length ≤ out.length) : ∀ y ∈ F, y ∈ out := by
  intro y hy
  by_cases hn : y ∈ out
  · exact hn
  · exfalso
    have hnd : (y :: out).Nodup := List.nodup_cons.2 ⟨hn, nodup_lt h.srt⟩
    have := hnd.length_le_of_subset (l₂ := F) (fun x hx => by
      rcases List.mem_cons.1 hx with rfl | hx
      · exact hy
      · exact h.sub x hx)
    simp at this
    omega
def idsF (l : List En) (f : En → Bool) : List Int := (l.filter f).map En.id
theorem idsF_nodup {l : List En} (f : En → Bool) (hd : (l.map En.id).Nodup) : (idsF l f).Nodup := hd.sublist ((List.filter_sublist).map _)
theorem OutI.isIds {l : List En} {f : En → Bool} {out : List Int} (h : OutI (idsF l f) out) (hd : (l.map En.id).Nodup) (ha : ∀ y ∈ idsF l f, y ∈ out) : IsIds l f out :=
  ⟨h.all (idsF_nodup f hd) ha, h.srt.imp (fun hh => by omega)⟩
/-- The least of those that fit and are not told, among the first ones; big, if there is none. -/
structure LeastI (l : List En) (f : En → Bool) (out : List Int) (i : Nat) (m : Int) : Prop where
  le : m ≤ 4611686018427387904
  of : m = 4611686018427387904 ∨ m ∈ idsF l f ∧ m ∉ out
  low : ∀ (j : Nat) (e : En), j < i → l[j]? = some e → f e = true → e.id ∉ out → m ≤ e.id
theorem LeastI.start (l : List En) (f : En → Bool) (out : List Int) : LeastI l f out 0 4611686018427387904 := ⟨by omega, .inl rfl, fun j e hj => by omega⟩
theorem LeastI.skip {l : List En} {f : En → Bool} {out : List Int} {i : Nat} {m : Int} {e : En} (h : LeastI l f out i m) (he : l[i]? = some e) (hs : ¬ (f e = true ∧ e.id ∉ out)) : LeastI l f out (i + 1) m :=
  ⟨h.le, h.of, fun j x hj hx hf hn => by
    rcases (show j < i ∨ j = i by omega) with hj | rfl
    · exact h.low j x hj hx hf hn
    · rw [he] at hx; cases hx; exact absurd ⟨hf, hn⟩ hs⟩
theorem LeastI.take {l : List En} {f : En → Bool} {out : List Int} {i : Nat} {m : Int} {e : En} (h : LeastI l f out i m) (he : l[i]? = some e) (hf : f e = true) (hn : e.id ∉ out) (hb : e.id ≤ 4611686018427387904) : LeastI l f out (i + 1) (min m e.id) := by
  have hle := h.le
  refine ⟨by omega, ?_, fun j x hj hx hfx hnx => ?_⟩
  · by_cases hm : m ≤ e.id
    · rw [Int.min_eq_left hm]; exact h.of
    · rw [Int.min_eq_right (by omega)]
      exact .inr ⟨List.mem_map_of_mem (List.mem_filter.2 ⟨List.mem_of_getElem? he, hf⟩), hn⟩
  · rcases (show j < i ∨ j = i by omega) with hj | rfl
    · have := h.low j x hj hx hfx hnx; omega
    · rw [he] at hx; cases hx; omega
theorem LeastI.none {l : List En} {f : En → Bool} {out : List Int} (h : LeastI l f out l.length 4611686018427387904) (hb : ∀ e ∈ l, e.id < 4611686018427387904) : ∀ y ∈ idsF l f, y ∈ out := by
  intro y hy
  obtain ⟨e, he, rfl⟩ := List.mem_map.1 hy
  rw [List.mem_filter] at he
  obtain ⟨j, hj⟩ := List.getElem?_of_mem he.1
  by_cases hn : e.id ∈ out
  · exact hn
  · have := h.low j e (List.getElem?_eq_some_iff.1 hj).1 hj he.2 hn
    have := hb e he.1
    omega
theorem LeastI.some {l : List En} {f : En → Bool} {out : List Int} {m : Int} (h : LeastI l f out l.length m) (hm : m ≠ 4611686018427387904) (ho : OutI (idsF l f) out) : OutI (idsF l f) (out ++ [m]) := by
  rcases h.of with h0 | ⟨h1, h2⟩
  · exact absurd h0 hm
  · refine ho.next h1 h2 (fun y hy hny => ?_)
    obtain ⟨e, he, rfl⟩ := List.mem_map.1 hy
    rw [List.mem_filter] at he
    obtain ⟨j, hj⟩ := List.getElem?_of_mem he.1
    exact h.low j e (List.getElem?_eq_some_iff.1 hj).1 hj he.2 hny
/-! The reference's answers are the program's. -/
theorem ref_near (ws : List Int) (z : Int) : refFit ws z true false = isNear ws z := by funext e; simp [refFit, isNear]
theorem ref_far (ws : List Int) (z : Int) : refFit ws z false false = isFar ws z := by funext e; simp [refFit, isFar]
theorem ref_here (ws : List Int) (z : Int) : refFit ws z true true = isHere z := by funext e; simp [refFit, isHere]
def bare (e : En) : En := ⟨e.id, 0, 0⟩
theorem ref_all (l : List En) (ws : List Int) : idsF (l.map bare) (refFit ws 0 true true) = idsF l (fun _ => true) := by
  unfold idsF
  rw [List.filter_map, List.map_map]
  have e1 : (En.id ∘ bare) = En.id := rfl
  have e2 : (refFit ws 0 true true ∘ bare) = fun _ => true := by funext e; simp [refFit, bare]
  rw [e1, e2]
theorem fit_panic {l : List En} {ws : List Int} {z p d : Int} (h : panicOf l ws p = true) : fitOf l ws z p d = fun _ => true := by funext e; simp [fitOf, h]
theorem fit_calm {l : List En} {ws : List Int} {z p d : Int} (h : panicOf l ws p = false) : fitOf l ws z p d = refFit ws z (decide (d < homeOf l ws z)) false := by
  funext e; simp [fitOf, h, refFit, Bool.and_comm]
end Go.Proofs.Ythblblkifkndiaa
