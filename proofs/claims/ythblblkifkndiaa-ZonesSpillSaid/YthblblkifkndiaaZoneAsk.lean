/- Layer 11: what is asked of an endpoint: the closures of Home, Panic and Among; each. -/
import Derived.Test.YthblblkifkndiaaZoneMem
namespace Go.Proofs.Ythblblkifkndiaa
open Go.RowKit
def AskPost (b : Bool) (w : World) (e : Ending) (w' : World) : Prop := e = .returned (.bool b) ∧ Upd [] w w'
theorem ask_here (x : En) (z : Int) (zb : Nat) (w : World) (hz : w.cell? ⟨zb, 0, none⟩ = some (.int .i64 z)) :
    Calls Try.prog 24 #[x.val, .pointer (some ⟨zb, 0, none⟩)] w (AskPost (isHere z x) w) := by
  obtain ⟨xi, xs, xz⟩ := x
  unfold En.val
  dsimp only
  have u := Upd.alloc [] w (.cells #[.int .i64 xi, .int .i64 xs, .int .i64 xz] 35)
  have y2 := (BlockAt.new w 35 [.int .i64 xi, .int .i64 xs, .int .i64 xz]).cell 2 _ rfl
  have hz1 := u.cell hz (by simp)
  have HU := Lib.hid u
  have hb : isHere z ⟨xi, xs, xz⟩ = decide (xz = z) := rfl
  rw [hb]
  clear u hz hb
  go_enter Try.func24, Try.ntmps24
  go_wp2_with fail
  go_ret
  exact ⟨rfl, HU.out⟩
theorem ask_near (x : En) (z : Int) (ws : List Int) (zb fb M : Nat) (w : World) (hz : w.cell? ⟨zb, 0, none⟩ = some (.int .i64 z)) (hf : w.cell? ⟨fb, 0, none⟩ = some (.map (some M))) (hm : MapU w M (setOf ws)) :
    Calls Try.prog 25 #[x.val, .pointer (some ⟨zb, 0, none⟩), .pointer (some ⟨fb, 0, none⟩)] w (AskPost (isNear ws z x) w) := by
  obtain ⟨xi, xs, xz⟩ := x
  unfold En.val
  dsimp only
  have u := Upd.alloc [] w (.cells #[.int .i64 xi, .int .i64 xs, .int .i64 xz] 35)
  have y0 := (BlockAt.new w 35 [.int .i64 xi, .int .i64 xs, .int .i64 xz]).cell 0 _ rfl
  have y2 := (BlockAt.new w 35 [.int .i64 xi, .int .i64 xs, .int .i64 xz]).cell 2 _ rfl
  have hz1 := u.cell hz (by simp)
  have hf1 := u.cell hf (by simp)
  have hlk := (hm.keep u (by simp)).look (P := Try.prog) tMapBool tInt (zeroBool _) xi
  obtain ⟨B, hB⟩ : ∃ B, decide (xi ∈ setOf ws) = B := ⟨_, rfl⟩
  rw [hB] at hlk
  have HU := Lib.hid u
  have hb : isNear ws z ⟨xi, xs, xz⟩ = (decide (xz = z) && B) := by rw [← hB]; simp [isNear, mem_setOf]
  rw [hb]
  clear u hz hf hm hb hB
  by_cases h : xz = z
  · subst h
    go_enter Try.func25, Try.ntmps25
    go_wp2_with fail
    go_ret
    exact ⟨by simp, HU.out⟩
  · have e1 : (xz == z) = false := by simpa using h
    have e2 : decide (xz = z) = false := by simpa using h
    have H := Lib.hid e2
    clear h
    go_enter Try.func25, Try.ntmps25
    go_wp2_with fail
    go_ret
    exact ⟨by rw [H.out]; rfl, HU.out⟩
theorem ask_far (x : En) (z : Int) (ws : List Int) (zb fb M : Nat) (w : World) (hz : w.cell? ⟨zb, 0, none⟩ = some (.int .i64 z)) (hf : w.cell? ⟨fb, 0, none⟩ = some (.map (some M))) (hm : MapU w M (setOf ws)) :
    Calls Try.prog 26 #[x.val, .pointer (some ⟨zb, 0, none⟩), .pointer (some ⟨fb, 0, none⟩)] w (AskPost (isFar ws z x) w) := by
  obtain ⟨xi, xs, xz⟩ := x
  unfold En.val
  dsimp only
  have u := Upd.alloc [] w (.cells #[.int .i64 xi, .int .i64 xs, .int .i64 xz] 35)
  have y0 := (BlockAt.new w 35 [.int .i64 xi, .int .i64 xs, .int .i64 xz]).cell 0 _ rfl
  have y2 := (BlockAt.new w 35 [.int .i64 xi, .int .i64 xs, .int .i64 xz]).cell 2 _ rfl
  have hz1 := u.cell hz (by simp)
  have hf1 := u.cell hf (by simp)
  have hlk := (hm.keep u (by simp)).look (P := Try.prog) tMapBool tInt (zeroBool _) xi
  obtain ⟨B, hB⟩ : ∃ B, decide (xi ∈ setOf ws) = B := ⟨_, rfl⟩
  rw [hB] at hlk
  have HU := Lib.hid u
  have hb : isFar ws z ⟨xi, xs, xz⟩ = (!decide (xz = z) && B) := by rw [← hB]; simp [isFar, mem_setOf]
  rw [hb]
  clear u hz hf hm hb hB
  by_cases h : xz = z
  · subst h
    go_enter Try.func26, Try.ntmps26
    go_wp2_with fail
    go_ret
    exact ⟨by simp, HU.out⟩
  · have e3 : (xz != z) = true := by simpa using h
    have e2 : decide (xz = z) = false := by simpa using h
    have H := Lib.hid e2
    clear h
    go_enter Try.func26, Try.ntmps26
    go_wp2_with fail
    go_ret
    exact ⟨by rw [H.out]; rfl, HU.out⟩
theorem ask_well (x : En) (ws : List Int) (fb M : Nat) (w : World) (hf : w.cell? ⟨fb, 0, none⟩ = some (.map (some M))) (hm : MapU w M (setOf ws)) :
    Calls Try.prog 32 #[x.val, .pointer (some ⟨fb, 0, none⟩)] w (AskPost (isWell ws x) w) := by
  obtain ⟨xi, xs, xz⟩ := x
  unfold En.val
  dsimp only
  have u := Upd.alloc [] w (.cells #[.int .i64 xi, .int .i64 xs, .int .i64 xz] 35)
  have y0 := (BlockAt.new w 35 [.int .i64 xi, .int .i64 xs, .int .i64 xz]).cell 0 _ rfl
  have hf1 := u.cell hf (by simp)
  have hlk := (hm.keep u (by simp)).look (P := Try.prog) tMapBool tInt (zeroBool _) xi
  obtain ⟨B, hB⟩ : ∃ B, decide (xi ∈ setOf ws) = B := ⟨_, rfl⟩
  rw [hB] at hlk
  have HU := Lib.hid u
  have hb : isWell ws ⟨xi, xs, xz⟩ = B := by rw [← hB]; simp [isWell, mem_setOf]
  rw [hb]
  clear u hf hm hb hB
  go_enter Try.func32, Try.ntmps32
  go_wp2_with fail
  go_ret
  exact ⟨rfl, HU.out⟩
theorem ask_all (x : En) (w : World) : Calls Try.prog 30 #[x.val] w (AskPost true w) := by
  obtain ⟨xi, xs, xz⟩ := x
  unfold En.val
  dsimp only
  go_enter Try.func30, Try.ntmps30
  go_wp2_with fail
  go_ret
  exact ⟨rfl, Upd.alloc [] _ _⟩
theorem ask_fit (x : En) (z : Int) (s : Bool) (ws : List Int) (fb zb sb M : Nat) (w : World) (hf : w.cell? ⟨fb, 0, none⟩ = some (.map (some M))) (hz : w.cell? ⟨zb, 0, none⟩ = some (.int .i64 z)) (hs : w.cell? ⟨sb, 0, none⟩ = some (.bool s)) (hm : MapU w M (setOf ws)) :
    Calls Try.prog 31 #[x.val, .pointer (some ⟨fb, 0, none⟩), .pointer (some ⟨zb, 0, none⟩), .pointer (some ⟨sb, 0, none⟩)] w (AskPost (decide (x.id ∈ ws) && (decide (x.zone = z) == s)) w) := by
  obtain ⟨xi, xs, xz⟩ := x
  unfold En.val
  dsimp only
  have u := Upd.alloc [] w (.cells #[.int .i64 xi, .int .i64 xs, .int .i64 xz] 35)
  have y0 := (BlockAt.new w 35 [.int .i64 xi, .int .i64 xs, .int .i64 xz]).cell 0 _ rfl
  have y2 := (BlockAt.new w 35 [.int .i64 xi, .int .i64 xs, .int .i64 xz]).cell 2 _ rfl
  have hz1 := u.cell hz (by simp)
  have hf1 := u.cell hf (by simp)
  have hs1 := u.cell hs (by simp)
  have hlk := (hm.keep u (by simp)).look (P := Try.prog) tMapBool tInt (zeroBool _) xi
  have hmem : decide (xi ∈ setOf ws) = decide (xi ∈ ws) := by simp [mem_setOf]
  rw [hmem] at hlk
  have HU := Lib.hid u
  clear u hz hf hm hs hmem
  by_cases hw : xi ∈ ws
  · have hd : decide (xi ∈ ws) = true := by simpa using hw
    rw [hd] at hlk ⊢
    clear hw hd
    by_cases h : xz = z
    · subst h
      cases s
      all_goals
        go_enter Try.func31, Try.ntmps31
        go_wp2_with fail
        go_ret
        exact ⟨by simp, HU.out⟩
    · have e1 : (xz == z) = false := by simpa using h
      have e2 : decide (xz = z) = false := by simpa using h
      have H := Lib.hid e2
      clear h
      cases s
      all_goals
        go_enter Try.func31, Try.ntmps31
        go_wp2_with fail
        go_ret
        exact ⟨by rw [H.out]; rfl, HU.out⟩
  · have hd : decide (xi ∈ ws) = false := by simpa using hw
    rw [hd] at hlk ⊢
    clear hw hd
    go_enter Try.func31, Try.ntmps31
    go_wp2_with fail
    go_ret
    exact ⟨rfl, HU.out⟩
theorem each_any (v f : Value) (w : World) (hv : ∃ a n c, v = .slice a n c) (hf : ∃ k caps, f = .func (.func k) #[] caps) : Calls Try.prog 23 #[v, f] w fun e w' =>
    e = .returned (.func (.func 33) #[] #[.pointer (some ⟨w.heap.size, 0, none⟩), .pointer (some ⟨w.heap.size + 1, 0, none⟩)]) ∧ w' = (w.alloc (.cells #[v] 23)).alloc (.cells #[f] 44) := by
  obtain ⟨a, n, c, rfl⟩ := hv
  obtain ⟨k, caps, rfl⟩ := hf
  go_enter Try.func23, Try.ntmps23
  go_wp2_with fail
  go_ret
  exact ⟨rfl, rfl⟩
end Go.Proofs.Ythblblkifkndiaa
