/- Layer 19: what stays in a region that asks a bucket and makes memory. -/
import Derived.Test.YtjiclgebhndljaaTokenD
import Derived.Deep.RegionHeld3
namespace Go.Proofs.Ytjiclgebhndljaa
open Go.RowKit
/-- What stays in a region that asks a bucket and makes memory: the budget's cells, the bundle. -/
theorem Tk.held {w W : World} {X b : Nat} {p o B x : Int} (h : Tk w W X b p o B x) : W.cell? ⟨X, 0, none⟩ = some (.int .i64 p) ∧ W.cell? ⟨X, 1, none⟩ = some (.int .i64 o) ∧ W.cell? ⟨X, 2, none⟩ = some (.int .i64 B) ∧ Hid (Tk w W X b p o B x) := by
  have hbud := h.bud
  exact ⟨BlockAt.cell (w := W) hbud 0 _ rfl, BlockAt.cell (w := W) hbud 1 _ rfl, BlockAt.cell (w := W) hbud 2 _ rfl, h⟩
theorem Tk.drewN {w W : World} {X b : Nat} {p o B x : Int} (h : Tk w W X b p o B x) (n : Nat) : Tk w (W.drewN n) X b p o B x :=
  h.next (Upd.below (Upd.drewN [] W n) (Nat.le_refl _) (by simp))
theorem Tk.drew {w W : World} {X b : Nat} {p o B x : Int} (h : Tk w W X b p o B x) : Tk w W.drew X b p o B x :=
  h.next (Upd.below (Upd.drew [] W) (Nat.le_refl _) (by simp))
theorem left_held {w W : World} {X b : Nat} {p o B x q : Int} (o0 : 1 ≤ o) (o1 : o ≤ 100) (x0 : 0 ≤ x) (x1 : x ≤ 10000) (hq : x / o = q) (h : Hid (Tk w W X b p o B x)) :
    Calls Try.prog 20 #[.pointer (some ⟨b, 0, none⟩)] W fun e w' => e = .returned (.int .i64 q) ∧ w'.cell? ⟨X, 0, none⟩ = some (.int .i64 p) ∧ w'.cell? ⟨X, 1, none⟩ = some (.int .i64 o) ∧ w'.cell? ⟨X, 2, none⟩ = some (.int .i64 B) ∧ Hid (Tk w w' X b p o B x) := by
  subst hq
  refine (left_any b p o (B * o) x W h.out.tok o0 o1 x0 x1).mono ?_
  rintro e w' ⟨rfl, n, rfl⟩
  exact ⟨rfl, (h.out.drewN n).held⟩
theorem below_held {P : Program} {f : FuncId} {args : Array Value} {w W : World} {X b : Nat} {p o B x : Int} {v : Value} (hc : Calls P f args W fun e w' => e = .returned v ∧ Below W.heap.size W w') (h : Hid (Tk w W X b p o B x)) :
    Calls P f args W fun e w' => e = .returned v ∧ w'.cell? ⟨X, 0, none⟩ = some (.int .i64 p) ∧ w'.cell? ⟨X, 1, none⟩ = some (.int .i64 o) ∧ w'.cell? ⟨X, 2, none⟩ = some (.int .i64 B) ∧ Hid (Tk w w' X b p o B x) :=
  hc.mono fun _ _ ⟨he, hb⟩ => ⟨he, (h.out.next hb).held⟩
end Go.Proofs.Ytjiclgebhndljaa
