/-
  code: is, fits, numbers; the table where it lies.
-/
import Derived.Test.YtkhlldmnnakoaaaDoorCodeT
import Derived.Test.YtkhlldmnnakoaaaDoorKitLaid
import Derived.Handy
import Derived.BigQuiet
import Derived.BigRegion
import Derived.Deep.QuietTactic
import Derived.Deep.RegionHeld3
import Derived.Deep.LoopGhost
import Derived.Deep.RegionLaw
import Derived.Deep.DrawnRows
import Derived.StillTailTactics
import Derived.LaidEqlPtr
import Derived.Lib.LazyBuf
namespace Go.Proofs.YtkhlldmnnakoaaaDoor
open Go.RowKit
attribute [local go_sem ↓] Go.wp_at_zero Go.wp_at_succ

/-- the table's numbers, where they lie -/
def Tab (W : World) : Prop := ∀ i : Nat, 1 ≤ i → i ≤ 15 → ∀ (j : Nat) (z : Int), (ask i)[j]? = some z → W.cell? ⟨0, i * 6 + 2 + j, none⟩ = some (.int .i64 z)
theorem Tab.fresh {w w' : World} (h : Tab w) (f : Fresh w w') : Tab w' := fun i h1 h2 j z hz => by
  have hc := h i h1 h2 j z hz
  have hlt := World.block_lt_of_cell? w _ hc
  unfold World.cell? at hc ⊢
  simp only at hc ⊢
  rw [f.block _ hlt (fun h => h)]
  exact hc

theorem is_any (op : Int) (w : World) : Calls Tryd.prog 30 #[.int .i64 op] w fun e w' => e = .returned (.bool (decide (1 ≤ op ∧ op ≤ 15))) ∧ w = w' := by
  by_cases h1 : 1 ≤ op
  · have t1 : decide (1 ≤ op) = true := decide_eq_true h1
    by_cases h2 : op ≤ 15
    · have t2 : decide (op ≤ 15) = true := decide_eq_true h2
      go_enter Tryd.func30, Tryd.ntmps30
      go_wp2
      go_ret
      exact ⟨by simp [h1, h2], rfl⟩
    · have t2 : decide (op ≤ 15) = false := decide_eq_false h2
      go_enter Tryd.func30, Tryd.ntmps30
      go_wp2
      go_ret
      exact ⟨by simp [], rfl⟩
  · have t1 : decide (1 ≤ op) = false := decide_eq_false h1
    go_enter Tryd.func30, Tryd.ntmps30
    go_wp2
    go_ret
    exact ⟨by simp [], rfl⟩

theorem fits_any (k n : Int) (many : Nat) (w : World) : Calls Tryd.prog 31 #[.int .i64 k, .int .i64 n, .int .i64 many] w fun e w' => e = .returned (.bool (fitsP k n many)) ∧ w = w' := by
  unfold fitsP
  by_cases k1 : k = 1
  · subst k1
    simp only [if_true, Bool.decide_and]
    cases t1 : decide (0 ≤ n) <;> cases t2 : decide (n < 8) <;>
    (go_enter Tryd.func31, Tryd.ntmps31; go_wp2; go_ret; exact ⟨rfl, rfl⟩)
  by_cases k2 : k = 2
  · subst k2
    go_enter Tryd.func31, Tryd.ntmps31
    go_wp2
    go_ret
    exact ⟨rfl, rfl⟩
  by_cases k3 : k = 3
  · subst k3
    rw [if_neg k1, if_neg k2, if_pos rfl]
    simp only [Bool.decide_and]
    cases t1 : decide (0 ≤ n) <;> cases t2 : decide (n ≤ (many : Int)) <;>
    (go_enter Tryd.func31, Tryd.ntmps31; go_wp2; go_ret; exact ⟨rfl, rfl⟩)
  by_cases k4 : k = 4
  · subst k4
    rw [if_neg k1, if_neg k2, if_neg k3, if_pos rfl]
    simp only [Bool.decide_and]
    cases t1 : decide (0 ≤ n) <;> cases t2 : decide (n ≤ 255) <;>
    (go_enter Tryd.func31, Tryd.ntmps31; go_wp2; go_ret; exact ⟨rfl, rfl⟩)
  have t1 : (k == 1) = false := by simpa using k1
  have t2 : (k == 2) = false := by simpa using k2
  have t3 : (k == 3) = false := by simpa using k3
  have t4 : (k == 4) = false := by simpa using k4
  rw [if_neg k1, if_neg k2, if_neg k3, if_neg k4]
  clear k1 k2 k3 k4
  go_enter Tryd.func31, Tryd.ntmps31
  go_wp2
  go_ret
  exact ⟨by by_cases hn : n = 0 <;> simp [hn], rfl⟩

theorem numbers_any (x : Ins) (w : World) : Calls Tryd.prog 22 #[x.val] w fun e w' => e = .returned (.agg #[.int .i64 x.a, .int .i64 x.b, .int .i64 x.c, .int .i64 x.d]) ∧ Fresh w w' := by
  obtain ⟨op, a, b, c, d⟩ := x
  unfold Ins.val
  go_enter Tryd.func22, Tryd.ntmps22
  go_wp2
  go_returns
  exact ⟨rfl, by (repeat (first | (with_reducible exact Keep.refl _ _) | (with_reducible assumption) | (with_reducible refine Keep.drew ?_) | (with_reducible refine Keep.drewN ?_ _) | (with_reducible refine Keep.alloc ?_ _) | (with_reducible refine Keep.setCell ?_ ?_ _) | (with_reducible refine fun _ => rfl)))⟩
end Go.Proofs.YtkhlldmnnakoaaaDoor
