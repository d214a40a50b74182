/-
  ring.Ring[int]: Push into a full ring.
-/
import Derived.Test.YtfckbgifmajbjaaTell
namespace Go.Proofs.Ytfckbgifmajbjaa
open Go.RowKit
attribute [local go_sem ↓] Go.wp_at_zero Go.wp_at_succ
/-- Push into a full ring is refused -/
theorem push_full (g : Nat) (v : Value) (c : List (Int × Int)) (first many : Nat) (a b : Int) (s : Int × Int) (w : World) (h : SRing w g v c first many) (hl : c.length ≤ 100000) (hf : first ≤ 100000) (hm : many = c.length) (h0 : 0 < many) (hs : nth c first (many - 1) = some s) (ht : ¬ a < s.1) :
    Calls Try.prog 24 #[.pointer (some ⟨g, 0, none⟩), .int .i64 a, .int .i64 b] w fun e w' => e = .returned (.int .i64 11) ∧ Fresh w w' := by
  subst hm
  have hb := h.blk.cell
  obtain ⟨gs, off, cap, rfl, ls, _, lcs, hcs⟩ := h.own.form (by omega)
  have lcs : cap ≤ 9223372036854775807 := by unfold maxLen at lcs; omega
  have hlt : (first + (c.length - 1)) % c.length < c.length := Nat.mod_lt _ (by omega)
  have em : (c.length : Int) - 1 = ((c.length - 1 : Nat) : Int) := by omega
  have hp : ∀ n, Calls Try.prog 34 #[.pointer (some ⟨g, 0, none⟩), .int .i64 ((c.length : Int) - 1)] (w.drewN n) fun e w' => e = .returned (.int .i64 (((first + (c.length - 1)) % c.length : Nat) : Int)) ∧ ∃ m, w' = (w.drewN n).drewN m := fun n => by
    rw [em]
    exact place_q g _ c first c.length (c.length - 1) _ (h.drewN n) (by omega) hl hf (by omega)
  obtain ⟨q, hq⟩ : ∃ q, (first + (c.length - 1)) % c.length = q := ⟨_, rfl⟩
  unfold nth at hs
  rw [hq] at hp hlt hs
  have c0 := hcs _ _ (cells_at c q s hs).1
  have HP := Lib.hid hp
  have t1 : decide ((0 : Int) < (c.length : Int)) = true := by simp; omega
  have t1' : decide (0 < c.length) = true := by simp; omega
  have t2 : decide (a < s.1) = false := by simpa using ht
  have t4 : ((c.length : Int) == (c.length : Int)) = true := by simp
  have j0 : (0 : Int) ≤ (q : Int) := by omega
  have j1 : (q : Int) < (c.length : Int) := by omega
  clear h hcs hp em hs hq ht
  go_enter Try.func24, Try.ntmps24
  go_wp2_with fail
  go_quiet ((go_at_call 34; refine Calls.quiet_of (HP.out _)))
  go_wp2_with fail
  go_quiet (fail)
  go_wp2
  go_ret
  exact ⟨rfl, by (repeat (first | (with_reducible exact Keep.refl _ _) | (with_reducible assumption) | (with_reducible refine Keep.drew ?_) | (with_reducible refine Keep.drewN ?_ _) | (with_reducible refine Keep.alloc ?_ _) | (with_reducible refine Keep.setCell ?_ ?_ _) | (with_reducible refine fun _ => rfl)))⟩
end Go.Proofs.Ytfckbgifmajbjaa
