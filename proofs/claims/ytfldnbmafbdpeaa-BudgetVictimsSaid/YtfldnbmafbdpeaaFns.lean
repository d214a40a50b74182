import Derived.Test.YtfldnbmafbdpeaaRows
import Derived.Test.YtfldnbmafbdpeaaKit
import Derived.Handy
import Derived.BigQuiet
import Derived.BigRegion
import Derived.Deep.QuietTactic
import Derived.Deep.RegionHeld3
import Derived.StillTailTactics
namespace Go.Proofs.Ytfldnbmafbdpeaa
open Go.RowKit

theorem may_yes (n : Int) (w : World) (h : 0 ≤ n) (h2 : n ≤ 1073741824) : Calls Try.prog 17 #[.int .i64 n] w fun e w' => e = .returned (.bool true) ∧ w = w' := by
  go_enter Try.func17, Try.ntmps17
  go_wp2
  go_ret
  exact ⟨rfl, rfl⟩
theorem may_no (n : Int) (w : World) (h : n < 0 ∨ 1073741824 < n) : Calls Try.prog 17 #[.int .i64 n] w fun e w' => e = .returned (.bool false) ∧ w = w' := by
  rcases h with h | h
  · go_enter Try.func17, Try.ntmps17
    go_wp2
    go_ret
    exact ⟨rfl, rfl⟩
  · have h' : 0 ≤ n := by omega
    have hd : decide (n ≤ 1073741824) = false := by simp; omega
    go_enter Try.func17, Try.ntmps17
    go_wp2
    go_ret
    exact ⟨rfl, rfl⟩

/-- Five counts. -/
def cs5 (a b c d f : Int) : Array Value := #[.int .i64 a, .int .i64 b, .int .i64 c, .int .i64 d, .int .i64 f]

theorem sum_any (a b c d f : Int) (w : World) (ha : 0 ≤ a ∧ a ≤ 1073741824)  (hb : 0 ≤ b ∧ b ≤ 1073741824) (hc : 0 ≤ c ∧ c ≤ 1073741824) (hd : 0 ≤ d ∧ d ≤ 1073741824) (hf : 0 ≤ f ∧ f ≤ 1073741824) :
    Calls Try.prog 10 #[.agg #[.int .i64 a, .int .i64 b, .int .i64 c, .int .i64 d, .int .i64 f]] w fun e w' => e = .returned (.int .i64 (a + b + c + d + f)) ∧ w.alloc (.cells #[.int .i64 a, .int .i64 b, .int .i64 c, .int .i64 d, .int .i64 f] 24) = w' := by
  have i0 : ∀ w : World, (Instr.index 24 (.agg #[.int .i64 a, .int .i64 b, .int .i64 c, .int .i64 d, .int .i64 f]) (.int .i64 0)).run Try.prog w = .ok (.int .i64 a) w := fun _ => by kernel_rfl
  have i1 : ∀ w : World, (Instr.index 24 (.agg #[.int .i64 a, .int .i64 b, .int .i64 c, .int .i64 d, .int .i64 f]) (.int .i64 1)).run Try.prog w = .ok (.int .i64 b) w := fun _ => by kernel_rfl
  have i2 : ∀ w : World, (Instr.index 24 (.agg #[.int .i64 a, .int .i64 b, .int .i64 c, .int .i64 d, .int .i64 f]) (.int .i64 2)).run Try.prog w = .ok (.int .i64 c) w := fun _ => by kernel_rfl
  have i3 : ∀ w : World, (Instr.index 24 (.agg #[.int .i64 a, .int .i64 b, .int .i64 c, .int .i64 d, .int .i64 f]) (.int .i64 3)).run Try.prog w = .ok (.int .i64 d) w := fun _ => by kernel_rfl
  have i4 : ∀ w : World, (Instr.index 24 (.agg #[.int .i64 a, .int .i64 b, .int .i64 c, .int .i64 d, .int .i64 f]) (.int .i64 4)).run Try.prog w = .ok (.int .i64 f) w := fun _ => by kernel_rfl
  go_enter Try.func10, Try.ntmps10
  go_wp2
  go_rounds 6
  go_returns
  exact ⟨rfl, rfl⟩

theorem new_bad (a b : Int) (w : World) (h : a < 1 ∨ 4096 < a ∨ b < 0 ∨ a < b) :
    Calls Try.prog 7 #[.int .i64 a, .int .i64 b] w fun e w' => e = .returned (.tuple #[.pointer none, .int .i64 1]) ∧ w = w' := by
  go_each [a < 1, 4096 < a, b < 0, a < b] => (go_enter Try.func7, Try.ntmps7; go_wp2; go_ret2; exact ⟨rfl, rfl⟩)

theorem new_ok (a b : Int) (w : World) (h1 : 1 ≤ a) (h2 : a ≤ 4096) (h3 : 0 ≤ b) (h4 : b ≤ a) :
    Calls Try.prog 7 #[.int .i64 a, .int .i64 b] w fun e w' => e = .returned (.tuple #[.pointer (some ⟨w.heap.size, 0, none⟩), .int .i64 0]) ∧ w.alloc (.cells #[.int .i64 a, .int .i64 b, .int .i64 0, .int .i64 0, .int .i64 0, .int .i64 0, .int .i64 0] 52) = w' := by
  go_enter Try.func7, Try.ntmps7
  go_wp2
  go_ret2
  exact ⟨rfl, rfl⟩

theorem room_nil (w : World) : Calls Try.prog 14 #[.pointer none] w fun e w' => e = .returned (.int .i64 0) ∧ w = w' := by
  go_enter Try.func14, Try.ntmps14
  go_wp2
  go_ret
  exact ⟨rfl, rfl⟩
theorem room_any (b : Nat) (v : Value) (w : World) (hc : w.cell? ⟨b, 0, none⟩ = some v) : Calls Try.prog 14 #[.pointer (some ⟨b, 0, none⟩)] w fun e w' => e = .returned v ∧ w = w' := by
  go_enter Try.func14, Try.ntmps14
  go_wp2
  go_ret
  exact ⟨rfl, rfl⟩
theorem worst_nil (w : World) : Calls Try.prog 13 #[.pointer none] w fun e w' => e = .returned (.agg #[.int .i64 0, .int .i64 0, .int .i64 0, .int .i64 0, .int .i64 0]) ∧ Below w.heap.size w w' := by
  go_enter Try.func13, Try.ntmps13
  go_wp2
  go_returns
  exact ⟨rfl, by go_grown⟩
theorem worst_any (b : Nat) (v0 v1 v2 v3 v4 : Int) (w : World) (hc : ∀ i, i < 5 → w.cell? ⟨b, 2 + i, none⟩ = some (.int .i64 ([v0, v1, v2, v3, v4].getD i 0))) : Calls Try.prog 13 #[.pointer (some ⟨b, 0, none⟩)] w fun e w' => e = .returned (.agg #[.int .i64 v0, .int .i64 v1, .int .i64 v2, .int .i64 v3, .int .i64 v4]) ∧ Below w.heap.size w w' := by
  have h0 : w.cell? ⟨b, 2, none⟩ = some (.int .i64 v0) := hc 0 (by omega)
  have h1 : w.cell? ⟨b, 3, none⟩ = some (.int .i64 v1) := hc 1 (by omega)
  have h2 : w.cell? ⟨b, 4, none⟩ = some (.int .i64 v2) := hc 2 (by omega)
  have h3 : w.cell? ⟨b, 5, none⟩ = some (.int .i64 v3) := hc 3 (by omega)
  have h4 : w.cell? ⟨b, 6, none⟩ = some (.int .i64 v4) := hc 4 (by omega)
  clear hc
  have hb := World.block_lt_of_cell? w _ h0
  simp only at hb
  go_enter Try.func13, Try.ntmps13
  go_wp2
  go_returns
  exact ⟨rfl, by go_grown⟩
end Go.Proofs.Ytfldnbmafbdpeaa
