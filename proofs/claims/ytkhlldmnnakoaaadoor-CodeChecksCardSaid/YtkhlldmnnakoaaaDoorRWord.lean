/-
  The document's answer: the words, the kinds of numbers, a number.
-/
import Derived.Test.YtkhlldmnnakoaaaDoorTabs
namespace Go.Proofs.YtkhlldmnnakoaaaDoor
open Go.RowKit
attribute [local go_sem ↓] Go.wp_at_zero Go.wp_at_succ
def wordV : List Value := [.string ⟨#[115, 101, 116]⟩, .string ⟨#[109, 111, 118, 101]⟩, .string ⟨#[97, 100, 100]⟩, .string ⟨#[115, 117, 98]⟩, .string ⟨#[109, 117, 108]⟩, .string ⟨#[109, 111, 100]⟩, .string ⟨#[108, 101, 115, 115]⟩, .string ⟨#[106, 117, 109, 112]⟩, .string ⟨#[122, 101, 114, 111]⟩, .string ⟨#[110, 111, 119]⟩, .string ⟨#[107, 105, 110, 100]⟩, .string ⟨#[100, 97, 116, 97]⟩, .string ⟨#[115, 101, 108, 102]⟩, .string ⟨#[115, 101, 110, 100]⟩, .string ⟨#[115, 116, 111, 112]⟩]
theorem word_at {m : Nat} (h : m < 15) : wordV[m]'h = .string ⟨(word ((m : Int) + 1)).toArray⟩ := by
  have : m = 0 ∨ m = 1 ∨ m = 2 ∨ m = 3 ∨ m = 4 ∨ m = 5 ∨ m = 6 ∨ m = 7 ∨ m = 8 ∨ m = 9 ∨ m = 10 ∨ m = 11 ∨ m = 12 ∨ m = 13 ∨ m = 14 := by omega
  rcases this with rfl | rfl | rfl | rfl | rfl | rfl | rfl | rfl | rfl | rfl | rfl | rfl | rfl | rfl | rfl <;> rfl
set_option maxRecDepth 100000 in
set_option maxHeartbeats 4000000 in
theorem rword_any (op : Int) (w : World) : Calls Tryd.prog 14 #[.int .i64 op] w fun e w' => e = .returned (.string ⟨(word op).toArray⟩) ∧ Fresh w w' := by
  by_cases h1 : op < 1
  · have t1 : decide (op < 1) = true := decide_eq_true h1
    have e1 : word op = [] := by unfold word; rw [if_pos (.inl h1)]
    rw [e1]
    clear h1 e1
    go_enter Tryd.func14, Tryd.ntmps14
    go_wp2_with fail
    go_returns
    exact ⟨rfl, by (repeat (first | (with_reducible exact Keep.refl _ _) | (with_reducible assumption) | (with_reducible refine Keep.drew ?_) | (with_reducible refine Keep.drewN ?_ _) | (with_reducible refine Keep.alloc ?_ _) | (with_reducible refine Keep.setCell ?_ ?_ _) | (with_reducible refine fun _ => rfl)))⟩
  · have t1 : decide (op < 1) = false := decide_eq_false h1
    by_cases h2 : 15 < op
    · have t2 : decide (15 < op) = true := decide_eq_true h2
      have e1 : word op = [] := by unfold word; rw [if_pos (.inr h2)]
      rw [e1]
      clear h1 h2 e1
      go_enter Tryd.func14, Tryd.ntmps14
      go_wp2_with fail
      go_returns
      exact ⟨rfl, by (repeat (first | (with_reducible exact Keep.refl _ _) | (with_reducible assumption) | (with_reducible refine Keep.drew ?_) | (with_reducible refine Keep.drewN ?_ _) | (with_reducible refine Keep.alloc ?_ _) | (with_reducible refine Keep.setCell ?_ ?_ _) | (with_reducible refine fun _ => rfl)))⟩
    · have t2 : decide (15 < op) = false := decide_eq_false h2
      obtain ⟨m, rfl⟩ : ∃ m : Nat, op = (m : Int) + 1 := ⟨(op - 1).toNat, by omega⟩
      have q1 : m < 15 := by omega
      have q2 : (m : Int) < 15 := by omega
      have q3 : wrap64 (m : Int) = m := Go.IntWalk.wrap64_in _ (by omega)
      have HW := Lib.hid (word_at q1)
      clear h1 h2
      go_enter Tryd.func14, Tryd.ntmps14
      go_wp2_with fail
      go_returns
      exact ⟨congrArg Ending.returned HW.out, by (repeat (first | (with_reducible exact Keep.refl _ _) | (with_reducible assumption) | (with_reducible refine Keep.drew ?_) | (with_reducible refine Keep.drewN ?_ _) | (with_reducible refine Keep.alloc ?_ _) | (with_reducible refine Keep.setCell ?_ ?_ _) | (with_reducible refine fun _ => rfl)))⟩
def kindT : List (List UInt8) := [[99, 110], [99, 99], [99, 99, 99], [99, 99, 99], [99, 99, 99], [99, 99, 99], [99, 99, 99], [112], [99, 112], [99], [99], [99], [99], [99, 99, 99, 107], []]
def kinds (op : Int) : List UInt8 := if op < 1 ∨ 15 < op then [] else kindT.getD (op - 1).toNat []
def kindV : List Value := [.string ⟨#[99, 110]⟩, .string ⟨#[99, 99]⟩, .string ⟨#[99, 99, 99]⟩, .string ⟨#[99, 99, 99]⟩, .string ⟨#[99, 99, 99]⟩, .string ⟨#[99, 99, 99]⟩, .string ⟨#[99, 99, 99]⟩, .string ⟨#[112]⟩, .string ⟨#[99, 112]⟩, .string ⟨#[99]⟩, .string ⟨#[99]⟩, .string ⟨#[99]⟩, .string ⟨#[99]⟩, .string ⟨#[99, 99, 99, 107]⟩, .string ⟨#[]⟩]
theorem kind_at {m : Nat} (h : m < 15) : kindV[m]'h = .string ⟨(kinds ((m : Int) + 1)).toArray⟩ := by
  have : m = 0 ∨ m = 1 ∨ m = 2 ∨ m = 3 ∨ m = 4 ∨ m = 5 ∨ m = 6 ∨ m = 7 ∨ m = 8 ∨ m = 9 ∨ m = 10 ∨ m = 11 ∨ m = 12 ∨ m = 13 ∨ m = 14 := by omega
  rcases this with rfl | rfl | rfl | rfl | rfl | rfl | rfl | rfl | rfl | rfl | rfl | rfl | rfl | rfl | rfl <;> rfl
set_option maxRecDepth 100000 in
set_option maxHeartbeats 4000000 in
theorem rkinds_any (op : Int) (w : World) : Calls Tryd.prog 15 #[.int .i64 op] w fun e w' => e = .returned (.string ⟨(kinds op).toArray⟩) ∧ Fresh w w' := by
  by_cases h1 : op < 1
  · have t1 : decide (op < 1) = true := decide_eq_true h1
    have e1 : kinds op = [] := by unfold kinds; rw [if_pos (.inl h1)]
    rw [e1]
    clear h1 e1
    go_enter Tryd.func15, Tryd.ntmps15
    go_wp2_with fail
    go_returns
    exact ⟨rfl, by (repeat (first | (with_reducible exact Keep.refl _ _) | (with_reducible assumption) | (with_reducible refine Keep.drew ?_) | (with_reducible refine Keep.drewN ?_ _) | (with_reducible refine Keep.alloc ?_ _) | (with_reducible refine Keep.setCell ?_ ?_ _) | (with_reducible refine fun _ => rfl)))⟩
  · have t1 : decide (op < 1) = false := decide_eq_false h1
    by_cases h2 : 15 < op
    · have t2 : decide (15 < op) = true := decide_eq_true h2
      have e1 : kinds op = [] := by unfold kinds; rw [if_pos (.inr h2)]
      rw [e1]
      clear h1 h2 e1
      go_enter Tryd.func15, Tryd.ntmps15
      go_wp2_with fail
      go_returns
      exact ⟨rfl, by (repeat (first | (with_reducible exact Keep.refl _ _) | (with_reducible assumption) | (with_reducible refine Keep.drew ?_) | (with_reducible refine Keep.drewN ?_ _) | (with_reducible refine Keep.alloc ?_ _) | (with_reducible refine Keep.setCell ?_ ?_ _) | (with_reducible refine fun _ => rfl)))⟩
    · have t2 : decide (15 < op) = false := decide_eq_false h2
      obtain ⟨m, rfl⟩ : ∃ m : Nat, op = (m : Int) + 1 := ⟨(op - 1).toNat, by omega⟩
      have q1 : m < 15 := by omega
      have q2 : (m : Int) < 15 := by omega
      have q3 : wrap64 (m : Int) = m := Go.IntWalk.wrap64_in _ (by omega)
      have HW := Lib.hid (kind_at q1)
      clear h1 h2
      go_enter Tryd.func15, Tryd.ntmps15
      go_wp2_with fail
      go_returns
      exact ⟨congrArg Ending.returned HW.out, by (repeat (first | (with_reducible exact Keep.refl _ _) | (with_reducible assumption) | (with_reducible refine Keep.drew ?_) | (with_reducible refine Keep.drewN ?_ _) | (with_reducible refine Keep.alloc ?_ _) | (with_reducible refine Keep.setCell ?_ ?_ _) | (with_reducible refine fun _ => rfl)))⟩
set_option maxHeartbeats 4000000 in
theorem rnumber_any (x : Ins) (i : Int) (w : World) : Calls Tryd.prog 32 #[x.val, .int .i64 i] w fun e w' => e = .returned (.int .i64 (if i = 0 then x.a else if i = 1 then x.b else if i = 2 then x.c else x.d)) ∧ Fresh w w' := by
  obtain ⟨op, a, b, c, d⟩ := x
  unfold Ins.val
  simp only
  go_enter Tryd.func32, Tryd.ntmps32
  by_cases h0 : i = 0
  · subst h0
    go_wp2_with fail
    go_returns
    exact ⟨rfl, by (repeat (first | (with_reducible exact Keep.refl _ _) | (with_reducible assumption) | (with_reducible refine Keep.drew ?_) | (with_reducible refine Keep.drewN ?_ _) | (with_reducible refine Keep.alloc ?_ _) | (with_reducible refine Keep.setCell ?_ ?_ _) | (with_reducible refine fun _ => rfl)))⟩
  · rw [if_neg h0]
    have t0 : (i == 0) = false := by simpa using h0
    by_cases h1 : i = 1
    · subst h1
      go_wp2_with fail
      go_returns
      exact ⟨rfl, by (repeat (first | (with_reducible exact Keep.refl _ _) | (with_reducible assumption) | (with_reducible refine Keep.drew ?_) | (with_reducible refine Keep.drewN ?_ _) | (with_reducible refine Keep.alloc ?_ _) | (with_reducible refine Keep.setCell ?_ ?_ _) | (with_reducible refine fun _ => rfl)))⟩
    · rw [if_neg h1]
      have t1 : (i == 1) = false := by simpa using h1
      by_cases h2 : i = 2
      · subst h2
        go_wp2_with fail
        go_returns
        exact ⟨rfl, by (repeat (first | (with_reducible exact Keep.refl _ _) | (with_reducible assumption) | (with_reducible refine Keep.drew ?_) | (with_reducible refine Keep.drewN ?_ _) | (with_reducible refine Keep.alloc ?_ _) | (with_reducible refine Keep.setCell ?_ ?_ _) | (with_reducible refine fun _ => rfl)))⟩
      · rw [if_neg h2]
        have t2 : (i == 2) = false := by simpa using h2
        clear h0 h1 h2
        go_wp2_with fail
        go_returns
        exact ⟨rfl, by (repeat (first | (with_reducible exact Keep.refl _ _) | (with_reducible assumption) | (with_reducible refine Keep.drew ?_) | (with_reducible refine Keep.drewN ?_ _) | (with_reducible refine Keep.alloc ?_ _) | (with_reducible refine Keep.setCell ?_ ?_ _) | (with_reducible refine fun _ => rfl)))⟩
end Go.Proofs.YtkhlldmnnakoaaaDoor
