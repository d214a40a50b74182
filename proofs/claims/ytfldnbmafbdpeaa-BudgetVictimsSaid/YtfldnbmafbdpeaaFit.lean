import Derived.Test.YtfldnbmafbdpeaaFns
namespace Go.Proofs.Ytfldnbmafbdpeaa
open Go.RowKit

def Good (n : Int) : Prop := 0 ≤ n ∧ n ≤ 1073741824

section
variable (a b c d f : Int)
theorem idx0 (w : World) : (Instr.index 24 (.agg #[.int .i64 a, .int .i64 b, .int .i64 c, .int .i64 d, .int .i64 f]) (.int .i64 0)).run Try.prog w = .ok (.int .i64 a) w := by kernel_rfl
theorem idx1 (w : World) : (Instr.index 24 (.agg #[.int .i64 a, .int .i64 b, .int .i64 c, .int .i64 d, .int .i64 f]) (.int .i64 1)).run Try.prog w = .ok (.int .i64 b) w := by kernel_rfl
theorem idx2 (w : World) : (Instr.index 24 (.agg #[.int .i64 a, .int .i64 b, .int .i64 c, .int .i64 d, .int .i64 f]) (.int .i64 2)).run Try.prog w = .ok (.int .i64 c) w := by kernel_rfl
theorem idx3 (w : World) : (Instr.index 24 (.agg #[.int .i64 a, .int .i64 b, .int .i64 c, .int .i64 d, .int .i64 f]) (.int .i64 3)).run Try.prog w = .ok (.int .i64 d) w := by kernel_rfl
theorem idx4 (w : World) : (Instr.index 24 (.agg #[.int .i64 a, .int .i64 b, .int .i64 c, .int .i64 d, .int .i64 f]) (.int .i64 4)).run Try.prog w = .ok (.int .i64 f) w := by kernel_rfl
end
theorem run_max (P : Program) (w : World) (ts : Array TypeId) (t : TypeId) (k : IntKind) (x y : Int) : (Builtin.max_ ts t #[.int k x, .int k y]).run P w = .ok (.int k (max x y)) w := by
  simp [Builtin.max_, Builtin.max2]
  split <;> omega
attribute [local go_sem ↓] run_max
attribute [local go_sem] idx0 idx1 idx2 idx3 idx4

theorem fit_nil (C : Array Value) (hC : C.size = 5) (more : Value) (vital : Value) (w : World) :
    Calls Try.prog 11 #[.pointer none, .agg C, more, vital] w fun e w' => e = .returned (.int .i64 2) ∧ Below w.heap.size w w' := by
  go_enter Try.func11, Try.ntmps11
  go_wp2
  go_returns
  exact ⟨rfl, by go_grown⟩


def mayB (n : Int) : Bool := decide (0 ≤ n) && decide (n ≤ 1073741824)
theorem mayB_iff (n : Int) : mayB n = true ↔ Good n := by simp [mayB, Good]
theorem may_any (n : Int) (w : World) : Calls Try.prog 17 #[.int .i64 n] w fun e w' => e = .returned (.bool (mayB n)) ∧ w = w' := by
  by_cases h : Good n
  · rw [(mayB_iff n).2 h]
    exact may_yes n w h.1 h.2
  · have h' : mayB n = false := by
      cases hb : mayB n
      · rfl
      · exact absurd ((mayB_iff n).1 hb) h
    rw [h']
    refine may_no n w ?_
    unfold Good at h
    omega

set_option maxHeartbeats 1000000 in
theorem fit_arg (g : Nat) (a b c d f more : Int) (vital : Bool) (w : World) (hb : g < w.heap.size) (h : ¬ (Good a ∧ Good b ∧ Good c ∧ Good d ∧ Good f ∧ Good more)) :
    Calls Try.prog 11 #[.pointer (some ⟨g, 0, none⟩), .agg #[.int .i64 a, .int .i64 b, .int .i64 c, .int .i64 d, .int .i64 f], .int .i64 more, .bool vital] w fun e w' => e = .returned (.int .i64 1) ∧ Below w.heap.size w w' := by
  have H := Lib.hid h
  clear h
  go_enter Try.func11, Try.ntmps11
  go_wp2
  refine wp_loop_rounds 6 ?_
  repeat any_goals (rw [rounds_succ]; go_wp2_with (go_at_call 17; refine (may_any _ _).mono ?_; rintro e w' ⟨rfl, rfl⟩))
  all_goals first
    | (go_returns; exact ⟨rfl, by go_grown⟩)
    | (exfalso; apply H.out; simp only [← mayB_iff]; refine ⟨?_, ?_, ?_, ?_, ?_, ?_⟩ <;> simp_all; done)

def roomB (room reserve : Int) (vital : Bool) : Int := if vital then room else room - reserve

set_option maxHeartbeats 1000000 in
theorem fit_mem (g : Nat) (a b c d f more room reserve : Int) (vital : Bool) (w : World) (h0 : w.cell? ⟨g, 0, none⟩ = some (.int .i64 room)) (h1 : w.cell? ⟨g, 1, none⟩ = some (.int .i64 reserve))
    (ha : Good a) (hb : Good b) (hc : Good c) (hd : Good d) (hf : Good f) (hm : Good more) (hr : 0 ≤ reserve) (hr1 : reserve ≤ room) (hr2 : room ≤ 4096) (hs : roomB room reserve vital < a + b + c + d + f + more) :
    Calls Try.prog 11 #[.pointer (some ⟨g, 0, none⟩), .agg #[.int .i64 a, .int .i64 b, .int .i64 c, .int .i64 d, .int .i64 f], .int .i64 more, .bool vital] w fun e w' => e = .returned (.int .i64 20) ∧ Below w.heap.size w w' := by
  have hg := World.block_lt_of_cell? w _ h0
  simp only at hg
  obtain ⟨ha, ha'⟩ := ha; obtain ⟨hb, hb'⟩ := hb; obtain ⟨hc, hc'⟩ := hc; obtain ⟨hd, hd'⟩ := hd; obtain ⟨hf, hf'⟩ := hf; obtain ⟨hm, hm'⟩ := hm
  cases vital
  all_goals
    simp only [roomB, if_true, if_false, Bool.false_eq_true] at hs
    go_enter Try.func11, Try.ntmps11
    go_wp2
    refine wp_loop_rounds 6 ?_
    repeat any_goals (rw [rounds_succ]; go_wp2_with (first | (go_at_call 17; refine (may_yes _ _ (by omega) (by omega)).mono ?_; rintro e w' ⟨rfl, rfl⟩) | (go_at_call 10; refine (sum_any _ _ _ _ _ _ ⟨by omega, by omega⟩ ⟨by omega, by omega⟩ ⟨by omega, by omega⟩ ⟨by omega, by omega⟩ ⟨by omega, by omega⟩).mono ?_; rintro e w' ⟨rfl, rfl⟩)))
    go_returns
    exact ⟨rfl, by go_grown⟩

set_option maxHeartbeats 2000000 in
theorem fit_ok (g : Nat) (a b c d f more room reserve v0 v1 v2 v3 v4 : Int) (vital : Bool) (w : World) (hw : Blk w g 52 #[.int .i64 room, .int .i64 reserve, .int .i64 v0, .int .i64 v1, .int .i64 v2, .int .i64 v3, .int .i64 v4])
    (ha : Good a) (hb : Good b) (hc : Good c) (hd : Good d) (hf : Good f) (hm : Good more) (hr : 0 ≤ reserve) (hr1 : reserve ≤ room) (hr2 : room ≤ 4096) (hs : a + b + c + d + f + more ≤ roomB room reserve vital) :
    Calls Try.prog 11 #[.pointer (some ⟨g, 0, none⟩), .agg #[.int .i64 a, .int .i64 b, .int .i64 c, .int .i64 d, .int .i64 f], .int .i64 more, .bool vital] w fun e w' => e = .returned (.int .i64 0) ∧ Keep (· = g) w w' ∧
      Blk w' g 52 #[.int .i64 room, .int .i64 reserve, .int .i64 (max v0 a), .int .i64 (max v1 b), .int .i64 (max v2 c), .int .i64 (max v3 d), .int .i64 (max v4 f)] := by
  have hg : g < w.heap.size := hw.lt
  have h0 : w.cell? ⟨g, 0, none⟩ = some (.int .i64 room) := hw.cell _
  have h1 : w.cell? ⟨g, 1, none⟩ = some (.int .i64 reserve) := hw.cell _
  have h2 : w.cell? ⟨g, 2, none⟩ = some (.int .i64 v0) := hw.cell _
  have h3 : w.cell? ⟨g, 3, none⟩ = some (.int .i64 v1) := hw.cell _
  have h4 : w.cell? ⟨g, 4, none⟩ = some (.int .i64 v2) := hw.cell _
  have h5 : w.cell? ⟨g, 5, none⟩ = some (.int .i64 v3) := hw.cell _
  have h6 : w.cell? ⟨g, 6, none⟩ = some (.int .i64 v4) := hw.cell _
  have f2 : w.frozen? ⟨g, 2, none⟩ = false := hw.frozen _
  have f3 : w.frozen? ⟨g, 3, none⟩ = false := hw.frozen _
  have f4 : w.frozen? ⟨g, 4, none⟩ = false := hw.frozen _
  have f5 : w.frozen? ⟨g, 5, none⟩ = false := hw.frozen _
  have f6 : w.frozen? ⟨g, 6, none⟩ = false := hw.frozen _
  have HW := Lib.hid hw
  clear hw
  obtain ⟨ha, ha'⟩ := ha; obtain ⟨hb, hb'⟩ := hb; obtain ⟨hc, hc'⟩ := hc; obtain ⟨hd, hd'⟩ := hd; obtain ⟨hf, hf'⟩ := hf; obtain ⟨hm, hm'⟩ := hm
  cases vital
  all_goals
    simp only [roomB, if_true, if_false, Bool.false_eq_true] at hs
    go_enter Try.func11, Try.ntmps11
    go_wp2
    refine wp_loop_rounds 6 ?_
    repeat any_goals (rw [rounds_succ]; go_wp2_with (first | (go_at_call 17; refine (may_yes _ _ (by omega) (by omega)).mono ?_; rintro e w' ⟨rfl, rfl⟩) | (go_at_call 10; refine (sum_any _ _ _ _ _ _ ⟨by omega, by omega⟩ ⟨by omega, by omega⟩ ⟨by omega, by omega⟩ ⟨by omega, by omega⟩ ⟨by omega, by omega⟩).mono ?_; rintro e w' ⟨rfl, rfl⟩)))
    refine wp_loop_rounds 6 ?_
    iterate 5 (rw [rounds_succ]; go_wp2; go_region; go_wp2)
    rw [rounds_succ]
    go_wp2
    go_returns
    refine ⟨rfl, ?_, ?_⟩
    · (repeat (first | (with_reducible exact Keep.refl _ _) | (with_reducible assumption) | (with_reducible refine Keep.drew ?_) | (with_reducible refine Keep.drewN ?_ _) | (with_reducible refine Keep.alloc ?_ _) | (with_reducible refine Keep.setCell ?_ ?_ _) | (with_reducible refine fun _ => rfl)))
    · have hw := HW.out
      exact ((((((hw.set_ 2 _).set_ 3 _).set_ 4 _).set_ 5 _).set_ 6 _).alloc _).alloc _
end Go.Proofs.Ytfldnbmafbdpeaa
