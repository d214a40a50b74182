/-
  The chapter's example.
-/
import Derived.Test.YtfckbgifmajbjaaDoes5
namespace Go.Proofs.Ytfckbgifmajbjaa
open Go.RowKit
attribute [local go_sem ↓] Go.wp_at_zero Go.wp_at_succ run_min run_max

set_option maxHeartbeats 2000000 in
theorem awake_any (w : World) : Calls Try.prog 10 #[] w fun e w' => e = .returned (.bool true) ∧ Fresh w w' := by
  go_enter Try.func10, Try.ntmps10
  go_wp2_with fail
  refine (new_any 3 (by omega) (by omega) _).mono ?_
  rintro e w1 ⟨g, gs, off, cap, rfl, a1, f1, n1, n2⟩
  have A1 := Lib.hid a1
  have F1 := Lib.hid f1
  clear a1 f1
  go_wp2_with fail
  refine (push_any g gs off cap 3 [] 1 7 _ A1.out).mono ?_
  rintro e w2 ⟨rfl, a2, k2⟩
  have A2 : Hid (Held g gs off cap 3 [(1, 7)] w2) := a2
  have F2 : Hid (Fresh w w2) := F1.out.step k2 (fun i hi e => by rcases e with rfl | rfl <;> omega)
  clear a2 k2
  go_wp2_with fail
  refine (push_any g gs off cap 3 [(1, 7)] 4 8 _ A2.out).mono ?_
  rintro e w3 ⟨rfl, a3, k3⟩
  have A3 : Hid (Held g gs off cap 3 [(1, 7), (4, 8)] w3) := a3
  have F3 : Hid (Fresh w w3) := F2.out.step k3 (fun i hi e => by rcases e with rfl | rfl <;> omega)
  clear a3 k3
  go_wp2_with fail
  refine (push_any g gs off cap 3 [(1, 7), (4, 8)] 4 9 _ A3.out).mono ?_
  rintro e w4 ⟨rfl, a4, k4⟩
  have A4 : Hid (Held g gs off cap 3 [(1, 7), (4, 8), (4, 9)] w4) := a4
  have F4 : Hid (Fresh w w4) := F3.out.step k4 (fun i hi e => by rcases e with rfl | rfl <;> omega)
  clear a4 k4
  have HU : Hid (Calls Try.prog 16 #[.pointer (some ⟨g, 0, none⟩), .int .i64 3] w4 fun e w' => e = .returned (.tuple #[.int .i64 1, .int .i64 7, .int .i64 0]) ∧ Fresh w4 w') := upto_held A4.out 3
  go_wp2_with fail
  with_reducible refine HU.out.mono ?_
  rintro e w5 ⟨rfl, f5⟩
  have A5 := Lib.hid (A4.out.fresh f5)
  have F5 : Hid (Fresh w w5) := F4.out.step f5 (fun _ _ h => h)
  clear f5
  have HB : Hid (Calls Try.prog 19 #[.pointer (some ⟨g, 0, none⟩), .int .i64 4] w5 fun e w' => ∃ v, e = .returned v ∧ Given w5 w' v [9, 8] ∧ Held g gs off cap 3 [(1, 7)] w' ∧ Keep (fun k => k = g ∨ k = gs) w5 w') := back_any g gs off cap 3 _ 4 w5 A5.out
  go_wp2_with fail
  with_reducible refine HB.out.mono ?_
  rintro e w6 ⟨v, rfl, g6, a6, k6⟩
  have A6 := Lib.hid a6
  have F6 : Hid (Fresh w w6) := F5.out.step k6 (fun i hi e => by rcases e with rfl | rfl <;> omega)
  obtain ⟨A, c, rfl, _, hc⟩ := g6.1.shape
  have hc : c ≤ 9223372036854775807 := by unfold maxLen at hc; omega
  have I6 : Hid (IntsAt w6 A [9, 8]) := IntsAt.own (l := [9, 8]) g6.1
  have fx : Fresh w6 (w6.alloc (.cells #[.int .i64 9, .int .i64 8] 3)) := (Keep.refl _ _).alloc _
  have IX : Hid (IntsAt (w6.alloc (.cells #[.int .i64 9, .int .i64 8] 3)) (some ⟨w6.heap.size, 0, none⟩) [9, 8]) := IntsAt.blk (Blk.new w6 3 #[.int .i64 9, .int .i64 8]) rfl
  have IN : Hid (Calls Try.prog 25 #[.slice A 2 c, .slice (some ⟨w6.heap.size, 0, none⟩) 2 2] (w6.alloc (.cells #[.int .i64 9, .int .i64 8] 3)) fun e w' => e = .returned (.bool true) ∧ Fresh (w6.alloc (.cells #[.int .i64 9, .int .i64 8] 3)) w') := (ints_any A (some ⟨w6.heap.size, 0, none⟩) c 2 [9, 8] _ (I6.out.fresh fx) IX.out (by simp))
  have FX := Lib.hid fx
  clear a6 k6 g6 fx
  go_wp2_with fail
  with_reducible refine IN.out.mono ?_
  rintro e w7 ⟨rfl, f7⟩
  have A7 := Lib.hid ((A6.out.fresh FX.out).fresh f7)
  have F7 : Hid (Fresh w w7) := (F6.out.step FX.out (fun _ _ h => h)).step f7 (fun _ _ h => h)
  clear f7
  have HP : Hid (Calls Try.prog 24 #[.pointer (some ⟨g, 0, none⟩), .int .i64 0, .int .i64 5] w7 fun e w' => e = .returned (.int .i64 18) ∧ Held g gs off cap 3 [(1, 7)] w' ∧ Keep (fun k => k = g ∨ k = gs) w7 w') := push_any g gs off cap 3 [(1, 7)] 0 5 _ A7.out
  go_wp2_with fail
  with_reducible refine HP.out.mono ?_
  rintro e w8 ⟨rfl, a8, k8⟩
  have A8 := Lib.hid a8
  have F8 : Hid (Fresh w w8) := F7.out.step k8 (fun i hi e => by rcases e with rfl | rfl <;> omega)
  clear a8 k8
  have HR : Hid (Calls Try.prog 21 #[.pointer (some ⟨g, 0, none⟩)] w8 fun e w' => e = .returned (.int .i64 2) ∧ Fresh w8 w') := room_held A8.out
  go_wp2_with fail
  with_reducible refine HR.out.mono ?_
  rintro e w9 ⟨rfl, f9⟩
  have F9 : Hid (Fresh w w9) := F8.out.step f9 (fun _ _ h => h)
  clear f9
  go_wp2_with fail
  go_ret
  exact ⟨rfl, F9.out⟩
end Go.Proofs.Ytfckbgifmajbjaa
