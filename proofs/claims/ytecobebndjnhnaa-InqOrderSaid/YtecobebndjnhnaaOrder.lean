/- InqOrder returns true at every input: in which order events are. No conditions. -/
import Derived.Test.YtecobebndjnhnaaAwake
namespace Go.Proofs.Ytecobebndjnhnaa
open Go.RowKit
attribute [local go_sem ↓] Go.wp_at_zero Go.wp_at_succ
attribute [local go_sem ↓] run_eql_ev

set_option maxHeartbeats 4000000 in
set_option maxRecDepth 100000 in
theorem order_lt (p q r : Ev) (w : World) (y z : Int) (h1 : evLt p q = true) (hy : evCmp q r = y) (hz : evCmp p r = z) (hyz : y ≤ 0 → z ≤ 0) : Law Try.prog 3 #[p.val, q.val, r.val] w := by
  have h2 := evLt_asymm h1
  have C1 : Hid (∀ W, _) := Lib.hid fun W => compare_any p q W
  have C2 : Hid (∀ W, _) := Lib.hid fun W => compare_any q p W
  have C3 : Hid (∀ W, _) := Lib.hid fun W => compare_any q r W
  have C4 : Hid (∀ W, _) := Lib.hid fun W => compare_any p r W
  have A1 : Hid (∀ W, _) := Lib.hid fun W => ahead_any p q W
  have A2 : Hid (∀ W, _) := Lib.hid fun W => ahead_any q p W
  have e1 : evCmp p q = -1 := by simp [evCmp, h1]
  have e2 : evCmp q p = 1 := by simp [evCmp, h1, h2]
  have hne : evB p q = false := by
    cases hh : evB p q
    · rfl
    · have := (evB_iff p q).1 hh
      subst this
      rw [h1] at h2
      cases h2
  rw [e1] at C1
  rw [e2] at C2
  rw [hy] at C3
  rw [hz] at C4
  rw [h1] at A1
  rw [h2] at A2
  unfold evB at hne
  clear e1 e2 h1 h2 hy hz
  unfold Ev.val at C1 C2 C3 C4 A1 A2 ⊢
  unfold Law
  have f0 : Fresh w (((w.alloc (.cells #[.int .i64 p.a, .int .i64 p.s, .int .i64 p.t, .int .i64 p.n, .int .i64 p.d, .int .i64 p.k, .int .i64 p.x] 25)).alloc (.cells #[.int .i64 q.a, .int .i64 q.s, .int .i64 q.t, .int .i64 q.n, .int .i64 q.d, .int .i64 q.k, .int .i64 q.x] 25)).alloc (.cells #[.int .i64 r.a, .int .i64 r.s, .int .i64 r.t, .int .i64 r.n, .int .i64 r.d, .int .i64 r.k, .int .i64 r.x] 25)) := (((Keep.refl _ _).alloc _).alloc _).alloc _
  have bp : Blk (((w.alloc (.cells #[.int .i64 p.a, .int .i64 p.s, .int .i64 p.t, .int .i64 p.n, .int .i64 p.d, .int .i64 p.k, .int .i64 p.x] 25)).alloc (.cells #[.int .i64 q.a, .int .i64 q.s, .int .i64 q.t, .int .i64 q.n, .int .i64 q.d, .int .i64 q.k, .int .i64 q.x] 25)).alloc (.cells #[.int .i64 r.a, .int .i64 r.s, .int .i64 r.t, .int .i64 r.n, .int .i64 r.d, .int .i64 r.k, .int .i64 r.x] 25)) w.heap.size 25 #[.int .i64 p.a, .int .i64 p.s, .int .i64 p.t, .int .i64 p.n, .int .i64 p.d, .int .i64 p.k, .int .i64 p.x] := ((Blk.new w _ _).alloc _).alloc _
  have bq : Blk (((w.alloc (.cells #[.int .i64 p.a, .int .i64 p.s, .int .i64 p.t, .int .i64 p.n, .int .i64 p.d, .int .i64 p.k, .int .i64 p.x] 25)).alloc (.cells #[.int .i64 q.a, .int .i64 q.s, .int .i64 q.t, .int .i64 q.n, .int .i64 q.d, .int .i64 q.k, .int .i64 q.x] 25)).alloc (.cells #[.int .i64 r.a, .int .i64 r.s, .int .i64 r.t, .int .i64 r.n, .int .i64 r.d, .int .i64 r.k, .int .i64 r.x] 25)) (w.heap.size + 1) 25 #[.int .i64 q.a, .int .i64 q.s, .int .i64 q.t, .int .i64 q.n, .int .i64 q.d, .int .i64 q.k, .int .i64 q.x] := (Blk.at_new (by simp) _ _).alloc _
  have br : Blk (((w.alloc (.cells #[.int .i64 p.a, .int .i64 p.s, .int .i64 p.t, .int .i64 p.n, .int .i64 p.d, .int .i64 p.k, .int .i64 p.x] 25)).alloc (.cells #[.int .i64 q.a, .int .i64 q.s, .int .i64 q.t, .int .i64 q.n, .int .i64 q.d, .int .i64 q.k, .int .i64 q.x] 25)).alloc (.cells #[.int .i64 r.a, .int .i64 r.s, .int .i64 r.t, .int .i64 r.n, .int .i64 r.d, .int .i64 r.k, .int .i64 r.x] 25)) (w.heap.size + 1 + 1) 25 #[.int .i64 r.a, .int .i64 r.s, .int .i64 r.t, .int .i64 r.n, .int .i64 r.d, .int .i64 r.k, .int .i64 r.x] := Blk.at_new (by simp) _ _
  obtain ⟨W0, hW0⟩ : ∃ W0, (((w.alloc (.cells #[.int .i64 p.a, .int .i64 p.s, .int .i64 p.t, .int .i64 p.n, .int .i64 p.d, .int .i64 p.k, .int .i64 p.x] 25)).alloc (.cells #[.int .i64 q.a, .int .i64 q.s, .int .i64 q.t, .int .i64 q.n, .int .i64 q.d, .int .i64 q.k, .int .i64 q.x] 25)).alloc (.cells #[.int .i64 r.a, .int .i64 r.s, .int .i64 r.t, .int .i64 r.n, .int .i64 r.d, .int .i64 r.k, .int .i64 r.x] 25)) = W0 := ⟨_, rfl⟩
  have HW := Lib.hid hW0
  rw [hW0] at f0 bp bq br
  clear hW0
  have F0 := Lib.hid f0
  have BP := Lib.hid bp
  have BQ := Lib.hid bq
  have BR := Lib.hid br
  have HX := Lib.hid (show ∀ W, Fresh W0 W → Fresh w W from fun W f => F0.out.step f (fun _ _ h => h))
  clear f0 bp bq br
  go_enter Try.func3, Try.ntmps3
  go_wp2_with fail
  rw [HW.out]
  refine (C1.out _).mono ?_
  rintro e w1 ⟨rfl, f1⟩
  have F1 := Lib.hid f1
  have cp := (Fresh.blk_ f1 BP.out).cell
  have cq := (Fresh.blk_ f1 BQ.out).cell
  clear f1
  go_wp2_with fail
  refine (A1.out _).mono ?_
  rintro e w2 ⟨rfl, f2⟩
  have F2 := Lib.hid (F1.out.step f2 (fun _ _ h => h))
  clear f2 cp cq
  have cp := (Fresh.blk_ F2.out BP.out).cell
  have cq := (Fresh.blk_ F2.out BQ.out).cell
  go_wp2_with fail
  refine (A2.out _).mono ?_
  rintro e w3 ⟨rfl, f3⟩
  have F3 := Lib.hid (F2.out.step f3 (fun _ _ h => h))
  clear f3 cp cq
  have cp := (Fresh.blk_ F3.out BP.out).cell
  have cq := (Fresh.blk_ F3.out BQ.out).cell
  have cr := (Fresh.blk_ F3.out BR.out).cell
  go_wp2_with fail
  refine (C2.out _).mono ?_
  rintro e w4 ⟨rfl, f4⟩
  have F4 := Lib.hid (F3.out.step f4 (fun _ _ h => h))
  clear f4 cp cq cr
  have cp := (Fresh.blk_ F4.out BP.out).cell
  have cq := (Fresh.blk_ F4.out BQ.out).cell
  have cr := (Fresh.blk_ F4.out BR.out).cell
  go_wp2_with fail
  by_cases hy0 : 0 < y
  · have t1 : decide (0 < y) = true := decide_eq_true hy0
    refine (C3.out _).mono ?_
    rintro e w5 ⟨rfl, f5⟩
    have F5 := Lib.hid (F4.out.step f5 (fun _ _ h => h))
    clear f5 cp cq cr
    go_wp2_with fail
    refine (awake_any _).mono ?_
    rintro e w9 ⟨rfl, f9⟩
    have F9 := Lib.hid (F5.out.step f9 (fun _ _ h => h))
    clear f9
    go_wp2_with fail
    go_ret
    exact ⟨rfl, Fresh.below_ (HX.out _ F9.out) (Nat.le_refl _)⟩
  · have t1 : decide (0 < y) = false := decide_eq_false hy0
    have hz0 : z ≤ 0 := hyz (by omega)
    have t2 : decide (z ≤ 0) = true := decide_eq_true hz0
    refine (C3.out _).mono ?_
    rintro e w5 ⟨rfl, f5⟩
    have F5 := Lib.hid (F4.out.step f5 (fun _ _ h => h))
    clear f5 cp cq cr
    have cp := (Fresh.blk_ F5.out BP.out).cell
    have cq := (Fresh.blk_ F5.out BQ.out).cell
    have cr := (Fresh.blk_ F5.out BR.out).cell
    go_wp2_with fail
    refine (C4.out _).mono ?_
    rintro e w6 ⟨rfl, f6⟩
    have F6 := Lib.hid (F5.out.step f6 (fun _ _ h => h))
    clear f6 cp cq cr
    go_wp2_with fail
    refine (awake_any _).mono ?_
    rintro e w9 ⟨rfl, f9⟩
    have F9 := Lib.hid (F6.out.step f9 (fun _ _ h => h))
    clear f9
    go_wp2_with fail
    go_ret
    exact ⟨rfl, Fresh.below_ (HX.out _ F9.out) (Nat.le_refl _)⟩
set_option maxHeartbeats 4000000 in
set_option maxRecDepth 100000 in
theorem order_gt (p q r : Ev) (w : World) (h1 : evLt q p = true) : Law Try.prog 3 #[p.val, q.val, r.val] w := by
  have h2 := evLt_asymm h1
  have C1 : Hid (∀ W, _) := Lib.hid fun W => compare_any p q W
  have C2 : Hid (∀ W, _) := Lib.hid fun W => compare_any q p W
  have C3 : Hid (∀ W, _) := Lib.hid fun W => compare_any q r W
  have C4 : Hid (∀ W, _) := Lib.hid fun W => compare_any p r W
  have A1 : Hid (∀ W, _) := Lib.hid fun W => ahead_any p q W
  have A2 : Hid (∀ W, _) := Lib.hid fun W => ahead_any q p W
  have e1 : evCmp p q = 1 := by simp [evCmp, h1, h2]
  have e2 : evCmp q p = -1 := by simp [evCmp, h1]
  have hne : evB p q = false := by
    cases hh : evB p q
    · rfl
    · have := (evB_iff p q).1 hh
      subst this
      rw [h1] at h2
      cases h2
  rw [e1] at C1
  rw [e2] at C2
  rw [h2] at A1
  rw [h1] at A2
  unfold evB at hne
  clear e1 e2 h1 h2
  unfold Ev.val at C1 C2 C3 C4 A1 A2 ⊢
  unfold Law
  have f0 : Fresh w (((w.alloc (.cells #[.int .i64 p.a, .int .i64 p.s, .int .i64 p.t, .int .i64 p.n, .int .i64 p.d, .int .i64 p.k, .int .i64 p.x] 25)).alloc (.cells #[.int .i64 q.a, .int .i64 q.s, .int .i64 q.t, .int .i64 q.n, .int .i64 q.d, .int .i64 q.k, .int .i64 q.x] 25)).alloc (.cells #[.int .i64 r.a, .int .i64 r.s, .int .i64 r.t, .int .i64 r.n, .int .i64 r.d, .int .i64 r.k, .int .i64 r.x] 25)) := (((Keep.refl _ _).alloc _).alloc _).alloc _
  have bp : Blk (((w.alloc (.cells #[.int .i64 p.a, .int .i64 p.s, .int .i64 p.t, .int .i64 p.n, .int .i64 p.d, .int .i64 p.k, .int .i64 p.x] 25)).alloc (.cells #[.int .i64 q.a, .int .i64 q.s, .int .i64 q.t, .int .i64 q.n, .int .i64 q.d, .int .i64 q.k, .int .i64 q.x] 25)).alloc (.cells #[.int .i64 r.a, .int .i64 r.s, .int .i64 r.t, .int .i64 r.n, .int .i64 r.d, .int .i64 r.k, .int .i64 r.x] 25)) w.heap.size 25 #[.int .i64 p.a, .int .i64 p.s, .int .i64 p.t, .int .i64 p.n, .int .i64 p.d, .int .i64 p.k, .int .i64 p.x] := ((Blk.new w _ _).alloc _).alloc _
  have bq : Blk (((w.alloc (.cells #[.int .i64 p.a, .int .i64 p.s, .int .i64 p.t, .int .i64 p.n, .int .i64 p.d, .int .i64 p.k, .int .i64 p.x] 25)).alloc (.cells #[.int .i64 q.a, .int .i64 q.s, .int .i64 q.t, .int .i64 q.n, .int .i64 q.d, .int .i64 q.k, .int .i64 q.x] 25)).alloc (.cells #[.int .i64 r.a, .int .i64 r.s, .int .i64 r.t, .int .i64 r.n, .int .i64 r.d, .int .i64 r.k, .int .i64 r.x] 25)) (w.heap.size + 1) 25 #[.int .i64 q.a, .int .i64 q.s, .int .i64 q.t, .int .i64 q.n, .int .i64 q.d, .int .i64 q.k, .int .i64 q.x] := (Blk.at_new (by simp) _ _).alloc _
  have br : Blk (((w.alloc (.cells #[.int .i64 p.a, .int .i64 p.s, .int .i64 p.t, .int .i64 p.n, .int .i64 p.d, .int .i64 p.k, .int .i64 p.x] 25)).alloc (.cells #[.int .i64 q.a, .int .i64 q.s, .int .i64 q.t, .int .i64 q.n, .int .i64 q.d, .int .i64 q.k, .int .i64 q.x] 25)).alloc (.cells #[.int .i64 r.a, .int .i64 r.s, .int .i64 r.t, .int .i64 r.n, .int .i64 r.d, .int .i64 r.k, .int .i64 r.x] 25)) (w.heap.size + 1 + 1) 25 #[.int .i64 r.a, .int .i64 r.s, .int .i64 r.t, .int .i64 r.n, .int .i64 r.d, .int .i64 r.k, .int .i64 r.x] := Blk.at_new (by simp) _ _
  obtain ⟨W0, hW0⟩ : ∃ W0, (((w.alloc (.cells #[.int .i64 p.a, .int .i64 p.s, .int .i64 p.t, .int .i64 p.n, .int .i64 p.d, .int .i64 p.k, .int .i64 p.x] 25)).alloc (.cells #[.int .i64 q.a, .int .i64 q.s, .int .i64 q.t, .int .i64 q.n, .int .i64 q.d, .int .i64 q.k, .int .i64 q.x] 25)).alloc (.cells #[.int .i64 r.a, .int .i64 r.s, .int .i64 r.t, .int .i64 r.n, .int .i64 r.d, .int .i64 r.k, .int .i64 r.x] 25)) = W0 := ⟨_, rfl⟩
  have HW := Lib.hid hW0
  rw [hW0] at f0 bp bq br
  clear hW0
  have F0 := Lib.hid f0
  have BP := Lib.hid bp
  have BQ := Lib.hid bq
  have BR := Lib.hid br
  have HX := Lib.hid (show ∀ W, Fresh W0 W → Fresh w W from fun W f => F0.out.step f (fun _ _ h => h))
  clear f0 bp bq br
  go_enter Try.func3, Try.ntmps3
  go_wp2_with fail
  rw [HW.out]
  refine (C1.out _).mono ?_
  rintro e w1 ⟨rfl, f1⟩
  have F1 := Lib.hid f1
  have cp := (Fresh.blk_ f1 BP.out).cell
  have cq := (Fresh.blk_ f1 BQ.out).cell
  clear f1
  go_wp2_with fail
  refine (A1.out _).mono ?_
  rintro e w2 ⟨rfl, f2⟩
  have F2 := Lib.hid (F1.out.step f2 (fun _ _ h => h))
  clear f2 cp cq
  have cp := (Fresh.blk_ F2.out BP.out).cell
  have cq := (Fresh.blk_ F2.out BQ.out).cell
  go_wp2_with fail
  refine (A2.out _).mono ?_
  rintro e w3 ⟨rfl, f3⟩
  have F3 := Lib.hid (F2.out.step f3 (fun _ _ h => h))
  clear f3 cp cq
  have cp := (Fresh.blk_ F3.out BP.out).cell
  have cq := (Fresh.blk_ F3.out BQ.out).cell
  have cr := (Fresh.blk_ F3.out BR.out).cell
  go_wp2_with fail
  refine (C2.out _).mono ?_
  rintro e w4 ⟨rfl, f4⟩
  have F4 := Lib.hid (F3.out.step f4 (fun _ _ h => h))
  clear f4 cp cq cr
  have cp := (Fresh.blk_ F4.out BP.out).cell
  have cq := (Fresh.blk_ F4.out BQ.out).cell
  have cr := (Fresh.blk_ F4.out BR.out).cell
  go_wp2_with fail
  refine (awake_any _).mono ?_
  rintro e w9 ⟨rfl, f9⟩
  have F9 := Lib.hid (F4.out.step f9 (fun _ _ h => h))
  clear f9
  go_wp2_with fail
  go_ret
  exact ⟨rfl, Fresh.below_ (HX.out _ F9.out) (Nat.le_refl _)⟩
set_option maxHeartbeats 4000000 in
set_option maxRecDepth 100000 in
theorem order_eq (p r : Ev) (w : World) (y z : Int) (hy : evCmp p r = y) (hz : evCmp p r = z) (hyz : y ≤ 0 → z ≤ 0) : Law Try.prog 3 #[p.val, p.val, r.val] w := by
  have h1 := evLt_irrefl p
  have C1 : Hid (∀ W, _) := Lib.hid fun W => compare_any p p W
  have C2 : Hid (∀ W, _) := Lib.hid fun W => compare_any p p W
  have C3 : Hid (∀ W, _) := Lib.hid fun W => compare_any p r W
  have C4 : Hid (∀ W, _) := Lib.hid fun W => compare_any p r W
  have A1 : Hid (∀ W, _) := Lib.hid fun W => ahead_any p p W
  have A2 : Hid (∀ W, _) := Lib.hid fun W => ahead_any p p W
  have e1 : evCmp p p = 0 := by simp [evCmp, h1]
  rw [e1] at C1
  rw [e1] at C2
  rw [hy] at C3
  rw [hz] at C4
  rw [h1] at A1
  rw [h1] at A2
  clear e1 h1 hy hz
  unfold Ev.val at C1 C2 C3 C4 A1 A2 ⊢
  unfold Law
  have f0 : Fresh w (((w.alloc (.cells #[.int .i64 p.a, .int .i64 p.s, .int .i64 p.t, .int .i64 p.n, .int .i64 p.d, .int .i64 p.k, .int .i64 p.x] 25)).alloc (.cells #[.int .i64 p.a, .int .i64 p.s, .int .i64 p.t, .int .i64 p.n, .int .i64 p.d, .int .i64 p.k, .int .i64 p.x] 25)).alloc (.cells #[.int .i64 r.a, .int .i64 r.s, .int .i64 r.t, .int .i64 r.n, .int .i64 r.d, .int .i64 r.k, .int .i64 r.x] 25)) := (((Keep.refl _ _).alloc _).alloc _).alloc _
  have bp : Blk (((w.alloc (.cells #[.int .i64 p.a, .int .i64 p.s, .int .i64 p.t, .int .i64 p.n, .int .i64 p.d, .int .i64 p.k, .int .i64 p.x] 25)).alloc (.cells #[.int .i64 p.a, .int .i64 p.s, .int .i64 p.t, .int .i64 p.n, .int .i64 p.d, .int .i64 p.k, .int .i64 p.x] 25)).alloc (.cells #[.int .i64 r.a, .int .i64 r.s, .int .i64 r.t, .int .i64 r.n, .int .i64 r.d, .int .i64 r.k, .int .i64 r.x] 25)) w.heap.size 25 #[.int .i64 p.a, .int .i64 p.s, .int .i64 p.t, .int .i64 p.n, .int .i64 p.d, .int .i64 p.k, .int .i64 p.x] := ((Blk.new w _ _).alloc _).alloc _
  have bq : Blk (((w.alloc (.cells #[.int .i64 p.a, .int .i64 p.s, .int .i64 p.t, .int .i64 p.n, .int .i64 p.d, .int .i64 p.k, .int .i64 p.x] 25)).alloc (.cells #[.int .i64 p.a, .int .i64 p.s, .int .i64 p.t, .int .i64 p.n, .int .i64 p.d, .int .i64 p.k, .int .i64 p.x] 25)).alloc (.cells #[.int .i64 r.a, .int .i64 r.s, .int .i64 r.t, .int .i64 r.n, .int .i64 r.d, .int .i64 r.k, .int .i64 r.x] 25)) (w.heap.size + 1) 25 #[.int .i64 p.a, .int .i64 p.s, .int .i64 p.t, .int .i64 p.n, .int .i64 p.d, .int .i64 p.k, .int .i64 p.x] := (Blk.at_new (by simp) _ _).alloc _
  have br : Blk (((w.alloc (.cells #[.int .i64 p.a, .int .i64 p.s, .int .i64 p.t, .int .i64 p.n, .int .i64 p.d, .int .i64 p.k, .int .i64 p.x] 25)).alloc (.cells #[.int .i64 p.a, .int .i64 p.s, .int .i64 p.t, .int .i64 p.n, .int .i64 p.d, .int .i64 p.k, .int .i64 p.x] 25)).alloc (.cells #[.int .i64 r.a, .int .i64 r.s, .int .i64 r.t, .int .i64 r.n, .int .i64 r.d, .int .i64 r.k, .int .i64 r.x] 25)) (w.heap.size + 1 + 1) 25 #[.int .i64 r.a, .int .i64 r.s, .int .i64 r.t, .int .i64 r.n, .int .i64 r.d, .int .i64 r.k, .int .i64 r.x] := Blk.at_new (by simp) _ _
  obtain ⟨W0, hW0⟩ : ∃ W0, (((w.alloc (.cells #[.int .i64 p.a, .int .i64 p.s, .int .i64 p.t, .int .i64 p.n, .int .i64 p.d, .int .i64 p.k, .int .i64 p.x] 25)).alloc (.cells #[.int .i64 p.a, .int .i64 p.s, .int .i64 p.t, .int .i64 p.n, .int .i64 p.d, .int .i64 p.k, .int .i64 p.x] 25)).alloc (.cells #[.int .i64 r.a, .int .i64 r.s, .int .i64 r.t, .int .i64 r.n, .int .i64 r.d, .int .i64 r.k, .int .i64 r.x] 25)) = W0 := ⟨_, rfl⟩
  have HW := Lib.hid hW0
  rw [hW0] at f0 bp bq br
  clear hW0
  have F0 := Lib.hid f0
  have BP := Lib.hid bp
  have BQ := Lib.hid bq
  have BR := Lib.hid br
  have HX := Lib.hid (show ∀ W, Fresh W0 W → Fresh w W from fun W f => F0.out.step f (fun _ _ h => h))
  clear f0 bp bq br
  go_enter Try.func3, Try.ntmps3
  go_wp2_with fail
  rw [HW.out]
  refine (C1.out _).mono ?_
  rintro e w1 ⟨rfl, f1⟩
  have F1 := Lib.hid f1
  have cp := (Fresh.blk_ f1 BP.out).cell
  have cq := (Fresh.blk_ f1 BQ.out).cell
  clear f1
  go_wp2_with fail
  refine (A1.out _).mono ?_
  rintro e w2 ⟨rfl, f2⟩
  have F2 := Lib.hid (F1.out.step f2 (fun _ _ h => h))
  clear f2 cp cq
  have cp := (Fresh.blk_ F2.out BP.out).cell
  have cq := (Fresh.blk_ F2.out BQ.out).cell
  go_wp2_with fail
  refine (A2.out _).mono ?_
  rintro e w3 ⟨rfl, f3⟩
  have F3 := Lib.hid (F2.out.step f3 (fun _ _ h => h))
  clear f3 cp cq
  have cp := (Fresh.blk_ F3.out BP.out).cell
  have cq := (Fresh.blk_ F3.out BQ.out).cell
  have cr := (Fresh.blk_ F3.out BR.out).cell
  go_wp2_with fail
  refine (C2.out _).mono ?_
  rintro e w4 ⟨rfl, f4⟩
  have F4 := Lib.hid (F3.out.step f4 (fun _ _ h => h))
  clear f4 cp cq cr
  have cp := (Fresh.blk_ F4.out BP.out).cell
  have cq := (Fresh.blk_ F4.out BQ.out).cell
  have cr := (Fresh.blk_ F4.out BR.out).cell
  go_wp2_with fail
  by_cases hy0 : 0 < y
  · have t1 : decide (0 < y) = true := decide_eq_true hy0
    refine (C3.out _).mono ?_
    rintro e w5 ⟨rfl, f5⟩
    have F5 := Lib.hid (F4.out.step f5 (fun _ _ h => h))
    clear f5 cp cq cr
    go_wp2_with fail
    refine (awake_any _).mono ?_
    rintro e w9 ⟨rfl, f9⟩
    have F9 := Lib.hid (F5.out.step f9 (fun _ _ h => h))
    clear f9
    go_wp2_with fail
    go_ret
    exact ⟨rfl, Fresh.below_ (HX.out _ F9.out) (Nat.le_refl _)⟩
  · have t1 : decide (0 < y) = false := decide_eq_false hy0
    have hz0 : z ≤ 0 := hyz (by omega)
    have t2 : decide (z ≤ 0) = true := decide_eq_true hz0
    refine (C3.out _).mono ?_
    rintro e w5 ⟨rfl, f5⟩
    have F5 := Lib.hid (F4.out.step f5 (fun _ _ h => h))
    clear f5 cp cq cr
    have cp := (Fresh.blk_ F5.out BP.out).cell
    have cq := (Fresh.blk_ F5.out BQ.out).cell
    have cr := (Fresh.blk_ F5.out BR.out).cell
    go_wp2_with fail
    refine (C4.out _).mono ?_
    rintro e w6 ⟨rfl, f6⟩
    have F6 := Lib.hid (F5.out.step f6 (fun _ _ h => h))
    clear f6 cp cq cr
    go_wp2_with fail
    refine (awake_any _).mono ?_
    rintro e w9 ⟨rfl, f9⟩
    have F9 := Lib.hid (F6.out.step f9 (fun _ _ h => h))
    clear f9
    go_wp2_with fail
    go_ret
    exact ⟨rfl, Fresh.below_ (HX.out _ F9.out) (Nat.le_refl _)⟩
theorem evCmp_le (p q : Ev) : evCmp p q ≤ 0 ↔ evLt q p = false := by
  unfold evCmp
  cases h : evLt p q
  · cases h2 : evLt q p <;> simp
  · have := evLt_asymm h
    simp [this]
theorem order_any (p q r : Ev) (w : World) : Law Try.prog 3 #[p.val, q.val, r.val] w := by
  cases h1 : evLt p q
  · cases h2 : evLt q p
    · obtain rfl := evLt_total h1 h2
      exact order_eq p r w _ _ rfl rfl (fun h => h)
    · exact order_gt p q r w h2
  · refine order_lt p q r w _ _ h1 rfl rfl (fun hy => ?_)
    rw [evCmp_le] at hy ⊢
    cases h3 : evLt r p
    · rfl
    · have := evLt_trans h3 h1
      rw [hy] at this
      cases this
open Go.ChangeShapes Go.WideShapes Go.ChangeAt
set_option maxRecDepth 100000 in
theorem inqOrder_lifted (os : Os) (started : os.Started) (H : Type) (enc : TypeId × Value → H) :
    ReturnsInHanded {} Try.checked os 3 .any (Rows.inqOrderSpec.pre6 enc Try.prog Try.f3 Rows.inqOrderRow.domain false) (Rows.inqOrderSpec.post enc Try.prog Try.f3 false true false false) := by
  refine law_lifted (C := Try.checked) (tb := 4) (by kernel_rfl) (by kernel_rfl) started (by kernel_rfl) Try.func3 rfl ?_ rfl Try.underlying4 (by kernel_rfl)
    (ChangeSpec.witness6 (enc := enc) (C := Try.checked) false ⟨#[], #[.agg #[.int .i64 0, .int .i64 0, .int .i64 0, .int .i64 0, .int .i64 0, .int .i64 0, .int .i64 0], .agg #[.int .i64 0, .int .i64 0, .int .i64 0, .int .i64 0, .int .i64 0, .int .i64 0, .int .i64 0], .agg #[.int .i64 0, .int .i64 0, .int .i64 0, .int .i64 0, .int .i64 0, .int .i64 0, .int .i64 0]], []⟩ 12 (by kernel_rfl) (by kernel_rfl) (by kernel_rfl) (by kernel_rfl)) ?_
  · intro ds hds
    match ds, hds with
    | [e0, e1, e2], _ => rfl
  · intro W base args ds p hval hA hreach
    rw [Try.params3] at hA hval hreach
    obtain ⟨v0, vs0, d0, ds0, p0, q0, hargs, rfl, rfl, h0, r0⟩ := trodAll_cons hA
    obtain ⟨v1, vs1, d1, ds1, p1, q1, rfl, rfl, rfl, h1, r1⟩ := trodAll_cons r0
    obtain ⟨v2, vs2, d2, ds2, p2, q2, rfl, rfl, rfl, h2, r2⟩ := trodAll_cons r1
    obtain ⟨rfl, rfl, rfl⟩ := trodAll_nil r2
    obtain rfl : args = #[v0, v1, v2] := by cases args; simp_all
    obtain ⟨l0, rfl, hl0⟩ := arg_struct (n := 6) Try.underlying25 (by kernel_rfl) (hval 0 25 v0 rfl rfl) h0
    have hfl : flat Try.prog 6 25 = [3, 3, 3, 3, 3, 3, 3] := by kernel_rfl
    rw [hfl] at hl0; clear hfl
    obtain ⟨a0, l1, e1, w_a0, hl1⟩ := all2_int Try.underlying3 hl0
    obtain ⟨a1, l2, e2, w_a1, hl2⟩ := all2_int Try.underlying3 hl1
    obtain ⟨a2, l3, e3, w_a2, hl3⟩ := all2_int Try.underlying3 hl2
    obtain ⟨a3, l4, e4, w_a3, hl4⟩ := all2_int Try.underlying3 hl3
    obtain ⟨a4, l5, e5, w_a4, hl5⟩ := all2_int Try.underlying3 hl4
    obtain ⟨a5, l6, e6, w_a5, hl6⟩ := all2_int Try.underlying3 hl5
    obtain ⟨a6, l7, e7, w_a6, hl7⟩ := all2_int Try.underlying3 hl6
    obtain rfl := all2_nil hl7
    subst e7 e6 e5 e4 e3 e2 e1
    clear hl7 hl6 hl5 hl4 hl3 hl2 hl1 hl0
    obtain ⟨l0, rfl, hl0⟩ := arg_struct (n := 6) Try.underlying25 (by kernel_rfl) (hval 1 25 v1 rfl rfl) h1
    have hfl : flat Try.prog 6 25 = [3, 3, 3, 3, 3, 3, 3] := by kernel_rfl
    rw [hfl] at hl0; clear hfl
    obtain ⟨b0, l1, e1, w_b0, hl1⟩ := all2_int Try.underlying3 hl0
    obtain ⟨b1, l2, e2, w_b1, hl2⟩ := all2_int Try.underlying3 hl1
    obtain ⟨b2, l3, e3, w_b2, hl3⟩ := all2_int Try.underlying3 hl2
    obtain ⟨b3, l4, e4, w_b3, hl4⟩ := all2_int Try.underlying3 hl3
    obtain ⟨b4, l5, e5, w_b4, hl5⟩ := all2_int Try.underlying3 hl4
    obtain ⟨b5, l6, e6, w_b5, hl6⟩ := all2_int Try.underlying3 hl5
    obtain ⟨b6, l7, e7, w_b6, hl7⟩ := all2_int Try.underlying3 hl6
    obtain rfl := all2_nil hl7
    subst e7 e6 e5 e4 e3 e2 e1
    clear hl7 hl6 hl5 hl4 hl3 hl2 hl1 hl0
    obtain ⟨l0, rfl, hl0⟩ := arg_struct (n := 6) Try.underlying25 (by kernel_rfl) (hval 2 25 v2 rfl rfl) h2
    have hfl : flat Try.prog 6 25 = [3, 3, 3, 3, 3, 3, 3] := by kernel_rfl
    rw [hfl] at hl0; clear hfl
    obtain ⟨c0, l1, e1, w_c0, hl1⟩ := all2_int Try.underlying3 hl0
    obtain ⟨c1, l2, e2, w_c1, hl2⟩ := all2_int Try.underlying3 hl1
    obtain ⟨c2, l3, e3, w_c2, hl3⟩ := all2_int Try.underlying3 hl2
    obtain ⟨c3, l4, e4, w_c3, hl4⟩ := all2_int Try.underlying3 hl3
    obtain ⟨c4, l5, e5, w_c4, hl5⟩ := all2_int Try.underlying3 hl4
    obtain ⟨c5, l6, e6, w_c5, hl6⟩ := all2_int Try.underlying3 hl5
    obtain ⟨c6, l7, e7, w_c6, hl7⟩ := all2_int Try.underlying3 hl6
    obtain rfl := all2_nil hl7
    subst e7 e6 e5 e4 e3 e2 e1
    clear hl7 hl6 hl5 hl4 hl3 hl2 hl1 hl0
    exact order_any ⟨a0, a1, a2, a3, a4, a5, a6⟩ ⟨b0, b1, b2, b3, b4, b5, b6⟩ ⟨c0, c1, c2, c3, c4, c5, c6⟩ W

theorem inqOrder_holds : Rows.InqOrderSaid :=
  OpenClaim.holds_of_wide 3 Try.f3 rfl rfl rfl rfl rfl rfl rfl ⟨rfl, rfl, rfl, rfl, rfl⟩ rfl rfl rfl rfl rfl (by kernel_rfl) Try.func3 (by kernel_rfl)
    (of_decide_eq_true (by kernel_rfl)) (by unfold Func.isWrapper; first | (rw [if_pos (by decide +kernel)]; kernel_rfl) | (rw [if_neg (by decide +kernel)]; exact ⟨rfl, rfl⟩))
    (fun os started H enc _ => inqOrder_lifted os started H enc)
end Go.Proofs.Ytecobebndjnhnaa
