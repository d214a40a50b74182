/-
  inq.Queue: Has.
-/
import Derived.Test.YtecobebndjnhnaaCount
namespace Go.Proofs.Ytecobebndjnhnaa
open Go.RowKit Go.Shelf
attribute [local go_sem ↓] Go.wp_at_zero Go.wp_at_succ

set_option maxHeartbeats 1000000 in
set_option maxRecDepth 100000 in
theorem has_any (g : Nat) (v1 v2 : Value) (l m : List Ev) (x : Ev) (w : World) (h : SQ w g v1 v2 l m) (hl : l.length ≤ 100000) (hm : m.length ≤ 100000) :
    Calls Try.prog 15 #[.pointer (some ⟨g, 0, none⟩), x.val] w fun e w' => e = .returned (.int .i64 ((cnt l x : Int) - (cnt m x : Int))) ∧ Fresh w w' := by
  have H1 : Hid (∀ W, Fresh w W → _) := Lib.hid fun W (f : Fresh w W) => count_any g 0 v1 l x W ((h.fresh f).blk.cell_ 0 rfl) (h.fresh f).own1 hl
  have H2 : Hid (∀ W, Fresh w W → _) := Lib.hid fun W (f : Fresh w W) => count_any g 1 v2 m x W ((h.fresh f).blk.cell_ 1 rfl) (h.fresh f).own2 hm
  have c1 : cnt l x ≤ l.length := List.countP_le_length
  have c2 : cnt m x ≤ m.length := List.countP_le_length
  generalize cnt l x = n1 at H1 c1 ⊢
  generalize cnt m x = n2 at H2 c2 ⊢
  have hw1 : IntKind.i64.wrap ((n1 : Int) - (n2 : Int)) = (n1 : Int) - (n2 : Int) := by rw [IntKind.wrap_i64]; omega
  clear h
  unfold Ev.val at H1 H2 ⊢
  go_enter Try.func15, Try.ntmps15
  go_wp2_with fail
  have f0 : Fresh w (w.alloc (.cells #[.int .i64 x.a, .int .i64 x.s, .int .i64 x.t, .int .i64 x.n, .int .i64 x.d, .int .i64 x.k, .int .i64 x.x] 25)) := (Keep.refl _ _).alloc _
  have b0 := Blk.new w 25 #[.int .i64 x.a, .int .i64 x.s, .int .i64 x.t, .int .i64 x.n, .int .i64 x.d, .int .i64 x.k, .int .i64 x.x]
  obtain ⟨W0, hW0⟩ : ∃ W0, w.alloc (.cells #[.int .i64 x.a, .int .i64 x.s, .int .i64 x.t, .int .i64 x.n, .int .i64 x.d, .int .i64 x.k, .int .i64 x.x] 25) = W0 := ⟨_, rfl⟩
  rw [hW0] at f0 b0 ⊢
  have F0 := Lib.hid f0
  have B0 := Lib.hid b0
  have d1 := fun (W : World) (f : Fresh W0 W) (i : Nat) => (Fresh.blk_ f B0.out).cell i
  have HX := Lib.hid (show ∀ W, Fresh W0 W → Fresh w W from fun W f => F0.out.step f (fun _ _ h => h))
  clear f0 b0 hW0
  go_region_held3 (fun W' => Fresh W0 W') (exact (fun (f : Fresh W0 _) => f) (by (repeat (first | (with_reducible exact Keep.refl _ _) | (with_reducible assumption) | (with_reducible refine Keep.drew ?_) | (with_reducible refine Keep.drewN ?_ _) | (with_reducible refine Keep.alloc ?_ _) | (with_reducible refine Keep.setCell ?_ ?_ _) | (with_reducible refine fun _ => rfl)))))
    ((first
      | (go_at_call 38; (with_reducible refine (H1.out _ (HX.out _ (by (repeat (first | (with_reducible exact Keep.refl _ _) | (with_reducible assumption) | (with_reducible refine Keep.drew ?_) | (with_reducible refine Keep.drewN ?_ _) | (with_reducible refine Keep.alloc ?_ _) | (with_reducible refine Keep.setCell ?_ ?_ _) | (with_reducible refine fun _ => rfl)))))).mono ?_); rintro en1 w1 ⟨rfl, f1⟩; have f2 := Keep.step (S := fun _ => False) (by (repeat (first | (with_reducible exact Keep.refl _ _) | (with_reducible assumption) | (with_reducible refine Keep.drew ?_) | (with_reducible refine Keep.drewN ?_ _) | (with_reducible refine Keep.alloc ?_ _) | (with_reducible refine Keep.setCell ?_ ?_ _) | (with_reducible refine fun _ => rfl))) : Fresh W0 _) f1 (fun _ _ h => h))
      | (go_at_call 38; (with_reducible refine (H2.out _ (HX.out _ (by (repeat (first | (with_reducible exact Keep.refl _ _) | (with_reducible assumption) | (with_reducible refine Keep.drew ?_) | (with_reducible refine Keep.drewN ?_ _) | (with_reducible refine Keep.alloc ?_ _) | (with_reducible refine Keep.setCell ?_ ?_ _) | (with_reducible refine fun _ => rfl)))))).mono ?_); rintro en1 w1 ⟨rfl, f1⟩; have f3 := Keep.step (S := fun _ => False) (by (repeat (first | (with_reducible exact Keep.refl _ _) | (with_reducible assumption) | (with_reducible refine Keep.drew ?_) | (with_reducible refine Keep.drewN ?_ _) | (with_reducible refine Keep.alloc ?_ _) | (with_reducible refine Keep.setCell ?_ ?_ _) | (with_reducible refine fun _ => rfl))) : Fresh W0 _) f1 (fun _ _ h => h))))
  go_wp2_with fail
  go_ret
  exact ⟨rfl, HX.out _ (by (repeat (first | (with_reducible exact Keep.refl _ _) | (with_reducible assumption) | (with_reducible refine Keep.drew ?_) | (with_reducible refine Keep.drewN ?_ _) | (with_reducible refine Keep.alloc ?_ _) | (with_reducible refine Keep.setCell ?_ ?_ _) | (with_reducible refine fun _ => rfl))))⟩
end Go.Proofs.Ytecobebndjnhnaa
