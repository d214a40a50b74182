import Derived.Test.YtfldnbmafbdpeaaAwake
namespace Go.Proofs.Ytfldnbmafbdpeaa
open Go.RowKit
attribute [local go_sem] idx0 idx1 idx2 idx3 idx4

theorem plus_nil (a b c d f : Int) (w : World) :
    Calls Try.prog 9 #[.agg #[.int .i64 a, .int .i64 b, .int .i64 c, .int .i64 d, .int .i64 f], .slice none 0 0] w fun e w' => e = .returned (.agg #[.int .i64 a, .int .i64 b, .int .i64 c, .int .i64 d, .int .i64 f]) ∧ Fresh w w' := by
  go_enter Try.func9, Try.ntmps9
  go_wp2
  go_rounds 1
  go_returns
  refine ⟨rfl, ?_⟩
  (repeat (first | (with_reducible exact Keep.refl _ _) | (with_reducible assumption) | (with_reducible refine Keep.drew ?_) | (with_reducible refine Keep.drewN ?_ _) | (with_reducible refine Keep.alloc ?_ _) | (with_reducible refine Keep.setCell ?_ ?_ _) | (with_reducible refine fun _ => rfl)))
  all_goals (intro h; simp at h)

set_option maxHeartbeats 2000000 in
set_option maxRecDepth 100000 in
theorem plus_two (a b c d f a1 b1 c1 d1 f1 a2 b2 c2 d2 f2 : Int) (g : Nat) (w : World)
    (hg : Blk w g 24 #[.int .i64 a1, .int .i64 b1, .int .i64 c1, .int .i64 d1, .int .i64 f1, .int .i64 a2, .int .i64 b2, .int .i64 c2, .int .i64 d2, .int .i64 f2])
    (ha : 0 ≤ a ∧ a ≤ 1000) (hb : 0 ≤ b ∧ b ≤ 1000) (hc : 0 ≤ c ∧ c ≤ 1000) (hd : 0 ≤ d ∧ d ≤ 1000) (hf : 0 ≤ f ∧ f ≤ 1000)
    (ha1 : 0 ≤ a1 ∧ a1 ≤ 1000) (hb1 : 0 ≤ b1 ∧ b1 ≤ 1000) (hc1 : 0 ≤ c1 ∧ c1 ≤ 1000) (hd1 : 0 ≤ d1 ∧ d1 ≤ 1000) (hf1 : 0 ≤ f1 ∧ f1 ≤ 1000)
    (ha2 : 0 ≤ a2 ∧ a2 ≤ 1000) (hb2 : 0 ≤ b2 ∧ b2 ≤ 1000) (hc2 : 0 ≤ c2 ∧ c2 ≤ 1000) (hd2 : 0 ≤ d2 ∧ d2 ≤ 1000) (hf2 : 0 ≤ f2 ∧ f2 ≤ 1000) :
    Calls Try.prog 9 #[.agg #[.int .i64 a, .int .i64 b, .int .i64 c, .int .i64 d, .int .i64 f], .slice (some ⟨g, 0, none⟩) 2 2] w fun e w' =>
      e = .returned (.agg #[.int .i64 (a + a1 + a2), .int .i64 (b + b1 + b2), .int .i64 (c + c1 + c2), .int .i64 (d + d1 + d2), .int .i64 (f + f1 + f2)]) ∧ Fresh w w' := by
  have hl := hg.lt
  have hx := hg.cell
  clear hg
  have hl2 : g < w.heap.size + 1 := by omega
  have hl3 : g < w.heap.size + 1 + 1 := by omega
  go_enter Try.func9, Try.ntmps9
  go_wp2
  refine wp_loop_rounds 3 ?_
  rw [rounds_succ]
  go_wp2
  refine wp_loop_rounds 6 ?_
  repeat any_goals (rw [rounds_succ]; go_wp2)
  refine wp_loop_rounds 6 ?_
  repeat any_goals (rw [rounds_succ]; go_wp2)
  go_returns
  refine ⟨rfl, ?_⟩
  (repeat (first | (with_reducible exact Keep.refl _ _) | (with_reducible assumption) | (with_reducible refine Keep.drew ?_) | (with_reducible refine Keep.drewN ?_ _) | (with_reducible refine Keep.alloc ?_ _) | (with_reducible refine Keep.setCell ?_ ?_ _) | (with_reducible refine fun _ => rfl)))
  all_goals (intro h; simp at h)
end Go.Proofs.Ytfldnbmafbdpeaa
