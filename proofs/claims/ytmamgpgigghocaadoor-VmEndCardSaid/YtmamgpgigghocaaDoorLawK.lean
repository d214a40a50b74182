/-
  The laws' small functions; states and messages compared; the chapter's example.
-/
import Derived.Test.YtmamgpgigghocaaDoorRun
namespace Go.Proofs.YtmamgpgigghocaaDoor
open Go.RowKit
attribute [local go_sem ↓] Go.wp_at_zero Go.wp_at_succ run_min run_max

theorem eq4 (e : Nat) (a b c d a' b' c' d' : Int) (w : World) : (Op.equalIn (e + 2) 24 (.agg #[.int .i64 a, .int .i64 b, .int .i64 c, .int .i64 d]) (.agg #[.int .i64 a', .int .i64 b', .int .i64 c', .int .i64 d'])).run Tryd.prog w =
    .ok (a == a' && (b == b' && (c == c' && d == d'))) w := by
  have p0 : ∀ x0 x1 x2 x3 w, (part 3 #[x0, x1, x2, x3] 0).run Tryd.prog w = .ok x0 w := fun _ _ _ _ _ => by kernel_rfl
  have p1 : ∀ x0 x1 x2 x3 w, (part 3 #[x0, x1, x2, x3] 1).run Tryd.prog w = .ok x1 w := fun _ _ _ _ _ => by kernel_rfl
  have p2 : ∀ x0 x1 x2 x3 w, (part 3 #[x0, x1, x2, x3] 2).run Tryd.prog w = .ok x2 w := fun _ _ _ _ _ => by kernel_rfl
  have p3 : ∀ x0 x1 x2 x3 w, (part 3 #[x0, x1, x2, x3] 3).run Tryd.prog w = .ok x3 w := fun _ _ _ _ _ => by kernel_rfl
  have hsz : ∀ w, (sizeOf 3).run Tryd.prog w = .ok 1 w := fun _ => by kernel_rfl
  rw [Op.equalIn]
  simp only [Sem.run_bind, run_underlying Tryd.underlying24, Result.andThen_ok, hsz]
  rw [Std.Legacy.Range.forIn_eq_forIn_range']
  simp only [Std.Legacy.Range.size, List.range', Nat.reduceSub, Nat.reduceAdd, Nat.reduceDiv, List.forIn_cons, Sem.run_bind, Nat.mul_one, p0, p1, p2, p3, Result.andThen_ok, run_equalIn_int (h := Tryd.underlying3), List.forIn_nil]
  generalize (a == a') = x1
  cases x1
  · simp
  simp only [Bool.not_true, Bool.false_eq_true, if_false, Sem.run_pure, Result.andThen_ok, Sem.run_bind, p1, run_equalIn_int (h := Tryd.underlying3)]
  generalize (b == b') = x2
  cases x2
  · simp
  simp only [Bool.not_true, Bool.false_eq_true, if_false, Sem.run_pure, Result.andThen_ok, Sem.run_bind, p2, run_equalIn_int (h := Tryd.underlying3)]
  generalize (c == c') = x3
  cases x3
  · simp
  simp only [Bool.not_true, Bool.false_eq_true, if_false, Sem.run_pure, Result.andThen_ok, Sem.run_bind, p3, run_equalIn_int (h := Tryd.underlying3)]
  generalize (d == d') = x4
  cases x4
  · simp
  simp
theorem eq4w (a b c d : Int) (w : World) : (Op.equalIn 10000 24 (.agg #[.int .i64 a, .int .i64 b, .int .i64 c, .int .i64 d]) (.agg #[.int .i64 a, .int .i64 b, .int .i64 c, .int .i64 d])).run Tryd.prog w = .ok true w := by
  have := eq4 9998 a b c d a b c d w
  simpa using this
theorem run_neq_state (a b c d : Int) (w : World) : (binOp .neq 24 (.agg #[.int .i64 a, .int .i64 b, .int .i64 c, .int .i64 d]) (.agg #[.int .i64 a, .int .i64 b, .int .i64 c, .int .i64 d])).run Tryd.prog w = .ok (.bool false) w := by
  have h := eq4w a b c d w
  have h3 : Tryd.prog.underlying 24 = some (.array 4 3) := Tryd.underlying24
  go_simp
theorem run_eql_emit (a b c d : Int) (w : World) : (binOp .eql 37 (.agg #[.int .i64 a, .int .i64 b, .int .i64 c, .int .i64 d]) (.agg #[.int .i64 a, .int .i64 b, .int .i64 c, .int .i64 d])).run Tryd.prog w = .ok (.bool true) w := by
  go_simp
theorem run_neq_emit (a b c d : Int) (w : World) : (binOp .neq 37 (.agg #[.int .i64 a, .int .i64 b, .int .i64 c, .int .i64 d]) (.agg #[.int .i64 a, .int .i64 b, .int .i64 c, .int .i64 d])).run Tryd.prog w = .ok (.bool false) w := by
  go_simp

theorem awake_out : outP [⟨12, 4, 0, 0, 0⟩, ⟨3, 0, 0, 4, 0⟩, ⟨1, 5, 1, 0, 0⟩, ⟨14, 6, 5, 0, 7⟩] [3, 0, 0, 0] ⟨0, 0, 5, 0⟩ 100 = (⟨[8, 0, 0, 0, 5, 1, 0, 0], 4, [⟨0, 1, 7, 8⟩]⟩, 4) := by
  kernel_rfl
end Go.Proofs.YtmamgpgigghocaaDoor
