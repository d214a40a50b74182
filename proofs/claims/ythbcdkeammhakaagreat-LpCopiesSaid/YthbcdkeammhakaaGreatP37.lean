/- Chapter 13: LqE. -/
import Derived.Test.YthbcdkeammhakaaGreatP35
set_option maxRecDepth 100000
set_option maxHeartbeats 16000000
namespace Go.Proofs.YthbcdkeammhakaaGreat
open Go.RowKit
attribute [local go_sem ↓] Go.wp_at_zero Go.wp_at_succ
theorem eq4 (e : Nat) (a b c d a' b' c' d' : Int) (w : World) : (Op.equalIn (e + 2) 23 (.agg #[.int .i64 a, .int .i64 b, .int .i64 c, .int .i64 d]) (.agg #[.int .i64 a', .int .i64 b', .int .i64 c', .int .i64 d'])).run Tryz.prog w =
  .ok (a == a' && (b == b' && (c == c' && d == d'))) w := by
 have p0 : ∀ x0 x1 x2 x3 w, (part 3 #[x0, x1, x2, x3] 0).run Tryz.prog w = .ok x0 w := fun _ _ _ _ _ => by kernel_rfl
 have p1 : ∀ x0 x1 x2 x3 w, (part 3 #[x0, x1, x2, x3] 1).run Tryz.prog w = .ok x1 w := fun _ _ _ _ _ => by kernel_rfl
 have p2 : ∀ x0 x1 x2 x3 w, (part 3 #[x0, x1, x2, x3] 2).run Tryz.prog w = .ok x2 w := fun _ _ _ _ _ => by kernel_rfl
 have p3 : ∀ x0 x1 x2 x3 w, (part 3 #[x0, x1, x2, x3] 3).run Tryz.prog w = .ok x3 w := fun _ _ _ _ _ => by kernel_rfl
 have hsz : ∀ w, (sizeOf 3).run Tryz.prog w = .ok 1 w := fun _ => by kernel_rfl
 rw [Op.equalIn]
 simp only [Sem.run_bind, run_underlying Tryz.underlying23, Result.andThen_ok, hsz]
 rw [Std.Legacy.Range.forIn_eq_forIn_range']
 simp only [Std.Legacy.Range.size, List.range', Nat.reduceSub, Nat.reduceAdd, Nat.reduceDiv, List.forIn_cons, Sem.run_bind, Nat.mul_one, p0, Result.andThen_ok, run_equalIn_int (h := Tryz.underlying3), List.forIn_nil]
 generalize (a == a') = x1
 cases x1
 ·simp
 simp only [Bool.not_true, Bool.false_eq_true, if_false, Sem.run_pure, Result.andThen_ok, Sem.run_bind, p1, run_equalIn_int (h := Tryz.underlying3)]
 generalize (b == b') = x2
 cases x2
 ·simp
 simp only [Bool.not_true, Bool.false_eq_true, if_false, Sem.run_pure, Result.andThen_ok, Sem.run_bind, p2, run_equalIn_int (h := Tryz.underlying3)]
 generalize (c == c') = x3
 cases x3
 ·simp
 simp only [Bool.not_true, Bool.false_eq_true, if_false, Sem.run_pure, Result.andThen_ok, Sem.run_bind, p3, run_equalIn_int (h := Tryz.underlying3)]
 generalize (d == d') = x4
 cases x4
 ·simp
 simp
theorem eq4w (a b c d : Int) (w : World) : (Op.equalIn 10000 23 (.agg #[.int .i64 a, .int .i64 b, .int .i64 c, .int .i64 d]) (.agg #[.int .i64 a, .int .i64 b, .int .i64 c, .int .i64 d])).run Tryz.prog w = .ok true w := by
 have := eq4 9998 a b c d a b c d w
 simpa using this
end Go.Proofs.YthbcdkeammhakaaGreat
