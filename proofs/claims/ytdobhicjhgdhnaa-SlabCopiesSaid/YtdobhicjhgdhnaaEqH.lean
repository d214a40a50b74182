/-
  Handles compared.
-/
import Derived.Test.YtdobhicjhgdhnaaCountsP
namespace Go.Proofs.Ytdobhicjhgdhnaa
open Go.RowKit
theorem run_eql_handle (a b c d : Int) (w : World) : (binOp .eql 32 (.agg #[.int .i64 a, .int .i64 b]) (.agg #[.int .i64 c, .int .i64 d])).run Try.prog w = .ok (.bool (a == c && b == d)) w := by
  by_cases h1 : a = c
  · subst h1
    by_cases h2 : b = d
    · subst h2
      go_simp
    · have h3 : (b == d) = false := by simpa using h2
      go_simp
  · have h3 : (a == c) = false := by simpa using h1
    go_simp
end Go.Proofs.Ytdobhicjhgdhnaa
