/-
  Events compared.
-/
import Derived.Test.YtbplomnoapndnaaSort
namespace Go.Proofs.Ytbplomnoapndnaa
open Go.RowKit
def evB (p q : Ev) : Bool := p.a == q.a && (p.s == q.s && (p.t == q.t && (p.n == q.n && (p.d == q.d && (p.k == q.k && p.x == q.x)))))
theorem evB_iff (p q : Ev) : evB p q = true ↔ p = q := by
  cases p; cases q
  simp [evB]
theorem run_eql_ev (a s t n d k x a' s' t' n' d' k' x' : Int) (w : World) : (binOp .eql 44 (.agg #[.int .i64 a, .int .i64 s, .int .i64 t, .int .i64 n, .int .i64 d, .int .i64 k, .int .i64 x]) (.agg #[.int .i64 a', .int .i64 s', .int .i64 t', .int .i64 n', .int .i64 d', .int .i64 k', .int .i64 x'])).run Try.prog w = .ok (.bool (a == a' && (s == s' && (t == t' && (n == n' && (d == d' && (k == k' && x == x'))))))) w := by
  by_cases h1 : a = a'
  rotate_left
  · have h : (a == a') = false := by simpa using h1
    go_simp
  subst h1
  by_cases h1 : s = s'
  rotate_left
  · have h : (s == s') = false := by simpa using h1
    go_simp
  subst h1
  by_cases h1 : t = t'
  rotate_left
  · have h : (t == t') = false := by simpa using h1
    go_simp
  subst h1
  by_cases h1 : n = n'
  rotate_left
  · have h : (n == n') = false := by simpa using h1
    go_simp
  subst h1
  by_cases h1 : d = d'
  rotate_left
  · have h : (d == d') = false := by simpa using h1
    go_simp
  subst h1
  by_cases h1 : k = k'
  rotate_left
  · have h : (k == k') = false := by simpa using h1
    go_simp
  subst h1
  by_cases h1 : x = x'
  rotate_left
  · have h : (x == x') = false := by simpa using h1
    go_simp
  subst h1
  go_simp
end Go.Proofs.Ytbplomnoapndnaa
