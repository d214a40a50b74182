/-
  An instruction, and what it may be.
-/
import Derived.Test.YtkhlldmnnakoaaaDoorOwnMore
namespace Go.Proofs.YtkhlldmnnakoaaaDoor
open Go.RowKit

structure Ins where
  op : Int
  a : Int
  b : Int
  c : Int
  d : Int
def Ins.vals (x : Ins) : List Value := [.int .i64 x.op, .int .i64 x.a, .int .i64 x.b, .int .i64 x.c, .int .i64 x.d]
def Ins.val (x : Ins) : Value := .agg #[.int .i64 x.op, .int .i64 x.a, .int .i64 x.b, .int .i64 x.c, .int .i64 x.d]
def icells (l : List Ins) : List Value := l.flatMap Ins.vals
theorem icells_length (l : List Ins) : (icells l).length = l.length * 5 := by
  induction l with
  | nil => rfl
  | cons a l ih => simp only [icells, List.flatMap_cons, List.length_append, Ins.vals, List.length_cons, List.length_nil] at ih ⊢; omega
theorem icells_at : ∀ (l : List Ins) (k : Nat) (x : Ins), l[k]? = some x → ∀ j u, x.vals[j]? = some u → (icells l)[k * 5 + j]? = some u
  | [], _, _, h, _, _, _ => by simp at h
  | a :: l, 0, x, h, j, u, hu => by
    simp at h
    subst h
    have hj : j < (Ins.vals a).length := (List.getElem?_eq_some_iff.1 hu).1
    have e : icells (a :: l) = a.vals ++ icells l := rfl
    rw [e, Nat.zero_mul, Nat.zero_add, List.getElem?_append_left hj]
    exact hu
  | a :: l, k + 1, x, h, j, u, hu => by
    have := icells_at l k x (by simpa using h) j u hu
    have e : icells (a :: l) = a.vals ++ icells l := rfl
    rw [e, List.getElem?_append_right (by simp [Ins.vals]; omega), show (k + 1) * 5 + j - (Ins.vals a).length = k * 5 + j by simp [Ins.vals]; omega]
    exact this
theorem icells_one (l : List Ins) : ∀ u ∈ icells l, u.oneCell' = true := by
  intro u hu
  simp only [icells, List.mem_flatMap, Ins.vals] at hu
  obtain ⟨x, _, hx⟩ := hu
  simp at hx
  rcases hx with rfl | rfl | rfl | rfl | rfl <;> rfl
theorem icells_append (l m : List Ins) : icells (l ++ m) = icells l ++ icells m := by simp [icells]
theorem icells_take (l : List Ins) (k : Nat) : (icells l).take (k * 5) = icells (l.take k) := by
  induction l generalizing k with
  | nil => simp [icells]
  | cons a l ih =>
    cases k with
    | zero => simp [icells]
    | succ k =>
      have e : icells (a :: l) = a.vals ++ icells l := rfl
      have e2 : icells ((a :: l).take (k + 1)) = a.vals ++ icells (l.take k) := rfl
      rw [e, e2, ← ih k, List.take_append, List.take_of_length_le (by simp [Ins.vals]; omega)]
      congr 2
      simp [Ins.vals]
      omega

/-- what is asked for of an op's numbers -/
def ask (op : Int) : List Int :=
  if op = 1 then [1, 2, 0, 0] else if op = 2 then [1, 1, 0, 0] else if op = 8 then [3, 0, 0, 0] else if op = 9 then [1, 3, 0, 0] else if op = 14 then [1, 1, 1, 4] else if op = 15 then [0, 0, 0, 0]
  else if op ≤ 7 then [1, 1, 1, 0] else [1, 0, 0, 0]
def fitsP (k n : Int) (many : Nat) : Bool :=
  if k = 1 then decide (0 ≤ n ∧ n < 8) else if k = 2 then true else if k = 3 then decide (0 ≤ n ∧ n ≤ many) else if k = 4 then decide (0 ≤ n ∧ n ≤ 255) else decide (n = 0)
def Ins.nums (x : Ins) : List Int := [x.a, x.b, x.c, x.d]
def allFit (many : Nat) : List Int → List Int → Bool
  | k :: ks, n :: ns => fitsP k n many && allFit many ks ns
  | _, _ => true
/-- what is wrong with an instruction -/
def mayE (x : Ins) (many : Nat) : Int := if x.op < 1 ∨ 15 < x.op then 15 else if allFit many (ask x.op) x.nums then 0 else 10

end Go.Proofs.YtkhlldmnnakoaaaDoor
