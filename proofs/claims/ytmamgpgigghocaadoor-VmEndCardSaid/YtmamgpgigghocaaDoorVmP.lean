/-
  A handler as plain functions: what an instruction may be, what it does, and how a program runs.
-/
import Derived.Test.YtmamgpgigghocaaDoorOwnMore
namespace Go.Proofs.YtmamgpgigghocaaDoor
open Go.RowKit

structure Ins where
  op : Int
  a : Int
  b : Int
  c : Int
  d : Int
def Ins.vals (x : Ins) : List Value := [.int .i64 x.op, .int .i64 x.a, .int .i64 x.b, .int .i64 x.c, .int .i64 x.d]
def Ins.val (x : Ins) : Value := .agg #[.int .i64 x.op, .int .i64 x.a, .int .i64 x.b, .int .i64 x.c, .int .i64 x.d]
def icells (l : List Ins) : List Value := l.flatMap Ins.vals
theorem icells_length (l : List Ins) : (icells l).length = l.length * 5 := by
  induction l with
  | nil => rfl
  | cons a l ih => simp only [icells, List.flatMap_cons, List.length_append, Ins.vals, List.length_cons, List.length_nil] at ih ⊢; omega
theorem icells_at : ∀ (l : List Ins) (k : Nat) (x : Ins), l[k]? = some x → ∀ j u, x.vals[j]? = some u → (icells l)[k * 5 + j]? = some u
  | [], _, _, h, _, _, _ => by simp at h
  | a :: l, 0, x, h, j, u, hu => by
    simp at h
    subst h
    have hj : j < (Ins.vals a).length := (List.getElem?_eq_some_iff.1 hu).1
    have e : icells (a :: l) = a.vals ++ icells l := rfl
    rw [e, Nat.zero_mul, Nat.zero_add, List.getElem?_append_left hj]
    exact hu
  | a :: l, k + 1, x, h, j, u, hu => by
    have := icells_at l k x (by simpa using h) j u hu
    have e : icells (a :: l) = a.vals ++ icells l := rfl
    rw [e, List.getElem?_append_right (by simp [Ins.vals]; omega), show (k + 1) * 5 + j - (Ins.vals a).length = k * 5 + j by simp [Ins.vals]; omega]
    exact this
theorem icells_one (l : List Ins) : ∀ u ∈ icells l, u.oneCell' = true := by
  intro u hu
  simp only [icells, List.mem_flatMap, Ins.vals] at hu
  obtain ⟨x, _, hx⟩ := hu
  simp at hx
  rcases hx with rfl | rfl | rfl | rfl | rfl <;> rfl
theorem icells_append (l m : List Ins) : icells (l ++ m) = icells l ++ icells m := by simp [icells]
theorem icells_take (l : List Ins) (k : Nat) : (icells l).take (k * 5) = icells (l.take k) := by
  induction l generalizing k with
  | nil => simp [icells]
  | cons a l ih =>
    cases k with
    | zero => simp [icells]
    | succ k =>
      have e : icells (a :: l) = a.vals ++ icells l := rfl
      have e2 : icells ((a :: l).take (k + 1)) = a.vals ++ icells (l.take k) := rfl
      rw [e, e2, ← ih k, List.take_append, List.take_of_length_le (by simp [Ins.vals]; omega)]
      congr 2
      simp [Ins.vals]
      omega

/-- what is asked for of an op's numbers -/
def ask (op : Int) : List Int :=
  if op = 1 then [1, 2, 0, 0] else if op = 2 then [1, 1, 0, 0] else if op = 8 then [3, 0, 0, 0] else if op = 9 then [1, 3, 0, 0] else if op = 14 then [1, 1, 1, 4] else if op = 15 then [0, 0, 0, 0]
  else if op ≤ 7 then [1, 1, 1, 0] else [1, 0, 0, 0]
def fitsP (k n : Int) (many : Nat) : Bool :=
  if k = 1 then decide (0 ≤ n ∧ n < 8) else if k = 2 then true else if k = 3 then decide (0 ≤ n ∧ n ≤ many) else if k = 4 then decide (0 ≤ n ∧ n ≤ 255) else decide (n = 0)
def Ins.nums (x : Ins) : List Int := [x.a, x.b, x.c, x.d]
def allFit (many : Nat) : List Int → List Int → Bool
  | k :: ks, n :: ns => fitsP k n many && allFit many ks ns
  | _, _ => true
/-- what is wrong with an instruction -/
def mayE (x : Ins) (many : Nat) : Int := if x.op < 1 ∨ 15 < x.op then 15 else if allFit many (ask x.op) x.nums then 0 else 10

/-- what an event tells -/
structure Ev where
  at_ : Int
  kind : Int
  data : Int
  dst : Int
structure Em where
  dst : Int
  delay : Int
  kind : Int
  data : Int
def Em.vals (x : Em) : List Value := [.int .i64 x.dst, .int .i64 x.delay, .int .i64 x.kind, .int .i64 x.data]
structure Ma where
  cs : List Int
  at_ : Nat
  sent : List Em
def Ma.get (m : Ma) (a : Int) : Int := m.cs.getD a.toNat 0
def Ma.put (m : Ma) (a v : Int) : Ma := { m with cs := m.cs.set a.toNat v }
/-- what an op makes of two numbers -/
def reck (op b c : Int) : Int :=
  if op = 3 then wrap64 (b + c) else if op = 4 then wrap64 (b + wrap64 (-c)) else if op = 5 then wrap64 (b * c)
  else if op = 6 then (if c = 0 then 0 else Int.tmod b c) else if op = 7 then (if b < c then 1 else 0) else 0
/-- what an instruction does, whose successor the machine stands at already -/
def doP (e : Ev) (x : Ins) (m : Ma) : Ma :=
  if x.op = 1 then m.put x.a x.b
  else if x.op = 2 then m.put x.a (m.get x.b)
  else if 3 ≤ x.op ∧ x.op ≤ 7 then m.put x.a (reck x.op (m.get x.b) (m.get x.c))
  else if x.op = 8 then { m with at_ := x.a.toNat }
  else if x.op = 9 then (if m.get x.a = 0 then { m with at_ := x.b.toNat } else m)
  else if x.op = 10 then m.put x.a e.at_
  else if x.op = 11 then m.put x.a e.kind
  else if x.op = 12 then m.put x.a e.data
  else if x.op = 13 then m.put x.a e.dst
  else if x.op = 14 then { m with sent := m.sent ++ [⟨m.get x.a, m.get x.b, x.d, m.get x.c⟩] }
  else m
/-- whether the machine does one, and which -/
def nextP (p : List Ins) (m : Ma) : Option Ins :=
  match p[m.at_]? with
  | none => none
  | some x => if x.op = 15 ∨ mayE x p.length ≠ 0 then none else some x
def stepP (p : List Ins) (e : Ev) (m : Ma) : Option Ma := (nextP p m).map fun x => doP e x { m with at_ := m.at_ + 1 }
def runP (p : List Ins) (e : Ev) : Nat → Ma → Ma × Nat
  | 0, m => (m, 0)
  | n + 1, m => match stepP p e m with
    | none => (m, 0)
    | some m' => ((runP p e n m').1, (runP p e n m').2 + 1)
def startM (s : List Int) : Ma := ⟨s ++ [0, 0, 0, 0], 0, []⟩
def fuelP (fuel : Int) : Nat := (min fuel 1024).toNat
def outP (p : List Ins) (s : List Int) (e : Ev) (fuel : Int) : Ma × Nat := runP (p.take 64) e (fuelP fuel) (startM s)

theorem doP_len (e : Ev) (x : Ins) (m : Ma) : (doP e x m).cs.length = m.cs.length := by
  unfold doP Ma.put
  repeat' split
  all_goals simp
theorem doP_sent (e : Ev) (x : Ins) (m : Ma) : ∃ l, l.length ≤ 1 ∧ (doP e x m).sent = m.sent ++ l := by
  unfold doP Ma.put
  repeat' split
  all_goals first | exact ⟨[], by decide, (List.append_nil _).symm⟩ | exact ⟨[_], Nat.le_refl _, rfl⟩
theorem stepP_some {p : List Ins} {e : Ev} {m m' : Ma} (h : stepP p e m = some m') : ∃ x, nextP p m = some x ∧ m' = doP e x { m with at_ := m.at_ + 1 } := by
  unfold stepP at h
  cases hn : nextP p m with
  | none => rw [hn] at h; simp at h
  | some x => rw [hn] at h; simp at h; exact ⟨x, rfl, h.symm⟩
theorem runP_le (p : List Ins) (e : Ev) : ∀ (n : Nat) (m : Ma), (runP p e n m).2 ≤ n
  | 0, _ => Nat.le_refl _
  | n + 1, m => by
    unfold runP
    split
    · exact Nat.zero_le _
    · exact Nat.succ_le_succ (runP_le p e n _)
theorem runP_len (p : List Ins) (e : Ev) : ∀ (n : Nat) (m : Ma), (runP p e n m).1.cs.length = m.cs.length
  | 0, _ => rfl
  | n + 1, m => by
    unfold runP
    split
    · rfl
    · rename_i m' hm
      obtain ⟨x, _, rfl⟩ := stepP_some hm
      rw [runP_len p e n _, doP_len]
theorem runP_sent (p : List Ins) (e : Ev) : ∀ (n : Nat) (m : Ma), (runP p e n m).1.sent.length ≤ m.sent.length + n
  | 0, _ => Nat.le_refl _
  | n + 1, m => by
    unfold runP
    split
    · simp
    · rename_i m' hm
      obtain ⟨x, _, rfl⟩ := stepP_some hm
      obtain ⟨l, hl, hs⟩ := doP_sent e x { m with at_ := m.at_ + 1 }
      have := runP_sent p e n (doP e x { m with at_ := m.at_ + 1 })
      rw [hs] at this
      simp at this ⊢
      omega
end Go.Proofs.YtmamgpgigghocaaDoor
