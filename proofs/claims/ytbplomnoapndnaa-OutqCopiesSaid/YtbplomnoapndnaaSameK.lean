/-
  The law's same: what its loop holds.
-/
import Derived.Test.YtbplomnoapndnaaDoesO
import Derived.Test.YtbplomnoapndnaaAtG
namespace Go.Proofs.Ytbplomnoapndnaa
open Go.RowKit Go.Shelf Go.Sort

/-- the number of the first record that is not sure -/
def leastG : List Rec → Nat → Int
  | [], _ => -1
  | r :: l, n => if r.2 then leastG l (n + 1) else (n : Int)
def leastI (l : List Rec) : Int := leastG l 0
theorem leastG_snoc (y : Rec) : ∀ (l : List Rec) (n : Nat), leastG (l ++ [y]) n = if leastG l n < 0 then (if y.2 then -1 else ((n + l.length : Nat) : Int)) else leastG l n
  | [], n => by simp [leastG]
  | r :: l, n => by
    have ih := leastG_snoc y l (n + 1)
    rw [List.cons_append]
    unfold leastG
    cases hr : r.2
    · simp only [Bool.false_eq_true, if_false]
      rw [if_neg (by omega)]
    · simp only [if_true]
      rw [ih, List.length_cons, show n + 1 + l.length = n + (l.length + 1) by omega]
theorem leastI_snoc (l : List Rec) (y : Rec) : leastI (l ++ [y]) = if leastI l < 0 then (if y.2 then -1 else (l.length : Int)) else leastI l := by
  unfold leastI
  rw [leastG_snoc, Nat.zero_add]
theorem leastG_find : ∀ (l : List Rec) (n : Nat), match leastL l with
    | none => leastG l n = -1
    | some y => ∃ k : Nat, leastG l n = ((n + k : Nat) : Int) ∧ l[k]? = some y
  | [], n => by simp [leastL, leastG]
  | r :: l, n => by
    have ih := leastG_find l (n + 1)
    unfold leastL at ih ⊢
    unfold leastG
    cases hr : r.2
    · rw [List.find?_cons_of_pos (by simp [hr])]
      simp only [Bool.false_eq_true, if_false]
      exact ⟨0, rfl, rfl⟩
    · rw [List.find?_cons_of_neg (by simp [hr])]
      simp only [if_true]
      cases hl : l.find? (fun r => !r.2) with
      | none =>
        rw [hl] at ih
        exact ih
      | some y =>
        rw [hl] at ih
        obtain ⟨k, h1, h2⟩ := ih
        exact ⟨k + 1, by rw [h1]; congr 1; omega, by simpa using h2⟩
theorem leastG_ge : ∀ (l : List Rec) (n : Nat), -1 ≤ leastG l n
  | [], _ => by simp [leastG]
  | r :: l, n => by
    have ih := leastG_ge l (n + 1)
    unfold leastG
    split
    · exact ih
    · omega
theorem leastI_ge (l : List Rec) : -1 ≤ leastI l := leastG_ge l 0
theorem leastI_none {l : List Rec} (h : leastL l = none) : leastI l = -1 := by
  have := leastG_find l 0
  rw [h] at this
  exact this
theorem leastI_some {l : List Rec} {y : Rec} (h : leastL l = some y) : ∃ k : Nat, leastI l = (k : Int) ∧ l[k]? = some y := by
  have := leastG_find l 0
  rw [h] at this
  obtain ⟨k, h1, h2⟩ := this
  exact ⟨k, by unfold leastI; rw [h1, Nat.zero_add], h2⟩
theorem leastI_true (l : List Rec) (e : Ev) : leastI (l ++ [(e, true)]) = leastI l := by
  rw [leastI_snoc]
  by_cases h : leastI l < 0
  · rw [if_pos h, if_pos rfl]
    have := leastI_ge l
    omega
  · rw [if_neg h]
theorem sures_snoc (l : List Rec) (y : Rec) : sures (l ++ [y]) = sures l + (if y.2 then 1 else 0) := by
  unfold sures
  rw [List.countP_append, List.countP_singleton]
structure SInv (w2 : World) (vw : Value) (pre : List Rec) (W : World) : Prop where
  f : Fresh w2 W
  sz : w2.heap.size + 4 ≤ W.heap.size
  b : Blk W w2.heap.size 28 #[vw]
  n : Blk W (w2.heap.size + 1) 3 #[.int .i64 (pre.length : Nat)]
  s : Blk W (w2.heap.size + 1 + 1) 3 #[.int .i64 (sures pre : Nat)]
  l : Blk W (w2.heap.size + 1 + 1 + 1) 3 #[.int .i64 (leastI pre)]
theorem SInv.fresh {w2 W W' : World} {vw : Value} {pre : List Rec} (h : SInv w2 vw pre W) (f : Fresh W W') : SInv w2 vw pre W' := ⟨h.f.step f (fun _ _ h => h), Nat.le_trans h.sz f.size, f.blk_ h.b, f.blk_ h.n, f.blk_ h.s, f.blk_ h.l⟩
theorem SInv.own {w2 X Y : World} {row : Option Nat} {B' : Nat} {vw : Value} {pre : List Rec} (hB : w2.heap.size ≤ B') (h : SInv w2 vw pre X) (hg : X.grownBy Y row) (hr : ∀ r, row = some r → B' ≤ r ∧ ∃ o : Obj, X.heap[r]? = some o ∧ o.isCells = false) : SInv w2 vw pre Y := by
  have hr' : ∀ r, row = some r → ∃ o : Obj, X.heap[r]? = some o ∧ o.isCells = false := fun r e => (hr r e).2
  exact ⟨ownFrom_fresh (β := Unit) hB () X Y row h.f hg hr, Nat.le_trans h.sz hg.size, blk_grown h.b hg hr', blk_grown h.n hg hr', blk_grown h.s hg hr', blk_grown h.l hg hr'⟩
theorem sm_at {R Q : List Rec} (h : Sm R Q) {q : Rec} (hq : q ∈ Q) : ∃ k : Nat, atI (evs R) q.1 = (k : Int) ∧ k < R.length ∧ R[k]? = some q := by
  obtain ⟨e, b⟩ := q
  have hm : e ∈ evs R := mem_evs.2 ⟨b, (h.mem _).2 hq⟩
  obtain ⟨k, hk1, hk2, hk3, _⟩ := atI_mem hm
  rw [evs_len] at hk2
  refine ⟨k, hk1, hk2, ?_⟩
  have hk4 := hk3
  unfold evs at hk4
  rw [List.getElem?_map, List.getElem?_eq_getElem hk2] at hk4
  injection hk4 with hk4
  have h1 : R[k] ∈ Q := (h.mem _).1 (List.getElem_mem hk2)
  rw [List.getElem?_eq_getElem hk2]
  have h2 : R[k] = (e, (R[k]).2) := by rw [← hk4]
  rw [h2] at h1
  rw [h2]
  congr 2
  obtain ⟨i, hi⟩ := List.mem_iff_getElem?.1 h1
  obtain ⟨j, hj⟩ := List.mem_iff_getElem?.1 hq
  obtain ⟨i1, i2⟩ := List.getElem?_eq_some_iff.1 hi
  obtain ⟨j1, j2⟩ := List.getElem?_eq_some_iff.1 hj
  rcases Nat.lt_trichotomy i j with h5 | h5 | h5
  · have := List.pairwise_iff_getElem.1 h.st i j i1 j1 h5
    rw [i2, j2, sLt_irrefl] at this
    cases this
  · subst h5
    rw [i2] at j2
    injection j2
  · have := List.pairwise_iff_getElem.1 h.st j i j1 i1 h5
    rw [i2, j2, sLt_irrefl] at this
    cases this
end Go.Proofs.Ytbplomnoapndnaa
