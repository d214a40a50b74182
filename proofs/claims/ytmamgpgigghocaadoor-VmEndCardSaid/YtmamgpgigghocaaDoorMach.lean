/-
  The machine where it lies; what an instruction does to it.
-/
import Derived.Test.YtmamgpgigghocaaDoorReck
namespace Go.Proofs.YtmamgpgigghocaaDoor
open Go.RowKit
attribute [local go_sem ↓] Go.wp_at_zero Go.wp_at_succ

def nums (l : List Int) : List Value := l.map fun z => .int .i64 z
def ecells (l : List Em) : List Value := l.flatMap Em.vals
theorem ecells_length (l : List Em) : (ecells l).length = l.length * 4 := by
  induction l with
  | nil => rfl
  | cons a l ih => simp only [ecells, List.flatMap_cons, List.length_append, Em.vals, List.length_cons, List.length_nil] at ih ⊢; omega
theorem ecells_one (l : List Em) : ∀ u ∈ ecells l, u.oneCell' = true := by
  intro u hu
  simp only [ecells, List.mem_flatMap, Em.vals] at hu
  obtain ⟨x, _, hx⟩ := hu
  simp at hx
  rcases hx with rfl | rfl | rfl | rfl <;> rfl
theorem ecells_append (l m : List Em) : ecells (l ++ m) = ecells l ++ ecells m := by simp [ecells]
theorem ecells_at : ∀ (l : List Em) (k : Nat) (x : Em), l[k]? = some x → ∀ j u, x.vals[j]? = some u → (ecells l)[k * 4 + j]? = some u
  | [], _, _, h, _, _, _ => by simp at h
  | a :: l, 0, x, h, j, u, hu => by
    simp at h
    subst h
    have hj : j < (Em.vals a).length := (List.getElem?_eq_some_iff.1 hu).1
    have e : ecells (a :: l) = a.vals ++ ecells l := rfl
    rw [e, Nat.zero_mul, Nat.zero_add, List.getElem?_append_left hj]
    exact hu
  | a :: l, k + 1, x, h, j, u, hu => by
    have := ecells_at l k x (by simpa using h) j u hu
    have e : ecells (a :: l) = a.vals ++ ecells l := rfl
    rw [e, List.getElem?_append_right (by simp [Em.vals]; omega), show (k + 1) * 4 + j - (Em.vals a).length = k * 4 + j by simp [Em.vals]; omega]
    exact this

/-- the rest of an event's key -/
structure Rest where
  src : Int
  sent : Int
  no : Int
def head (e : Ev) (o : Rest) (vp : Value) : List Value := [.int .i64 e.at_, .int .i64 o.src, .int .i64 o.sent, .int .i64 o.no, .int .i64 e.dst, .int .i64 e.kind, .int .i64 e.data, vp]
def tail (fan : Int) (vs : Value) (at_ : Nat) : List Value := [.int .i64 (at_ : Nat), .int .i64 fan, vs]
def marr (e : Ev) (o : Rest) (vp vs : Value) (fan : Int) (m : Ma) : Array Value := (head e o vp ++ (nums m.cs ++ tail fan vs m.at_)).toArray
def outs (fan : Int) (m : Ma) : List Em := m.sent.take fan.toNat

structure Mach (w : World) (g : Nat) (e : Ev) (o : Rest) (vp vs : Value) (P : List Ins) (fan : Int) (m : Ma) : Prop where
  blk : Blk w g 52 (marr e o vp vs fan m)
  prog : OwnS w 41 5 vp P.length (icells P)
  out : OwnS w 37 4 vs (outs fan m).length (ecells (outs fan m))
  len : m.cs.length = 8

section
variable {w w' : World} {g : Nat} {e : Ev} {o : Rest} {vp vs : Value} {P : List Ins} {fan : Int} {m : Ma}
theorem Mach.fresh (h : Mach w g e o vp vs P fan m) (f : Fresh w w') : Mach w' g e o vp vs P fan m := ⟨f.blk_ h.blk, h.prog.fresh f, h.out.fresh f, h.len⟩
theorem marr_get (hl : m.cs.length = 8) (a : Nat) (ha : a < 8) : (marr e o vp vs fan m)[8 + a]? = some (.int .i64 (m.get a)) := by
  unfold marr
  rw [List.getElem?_toArray, List.getElem?_append_right (by simp [head])]
  rw [show 8 + a - (head e o vp).length = a by simp [head], List.getElem?_append_left (by simp [nums, hl]; exact ha)]
  simp only [nums, List.getElem?_map, Ma.get, Int.toNat_natCast]
  rw [List.getElem?_eq_getElem (by omega)]
  simp [List.getD, List.getElem?_eq_getElem (show a < m.cs.length by omega)]
theorem marr_put (hl : m.cs.length = 8) (a : Nat) (ha : a < 8) (v : Int) : (marr e o vp vs fan m).setIfInBounds (8 + a) (.int .i64 v) = marr e o vp vs fan (m.put a v) := by
  unfold marr
  rw [List.setIfInBounds_toArray]
  congr 1
  rw [List.set_append_right _ _ (by simp [head])]
  rw [show 8 + a - (head e o vp).length = a by simp [head], List.set_append_left _ _ (by simp [nums, hl]; exact ha)]
  simp only [nums, Ma.put, Int.toNat_natCast, List.map_set]
theorem marr_at (hl : m.cs.length = 8) (k : Nat) : (marr e o vp vs fan m).setIfInBounds 16 (.int .i64 (k : Nat)) = marr e o vp vs fan { m with at_ := k } := by
  unfold marr
  rw [List.setIfInBounds_toArray]
  congr 1
  rw [List.set_append_right _ _ (by simp [head]), List.set_append_right _ _ (by simp [head, nums, hl])]
  simp [head, nums, hl, tail]
theorem marr_out (hl : m.cs.length = 8) (v : Value) (l : List Em) : (marr e o vp vs fan m).setIfInBounds 18 v = marr e o vp v fan { m with sent := l } := by
  unfold marr
  rw [List.setIfInBounds_toArray]
  congr 1
  rw [List.set_append_right _ _ (by simp [head]), List.set_append_right _ _ (by simp [head, nums, hl])]
  simp [head, nums, hl, tail]
theorem Mach.cells (h : Mach w g e o vp vs P fan m) : w.cell? ⟨g, 0, none⟩ = some (.int .i64 e.at_) ∧ w.cell? ⟨g, 4, none⟩ = some (.int .i64 e.dst) ∧ w.cell? ⟨g, 5, none⟩ = some (.int .i64 e.kind) ∧ w.cell? ⟨g, 6, none⟩ = some (.int .i64 e.data) ∧
    w.cell? ⟨g, 7, none⟩ = some vp ∧ w.cell? ⟨g, 16, none⟩ = some (.int .i64 (m.at_ : Nat)) ∧ w.cell? ⟨g, 17, none⟩ = some (.int .i64 fan) ∧ w.cell? ⟨g, 18, none⟩ = some vs := by
  have hl := h.len
  have h8 : ∀ k u, (marr e o vp vs fan m)[k]? = some u → w.cell? ⟨g, k, none⟩ = some u := fun k u hu => (h.blk.cell k).trans hu
  have ht : ∀ k, k < 3 → (marr e o vp vs fan m)[16 + k]? = (tail fan vs m.at_)[k]? := fun k hk => by
    unfold marr
    rw [List.getElem?_toArray, List.getElem?_append_right (by simp [head]; omega), List.getElem?_append_right (by simp [head, nums, hl]; omega)]
    congr 1
    simp [head, nums, hl]
    omega
  exact ⟨h8 0 _ rfl, h8 4 _ rfl, h8 5 _ rfl, h8 6 _ rfl, h8 7 _ rfl, h8 16 _ (ht 0 (by omega)), h8 17 _ (ht 1 (by omega)), h8 18 _ (ht 2 (by omega))⟩
theorem Mach.get (h : Mach w g e o vp vs P fan m) (a : Nat) (ha : a < 8) : w.cell? ⟨g, 8 + a, none⟩ = some (.int .i64 (m.get a)) := (h.blk.cell _).trans (marr_get h.len a ha)
theorem Mach.off (h : Mach w g e o vp vs P fan m) : vp.ownBlock ≠ some g ∧ vs.ownBlock ≠ some g ∧ ∀ k, vp.ownBlock = some k → vs.ownBlock ≠ some k := ⟨h.prog.ne_blk h.blk (by decide), h.out.ne_blk h.blk (by decide), h.prog.ne_own h.out (by decide)⟩
theorem Mach.put (h : Mach w g e o vp vs P fan m) (a : Nat) (ha : a < 8) (v : Int) : Mach (w.setCell ⟨g, 8 + a, none⟩ (.int .i64 v)) g e o vp vs P fan (m.put a v) := by
  refine ⟨?_, h.prog.far h.off.1 _, h.out.far h.off.2.1 _, by simp [Ma.put, h.len]⟩
  have := h.blk.set_ (8 + a) (.int .i64 v)
  rw [marr_put h.len a ha v] at this
  exact this
theorem Mach.jump (h : Mach w g e o vp vs P fan m) (k : Nat) : Mach (w.setCell ⟨g, 16, none⟩ (.int .i64 (k : Nat))) g e o vp vs P fan { m with at_ := k } := by
  refine ⟨?_, h.prog.far h.off.1 _, h.out.far h.off.2.1 _, h.len⟩
  have := h.blk.set_ 16 (.int .i64 (k : Nat))
  rw [marr_at h.len k] at this
  exact this
end
/-- what a call leaves of the machine -/
def DoPost (g : Nat) (e : Ev) (o : Rest) (vp vs : Value) (P : List Ins) (fan : Int) (m : Ma) (w w' : World) : Prop :=
  ∃ vs', Mach w' g e o vp vs' P fan m ∧ Keep (fun k => k = g ∨ vs.ownBlock = some k) w w' ∧ ∀ k, vs'.ownBlock = some k → vs.ownBlock = some k ∨ w.heap.size ≤ k

theorem may_nums (x : Ins) (n : Nat) (h : mayE x n = 0) : 1 ≤ x.op ∧ x.op ≤ 15 ∧ allFit n (ask x.op) x.nums = true := by
  unfold mayE at h
  split at h
  · omega
  · split at h
    · exact ⟨by omega, by omega, by assumption⟩
    · omega
end Go.Proofs.YtmamgpgigghocaaDoor
