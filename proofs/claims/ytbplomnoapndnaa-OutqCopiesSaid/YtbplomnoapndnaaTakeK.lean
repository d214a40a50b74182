/-
  outq.Queue's take: what holds of its lists from round to round.
-/
import Derived.Test.YtbplomnoapndnaaAllI
namespace Go.Proofs.Ytbplomnoapndnaa
open Go.RowKit Go.Shelf

/-- what a message tells: an event, and whether it is an anti -/
abbrev Msg := Rec
theorem info_msg : (Try.prog.info? 46).map (fun i => (i.zero, i.size, i.bytes)) = some (some (.agg #[.int .i64 0, .int .i64 0, .int .i64 0, .int .i64 0, .int .i64 0, .int .i64 0, .int .i64 0, .bool false]), 8, 64) := by kernel_rfl
def antis (p : Rec → Bool) (l : List Rec) : List Msg := (l.filter p).map (fun r => (r.1, true))
def stay (p : Rec → Bool) (l : List Rec) : List Rec := l.filter (fun r => !p r)
theorem antis_snoc (p : Rec → Bool) (pre : List Rec) (y : Rec) : antis p (pre ++ [y]) = antis p pre ++ (if p y then [(y.1, true)] else []) := by
  unfold antis
  rw [List.filter_append, List.map_append]
  congr 1
  cases h : p y <;> simp [List.filter, h]
theorem stay_snoc (p : Rec → Bool) (pre : List Rec) (y : Rec) : stay p (pre ++ [y]) = stay p pre ++ (if p y then [] else [y]) := by
  unfold stay
  rw [List.filter_append]
  congr 1
  cases h : p y <;> simp [List.filter, h]
theorem antis_le (p : Rec → Bool) (l : List Rec) : (antis p l).length ≤ l.length := by
  unfold antis
  rw [List.length_map]
  exact List.length_filter_le _ _
theorem stay_le (p : Rec → Bool) (l : List Rec) : (stay p l).length ≤ l.length := List.length_filter_le _ _
/-- a list in a block, its cells from B on -/
def Boxed (W : World) (b : Nat) (t e : TypeId) (B : Nat) (l : List Rec) : Prop := ∃ v, Blk W b t #[v] ∧ OwnS W e 8 v l.length (rcells l) ∧ ∀ k, v.ownBlock = some k → B ≤ k
structure TInv (p : Rec → Bool) (fv : Value) (w : World) (B : Nat) (pre : List Rec) (W : World) : Prop where
  f : Fresh w W
  sz : B ≤ W.heap.size
  bf : Blk W w.heap.size 80 #[fv]
  a : Boxed W (w.heap.size + 1) 27 46 B (antis p pre)
  r : Boxed W (w.heap.size + 2) 69 79 B (stay p pre)
section
variable {p : Rec → Bool} {fv : Value} {w X Y W : World} {B B' b : Nat} {t e : TypeId} {l pre : List Rec} {row : Option Nat}
theorem Boxed.grown (h : Boxed X b t e B l) (hg : X.grownBy Y row) (hr : ∀ r, row = some r → ∃ o : Obj, X.heap[r]? = some o ∧ o.isCells = false) : Boxed Y b t e B l := by
  obtain ⟨v, h1, h2, h3⟩ := h
  exact ⟨v, blk_grown h1 hg hr, ownS_grown h2 hg hr, h3⟩
theorem Boxed.fresh (h : Boxed X b t e B l) (f : Fresh X Y) : Boxed Y b t e B l := by
  obtain ⟨v, h1, h2, h3⟩ := h
  exact ⟨v, f.blk_ h1, h2.fresh f, h3⟩
theorem TInv.own (hB : w.heap.size ≤ B') (h : TInv p fv w B pre X) (hg : X.grownBy Y row) (hr : ∀ r, row = some r → B' ≤ r ∧ ∃ o : Obj, X.heap[r]? = some o ∧ o.isCells = false) : TInv p fv w B pre Y := by
  have hr' : ∀ r, row = some r → ∃ o : Obj, X.heap[r]? = some o ∧ o.isCells = false := fun r e => (hr r e).2
  exact ⟨ownFrom_fresh (β := Unit) hB () X Y row h.f hg hr, Nat.le_trans h.sz hg.size, blk_grown h.bf hg hr', h.a.grown hg hr', h.r.grown hg hr'⟩
theorem TInv.fresh (h : TInv p fv w B pre X) (f : Fresh X Y) : TInv p fv w B pre Y :=
  ⟨h.f.step f (fun _ _ h => h), Nat.le_trans h.sz f.size, f.blk_ h.bf, h.a.fresh f, h.r.fresh f⟩
end
/-- what take answers, and what it leaves -/
def TakeP (g : Nat) (v : Value) (l : List Rec) (p : Rec → Bool) (w : World) (e : Ending) (w' : World) : Prop :=
  ∃ va v', e = .returned va ∧ OwnS w' 46 8 va (antis p l).length (rcells (antis p l)) ∧ OQ w' g v' (stay p l) ∧ Turn w w' g v v' ∧ ∀ k, va.ownBlock = some k → w.heap.size ≤ k
theorem OQ.grown {X Y : World} {row : Option Nat} {g : Nat} {v : Value} {l : List Rec} (h : OQ X g v l) (hg : X.grownBy Y row) (hr : ∀ r, row = some r → ∃ o : Obj, X.heap[r]? = some o ∧ o.isCells = false) : OQ Y g v l :=
  ⟨blk_grown h.blk hg hr, ownS_grown h.own hg hr, h.srt⟩
theorem Turn.grown {w X Y : World} {row : Option Nat} {g : Nat} {v v' : Value} (h : Turn w X g v v') (hg : X.grownBy Y row) (hr : ∀ r, row = some r → w.heap.size ≤ r) : Turn w Y g v v' :=
  ⟨⟨hg.os.trans h.keep.os, hg.tape.trans h.keep.tape, hg.output.trans h.keep.output, Nat.le_trans h.keep.size hg.size, fun k hk hs =>
    (hg.block k (Nat.lt_of_lt_of_le hk h.keep.size) (fun e => by have := hr k e.symm; omega)).trans (h.keep.block k hk hs)⟩, h.later⟩
theorem RSrt.stay {l : List Rec} (h : RSrt l) (p : Rec → Bool) : RSrt (stay p l) := List.Pairwise.sublist List.filter_sublist h
end Go.Proofs.Ytbplomnoapndnaa
