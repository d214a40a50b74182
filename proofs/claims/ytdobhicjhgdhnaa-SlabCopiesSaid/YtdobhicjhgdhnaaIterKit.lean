/-
  What the walks of loops over an iterator want besides: append inside a fence; invariants of blocks known whole.
-/
import Derived.Test.YtdobhicjhgdhnaaOwn
import Derived.RangeFuncNested
import Derived.RangeFuncBound
import Derived.RangeFuncCalls
import Derived.RangeFuncLeaves
import Derived.RangeFuncBox
import Derived.Shelf.Abstract
import Derived.Shelf.RegionOpen
import Derived.OwnWalkIn
import Derived.TacticsInMore
import Derived.LoopNIn
import Derived.LoopIn
namespace Go.Proofs.Ytdobhicjhgdhnaa
open Go.RowKit Go.Shelf

theorem wpListIn_append_OwnS {F : Fence} {nF : Nat} {P : Program} (w : World) {ops : Array Oper} {rest : List Oper} {o : Oper} {a : Act} {Q : Exit → Act → World → Prop} (hgd : o.guard = none) (s x : Operand) (t : TypeId)
    (ho : o.op = Op.call { callee := Callee.builtin Builtin.append, args := #[s, x], argTypes := #[t, t] })
    (e : TypeId) (i : TypeInfo) (z : Value) (size bytes : Nat) (ht : P.underlying t = some (.slice e)) (hi : P.info? e = some i) (hz : i.zero = some z)
    (hsize : i.size = size) (hby : i.bytes = bytes) (hzs : z.cells.size = size) (hsz : 0 < size)
    (v : Value) (n : Nat) (xs : List Value) (hs : a.eval s = v) (hown : OwnS w e size v n xs)
    (sv : Value) (m : Nat) (news : List Value) (hx : a.eval x = sv) (hr : Src w size sv m news) (h1 : ∀ u ∈ news, u.oneCell' = true)
    (h63 : n + m ≤ maxLen) (hbytes : (n + m) * bytes ≤ 140737488355328)
    (hK : ∀ v' w', OwnS w' e size v' (n + m) (xs ++ news) → Keep (fun k => v.ownBlock = some k) w w' → (∀ k, v'.ownBlock = some k → v.ownBlock = some k ∨ w.heap.size ≤ k) → wpListIn F nF P ops Q rest (a.put o.dst v') w') : wpListIn F nF P ops Q (o :: rest) a w := by
  refine wpListIn_plain hgd fun K hK' => ?_
  obtain ⟨v', w', hrun, h2, h3, h4⟩ := run_append_OwnS (P := P) w t o.type e i z size bytes ht hi hz hsize hby hzs hsz v n xs hown sv m news hr h1 h63 hbytes
  unfold Oper.wpIn
  refine ⟨?_, ?_⟩
  · simp [Oper.about, ho, resolve, Target.leads, Sem.run_pure]
  · rw [Oper.semAt_plain F _ _ (by rw [ho]; intro c hc'; cases hc')]
    simp [execOp, ho, resolve, invoke, builtin, hs, hx, hrun, Result.andThen]
    exact hK' _ _ (hK v' w' h2 h3 h4)

/-- a block of cells abides what the iterator's book-keeping turns -/
theorem blk_grown {X Y : World} {row : Option Nat} {g : Nat} {t : TypeId} {cs : Array Value} (h : Blk X g t cs) (hg : X.grownBy Y row) (hr : ∀ r, row = some r → ∃ o : Obj, X.heap[r]? = some o ∧ o.isCells = false) : Blk Y g t cs :=
  (hg.block g h.lt (fun e => by
    obtain ⟨o, ho, hc⟩ := hr g e.symm
    unfold Blk at h
    rw [h] at ho
    injection ho with ho
    subst ho
    cases hc)).trans h
theorem ownS_grown {X Y : World} {row : Option Nat} {e : TypeId} {size n : Nat} {v : Value} {xs : List Value} (h : OwnS X e size v n xs) (hg : X.grownBy Y row) (hr : ∀ r, row = some r → ∃ o : Obj, X.heap[r]? = some o ∧ o.isCells = false) : OwnS Y e size v n xs := by
  refine h.kept (S := fun k => row = some k) (Keep.of_grown hg (fun k hk _ => hk)) (fun k hk hrow => ?_)
  obtain ⟨o, ho, hc⟩ := hr k hrow
  rcases h.2 with ⟨rfl, _⟩ | ⟨g, off, cap, cur, rfl, hh, _⟩
  · simp [Value.ownBlock] at hk
  · simp [Value.ownBlock] at hk
    subst hk
    rw [hh] at ho
    injection ho with ho
    subst ho
    cases hc
theorem keepsOthers_setCell' (W : World) (p : Addr) (u : Value) : KeepsOthers W (W.setCell p u) := KeepsOthers.setCell W p u
/-- what a Keep over blocks of cells leaves of the others -/
theorem keepsOthers_of_keep {X Y : World} {S : Nat → Prop} (h : Keep S X Y) (hS : ∀ k (o : Obj), S k → X.heap[k]? = some o → o.isCells = true) : KeepsOthers X Y :=
  ⟨h.size, fun k o hk ho => (h.block k (Array.getElem?_eq_some_iff.1 hk).1 (fun hs => by rw [hS k o hs hk] at ho; cases ho)).trans hk⟩
theorem ownFrom_fresh {β : Type} {B : Nat} {w₀ : World} (hB : w₀.heap.size ≤ B) : OwnFrom B (fun (_ : β) W => Fresh w₀ W) :=
  fun _ X Y row hs hg hr => ⟨hg.os.trans hs.os, hg.tape.trans hs.tape, hg.output.trans hs.output, Nat.le_trans hs.size hg.size, fun k hk _ =>
    (hg.block k (Nat.lt_of_lt_of_le hk hs.size) (fun e => by have := (hr k e.symm).1; omega)).trans (hs.block k hk (fun h => h))⟩

/-- block g, if it is cells of type e, lies as it lay -/
def KeepsB (g : Nat) (e : TypeId) (A B : World) : Prop := A.heap.size ≤ B.heap.size ∧ ∀ cur, A.heap[g]? = some (.cells cur e (0, 0)) → B.heap[g]? = some (.cells cur e (0, 0))
theorem KeepsB.refl (g : Nat) (e : TypeId) (A : World) : KeepsB g e A A := ⟨Nat.le_refl _, fun _ h => h⟩
theorem KeepsB.trans {g : Nat} {e : TypeId} {A B C : World} (h : KeepsB g e A B) (k : KeepsB g e B C) : KeepsB g e A C := ⟨Nat.le_trans h.1 k.1, fun c hc => k.2 c (h.2 c hc)⟩
theorem KeepsB.of_keep {g : Nat} {e : TypeId} {A B : World} {S : Nat → Prop} (h : Keep S A B) (hg : ¬ S g) : KeepsB g e A B := ⟨h.size, fun _ hc => (h.block g (Array.getElem?_eq_some_iff.1 hc).1 hg).trans hc⟩
theorem KeepsB.alloc {g : Nat} {e : TypeId} {A B : World} (h : KeepsB g e A B) (o : Obj) : KeepsB g e A (B.alloc o) := h.trans (KeepsB.of_keep ((Keep.refl (fun _ => False) B).alloc o) (fun h => h))
theorem keepsB_b {g : Nat} {e : TypeId} {B : Nat} : ∀ (W : World) (l : Nat) (o o' : Obj), B ≤ l → W.heap[l]? = some o → o.isCells = false → o.isWalk = false → KeepsB g e W (W.putObj l o') := fun W l o o' _ hl ho _ => by
  have hg := grownBy_putObj' W l o'
  refine ⟨hg.size, fun c hc => (hg.block g (Array.getElem?_eq_some_iff.1 hc).1 (fun h => ?_)).trans hc⟩
  injection h with h
  subst h
  rw [hl] at hc
  injection hc with hc
  subst hc
  cases ho
theorem OwnS.keepsB {A B : World} {e : TypeId} {size n g off cap : Nat} {xs : List Value} (h : OwnS A e size (.slice (some ⟨g, off, none⟩) n cap) n xs) (hk : KeepsB g e A B) : OwnS B e size (.slice (some ⟨g, off, none⟩) n cap) n xs := by
  obtain ⟨hl, h⟩ := h
  rcases h with ⟨h0, _⟩ | ⟨g1, off1, cap1, cur, hv, hg, r⟩
  · cases h0
  · injection hv with hv1 hv2 hv3
    injection hv1 with hv1
    injection hv1 with e1 e2 _
    subst e1 e2 hv3
    exact ⟨hl, .inr ⟨_, _, _, cur, rfl, hk.2 cur hg, r⟩⟩
theorem keepsB_t {g : Nat} {e : TypeId} {A B C : World} : KeepsB g e A B → KeepsB g e B C → KeepsB g e A C := KeepsB.trans
theorem KeepsB.of_keep' {g : Nat} {e : TypeId} {A B : World} {S : Nat → Prop} (h : Keep S A B) (hg : ∀ cur, A.heap[g]? = some (.cells cur e (0, 0)) → ¬ S g) : KeepsB g e A B := ⟨h.size, fun c hc => (h.block g (Array.getElem?_eq_some_iff.1 hc).1 (hg c hc)).trans hc⟩
theorem own_isCells {W : World} {e : TypeId} {size n : Nat} {v : Value} {xs : List Value} (h : OwnS W e size v n xs) {k : Nat} {o : Obj} (hk : v.ownBlock = some k) (ho : W.heap[k]? = some o) : o.isCells = true := by
  rcases h.2 with ⟨rfl, _⟩ | ⟨g, off, cap, cur, rfl, hh, _⟩
  · simp [Value.ownBlock] at hk
  · simp [Value.ownBlock] at hk
    subst hk
    rw [hh] at ho
    injection ho with ho
    subst ho
    rfl
theorem own_ne_type {W : World} {e e' : TypeId} {size n g : Nat} {v : Value} {xs : List Value} (h : OwnS W e size v n xs) (hne : e ≠ e') {cur : Array Value} (hg : W.heap[g]? = some (.cells cur e' (0, 0))) : v.ownBlock ≠ some g :=
  h.ne_blk (show Blk W g e' cur from hg) hne
theorem blk_isCells {W : World} {g : Nat} {t : TypeId} {cs : Array Value} {o : Obj} (h : Blk W g t cs) (ho : W.heap[g]? = some o) : o.isCells = true := by
  unfold Blk at h
  rw [h] at ho
  injection ho with ho
  subst ho
  rfl
end Go.Proofs.Ytdobhicjhgdhnaa
