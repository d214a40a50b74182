/-
  A region that draws its order, reads, and calls what only makes new blocks, inside a round of a loop over an iterator: one walk of the text's order serves every order.
-/
import Derived.Test.YtbplomnoapndnaaRoundQuiet
import Derived.Sort.Grow
namespace Go.Proofs.Ytbplomnoapndnaa
open Go.RowKit Go.Sort

/-- so many draws, and blocks behind -/
structure GZ where
  m : Nat
  os : Array Obj
instance : Inhabited GZ := ⟨⟨0, #[]⟩⟩
/-- the world so much on -/
def gz (w : World) (z : GZ) : World := grow (w.drewN z.m) z.os
section
variable {F : Fence} {n : Nat} {P : Program} {ops : Array Oper}
theorem wpIn_region_grow {id : Nat} {Q : Exit → Act → World → Prop} {a : Act} {w : World} {l : List Oper} (hd : noDefer l = true) (hm : P.follows .mixedOrders = true) (hB : Region.lexB .any l.toArray = true)
    (h : wpQuietIn F n P l.toArray (fun w' => ∃ z : GZ, w' = gz w z) (fun a' => ∀ w', (∃ z : GZ, w' = gz w z) → Q .normal a' w') l a) : (Code.region id l.toArray true).wpIn F n P Q a w := by
  simp only [Region.lexB, Bool.and_eq_true] at hB
  refine wpIn_region_any hm (round_any (C := fun w' => ∃ z : GZ, w' = gz w z) (Q := fun a' => ∀ w', (∃ z : GZ, w' = gz w z) → Q .normal a' w') (fun o ho => noDefer_at hd (by simpa using ho)) (fun _ w' hw' h => h w' hw') _ _ _ _ ⟨⟨1, #[]⟩, (grow_empty _).symm⟩ ?_)
  have := wpAnyQIn_lex (F := F) (n := n) (C := fun w' => ∃ z : GZ, w' = gz w z) (md := .any) hB.1 l.toArray.toList 0 (Array.replicate l.toArray.size false) a (by simp) (by simpa using hB.2) (by simpa using h)
  simpa using this
end
theorem gz_fresh (w : World) (z : GZ) : Fresh w (gz w z) := by
  obtain ⟨m, os⟩ := z
  refine ⟨rfl, rfl, rfl, by simp [gz], fun k hk _ => ?_⟩
  exact heap_grow_old (w.drewN m) os hk
theorem Blk.gz_ {w : World} {g : Nat} {t : TypeId} {cs : Array Value} (h : Blk w g t cs) (z : GZ) (i : Nat) : (gz w z).cell? ⟨g, i, none⟩ = cs[i]? := ((gz_fresh w z).blk_ h).cell i
theorem grow_alloc (w : World) (os : Array Obj) (o : Obj) : (grow w os).alloc o = grow w (os.push o) := by
  simp [grow, World.alloc]
theorem gz_alloc (w : World) (z : GZ) (o : Obj) : (gz w z).alloc o = gz w ⟨z.m, z.os.push o⟩ := grow_alloc _ _ _
end Go.Proofs.Ytbplomnoapndnaa
