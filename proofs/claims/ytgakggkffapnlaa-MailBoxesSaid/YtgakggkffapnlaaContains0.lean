/-
  Numbers where they lie.
-/
import Derived.Test.YtgakggkffapnlaaRows
import Derived.Test.YtgakggkffapnlaaOwn
import Derived.Handy
import Derived.BigQuiet
import Derived.BigRegion
import Derived.Deep.QuietTactic
import Derived.Deep.LoopGhost
namespace Go.Proofs.Ytgakggkffapnlaa
open Go.RowKit

/-- numbers where they lie -/
def IntsAt (w : World) (A : Option Addr) (l : List Int) : Prop := ∀ i u, l[i]? = some u → ∃ b off, A = some ⟨b, off, none⟩ ∧ b < w.heap.size ∧ w.cell? ⟨b, off + i, none⟩ = some (.int .i64 u)
theorem IntsAt.keep {w w' : World} {A : Option Addr} {l : List Int} {S : Nat → Prop} (h : IntsAt w A l) (k : Keep S w w') (hn : ∀ a, A = some a → ¬ S a.block) : IntsAt w' A l := fun i u hu => by
  obtain ⟨b, off, rfl, lt, hc⟩ := h i u hu
  exact ⟨b, off, rfl, Nat.lt_of_lt_of_le lt k.size, (k.cell (p := ⟨b, off + i, none⟩) lt (show ¬ S b from hn _ rfl)).trans hc⟩
theorem IntsAt.fresh {w w' : World} {A : Option Addr} {l : List Int} (h : IntsAt w A l) (k : Fresh w w') : IntsAt w' A l := h.keep k (fun _ _ h => h)
theorem IntsAt.own {w : World} {e : TypeId} {A : Option Addr} {n c : Nat} {l : List Int} (h : OwnS w e 1 (.slice A n c) n (l.map fun x => .int .i64 x)) : IntsAt w A l := fun i u hu => by
  have hl := h.len
  have hi := (List.getElem?_eq_some_iff.1 hu).1
  rw [List.length_map] at hl
  obtain ⟨g, off, cap, hv, lt, _, _, hc⟩ := h.form (by omega)
  injection hv with hv1 _ _
  subst hv1
  exact ⟨g, off, rfl, lt, hc i _ (by rw [List.getElem?_map, hu]; rfl)⟩
theorem IntsAt.blk {w : World} {g : Nat} {t : TypeId} {cs : Array Value} {l : List Int} (h : Blk w g t cs) (hc : cs.toList = l.map fun x => .int .i64 x) : IntsAt w (some ⟨g, 0, none⟩) l := fun i u hu => by
  refine ⟨g, 0, rfl, h.lt, ?_⟩
  rw [Nat.zero_add, h.cell, ← Array.getElem?_toList, hc, List.getElem?_map, hu]
  rfl
theorem IntsAt.none {w : World} : IntsAt w none [] := fun i u hu => by simp at hu

end Go.Proofs.Ytgakggkffapnlaa
