/-
  More of slices of the call's own: a store; what is not frozen; cells of a slice by its place.
-/
import Derived.Test.YtkhlldmnnakoaaaDoorOwn
namespace Go.Proofs.YtkhlldmnnakoaaaDoor
open Go.RowKit

section
variable {w : World} {e : TypeId} {size n g off cap : Nat} {xs : List Value}
theorem OwnS.at_ (h : OwnS w e size (.slice (some ⟨g, off, none⟩) n cap) n xs) : g < w.heap.size ∧ (∀ i, w.frozen? ⟨g, i, none⟩ = false) ∧ n ≤ cap ∧ cap ≤ maxLen ∧ ∀ j u, xs[j]? = some u → w.cell? ⟨g, off + j, none⟩ = some u := by
  rcases h.2 with ⟨h0, _⟩ | ⟨g', off', cap', cur, hv, hg, h1, h2, h3, h4⟩
  · cases h0
  · injection hv with hv1 hv2 hv3
    injection hv1 with hv1
    injection hv1 with e1 e2 _
    subst e1 e2 hv3
    exact ⟨(Array.getElem?_eq_some_iff.1 hg).1, fun i => by simp [World.frozen?, hg], h1, h2, fun j u hu => by rw [cell_of_row w g _ cur e (0, 0) hg]; exact h4 j u hu⟩
theorem OwnS.set_ (h : OwnS w e size (.slice (some ⟨g, off, none⟩) n cap) n xs) (k : Nat) (u : Value) (hk : k < xs.length) : OwnS (w.setCell ⟨g, off + k, none⟩ u) e size (.slice (some ⟨g, off, none⟩) n cap) n (xs.set k u) := by
  obtain ⟨hl, h⟩ := h
  rcases h with ⟨h0, _⟩ | ⟨g', off', cap', cur, hv, hg, h1, h2, h3, h4⟩
  · cases h0
  · injection hv with hv1 hv2 hv3
    injection hv1 with hv1
    injection hv1 with e1 e2 _
    subst e1 e2 hv3
    have hb : Blk w g e cur := hg
    refine ⟨by simpa using hl, .inr ⟨g, off, cap, _, rfl, hb.set_ (off + k) u, h1, h2, by simpa using h3, fun j v hv => ?_⟩⟩
    rw [List.getElem?_set] at hv
    split at hv
    · rename_i hkj
      subst hkj
      injection hv with hv
      subst hv
      have : off + k < cur.size := (Array.getElem?_eq_some_iff.1 (h4 k _ (List.getElem?_eq_getElem hk))).1
      simp [this]
    · rename_i hkj
      rw [Array.getElem?_setIfInBounds_ne (by omega)]
      exact h4 j v hv
end
end Go.Proofs.YtkhlldmnnakoaaaDoor
