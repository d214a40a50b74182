/-
  Picks, and where a worker is told.
-/
import Derived.Test.YtegffmnenicldaaBegin
import Derived.Test.YtegffmnenicldaaRegS
namespace Go.Proofs.Ytegffmnenicldaa
open Go.RowKit Go.Maps

theorem pick_at (a : Int) (n : Nat) (hn : 0 < n) : ∃ j : Nat, j < n ∧ (a.tmod n + n).tmod n = (j : Int) ∧ -(n : Int) < a.tmod n ∧ a.tmod n < n := by
  have h1 : -(n : Int) < a.tmod n := by
    have := Int.lt_tmod_of_pos a (b := (n : Int)) (by omega)
    omega
  have h2 : a.tmod n < n := Int.tmod_lt_of_pos a (by omega)
  refine ⟨((a.tmod n + n).tmod n).toNat, ?_, ?_, h1, h2⟩
  · have h3 := Int.tmod_lt_of_pos (a.tmod n + n) (show (0 : Int) < n by omega)
    have h4 := Int.tmod_nonneg (n : Int) (show 0 ≤ a.tmod n + n by omega)
    omega
  · have h4 := Int.tmod_nonneg (n : Int) (show 0 ≤ a.tmod n + n by omega)
    omega
def pickN (a : Int) (n : Nat) : Nat := ((a.tmod n + n).tmod n).toNat
/-- the world's block, and where a worker is told -/
def Wk (gx gw offw wi ga : Nat) (cs : Array Value) (W : World) : Prop := Blk W gx 54 cs ∧ W.cell? ⟨gw, offw + wi, none⟩ = some (.pointer (some ⟨ga, 0, none⟩))
theorem SW.wk {w W : World} {gx gm gr n K gw offw cw wi ga : Nat} {gs bs : List Nat} {vos : List Value} {vo vl : Value} {x : WS} (h : SW w gx gs bs vos (.slice (some ⟨gw, offw, none⟩) n cw) vo vl gm gr n K x W) (hw : wi < n) (hga : gs[wi]? = some ga) : Wk gx gw offw wi ga #[.slice (some ⟨gw, offw, none⟩) n cw, vo, vl, .pointer (some ⟨gm, 0, none⟩), .int .i64 x.sent, .bool x.bad] W := by
  obtain ⟨g1, o1, c1, e, _, _, _, hc⟩ := h.ow.form (by omega)
  injection e with e1 e2 e3
  injection e1 with e1
  injection e1 with e4 e5 e6
  subst e4 e5
  exact ⟨h.bx, hc _ _ (by rw [ptrs, List.getElem?_map, hga]; rfl)⟩
end Go.Proofs.Ytegffmnenicldaa
