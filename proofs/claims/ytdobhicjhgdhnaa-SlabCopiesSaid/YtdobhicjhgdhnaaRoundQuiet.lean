/-
  A region that draws its order and only reads, inside a round of a loop over an iterator: one walk of the text's order serves every order.
-/
import Derived.Test.YtdobhicjhgdhnaaKit
import Derived.Sort.BigQuietIn
import Derived.Shelf.Abstract
import Derived.Shelf.RegionOpen
namespace Go.Proofs.Ytdobhicjhgdhnaa
open Go.RowKit

section
variable {F : Fence} {n : Nat} {P : Program} {ops : Array Oper} {C : World → Prop}
def noDefer (l : List Oper) : Bool := l.all fun o => match o.op with
  | .defer _ => false
  | _ => true
theorem noDefer_at {l : List Oper} (h : noDefer l = true) {o : Oper} (ho : o ∈ l) : ∀ c, o.op ≠ .defer c := by
  intro c e
  have := List.all_eq_true.1 h o ho
  rw [e] at this
  cases this

theorem round_step {o : Oper} {a : Act} {K : Act → Prop} {K' : Act → World → Prop} {Q' : Exit → Act → World → Prop} {w : World} (hd : ∀ c, o.op ≠ .defer c) (hw : C w) (hK : ∀ a w', C w' → K a → K' a w')
    (ha : o.askedIn F P a C) (hq : o.quietIn F n P a C K) : o.wpIn F n P a w K' Q' := by
  obtain ⟨v, hv, hn⟩ := hq
  have hat := hv w hw
  refine ⟨ha w hw, ?_⟩
  rw [Oper.semAt_eq _ _ _ hd]
  unfold Oper.quietAtIn at hat
  generalize (execOp a.eval o).run P w = r at *
  cases r with
  | halt x w' => exact hat.elim
  | ok x w' =>
    cases x with
    | value u =>
      obtain ⟨rfl, rfl⟩ := hat
      exact hK _ _ hw hn
    | skip =>
      obtain ⟨rfl, rfl⟩ := hat
      exact hK _ _ hw hn
    | enter f args =>
      obtain ⟨rfl, h1, h2⟩ := hat
      exact ⟨h1, h2.mono fun e w2 ⟨he, hw2⟩ => by subst he; exact hK _ _ hw2 hn⟩
    | _ => exact hat.elim

theorem round_any {md : Region.Mode} {Q : Act → Prop} {Q' : Exit → Act → World → Prop} (hd : ∀ o ∈ ops, ∀ c, o.op ≠ .defer c) (hQ : ∀ a w, C w → Q a → Q' .normal a w) : ∀ (fuel : Nat) (listed : Array Bool) (a : Act) (w : World), C w →
    wpAnyQIn F n P md ops C Q fuel listed a → wpAnyIn F n P md ops Q' fuel listed a w
  | 0, _, _, _, hw, h => ⟨h.1, hQ _ _ hw h.2⟩
  | fuel + 1, listed, a, w, hw, h => by
    refine ⟨fun h0 => hQ _ _ hw (h.1 h0), fun i hi => ?_⟩
    have hs := h.2 i hi
    unfold qOpIn at hs
    unfold wpOpIn
    cases ho : ops[i]? with
    | none => simp only [ho] at hs; exact round_any hd hQ fuel _ _ _ hw hs
    | some o =>
      simp only [ho] at hs
      obtain ⟨ha, hs⟩ := hs
      simp only
      split
      · rename_i hwn
        simp only [hwn, if_true] at hs
        exact round_step (hd o (Array.mem_of_getElem? ho)) hw (fun a' w' hw' => round_any hd hQ fuel _ a' w' hw') ha hs
      · rename_i hwn
        simp only [hwn] at hs
        exact ⟨ha w hw, round_any hd hQ fuel _ _ _ hw hs⟩

theorem wpIn_region_round {id : Nat} {Q : Exit → Act → World → Prop} {a : Act} {w : World} {l : List Oper} (hd : noDefer l = true) (hm : P.follows .mixedOrders = true) (hB : Region.lexB .any l.toArray = true)
    (h : wpQuietIn F n P l.toArray (fun w' => ∃ n, w' = w.drewN n) (fun a' => ∀ w', (∃ n, w' = w.drewN n) → Q .normal a' w') l a) : (Code.region id l.toArray true).wpIn F n P Q a w := by
  simp only [Region.lexB, Bool.and_eq_true] at hB
  refine wpIn_region_any hm (round_any (Q := fun a' => ∀ w', (∃ n, w' = w.drewN n) → Q .normal a' w') (fun o ho => noDefer_at hd (by simpa using ho)) (fun _ w' hw' h => h w' hw') _ _ _ _ ⟨1, rfl⟩ ?_)
  have := wpAnyQIn_lex (F := F) (n := n) (C := fun w' => ∃ n, w' = w.drewN n) (md := .any) hB.1 l.toArray.toList 0 (Array.replicate l.toArray.size false) a (by simp) (by simpa using hB.2) (by simpa using h)
  simpa using this
end
end Go.Proofs.Ytdobhicjhgdhnaa
