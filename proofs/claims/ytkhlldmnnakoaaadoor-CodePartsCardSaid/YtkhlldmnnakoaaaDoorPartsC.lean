/- CodeParts returns true at every input: a program without places is one just if each part of it is, and its text is those of its parts, one behind the other. No conditions. -/
import Derived.Test.YtkhlldmnnakoaaaDoorShiftL
namespace Go.Proofs.YtkhlldmnnakoaaaDoor
open Go.RowKit
attribute [local go_sem ↓] Go.wp_at_zero Go.wp_at_succ

/-! ### plain -/
theorem ask_places {op : Int} (h : ¬ (op < 1 ∨ 15 < op)) (h8 : op ≠ 8) (h9 : op ≠ 9) : ∀ k ∈ ask op, k ≠ 3 := by
  rcases op_cases h with rfl | rfl | rfl | rfl | rfl | rfl | rfl | rfl | rfl | rfl | rfl | rfl | rfl | rfl | rfl
  all_goals first | (exact absurd rfl h8) | (exact absurd rfl h9) | decide
theorem fits_any_m {k n : Int} {a b : Nat} (hk : k ≠ 3) : fitsP k n a = fitsP k n b := by
  unfold fitsP
  simp only [hk, if_false]
theorem allFit_any {a b : Nat} : ∀ {ks ns : List Int}, (∀ k ∈ ks, k ≠ 3) → allFit a ks ns = allFit b ks ns
  | [], _, _ => by simp [allFit]
  | _ :: _, [], _ => by simp [allFit]
  | k :: ks, n :: ns, h => by
    simp only [allFit]
    rw [fits_any_m (b := b) (h k (by simp)), allFit_any (b := b) (fun q hq => h q (by simp [hq]))]
theorem may_any_m {x : Ins} (h8 : x.op ≠ 8) (h9 : x.op ≠ 9) (a b : Nat) : mayE x a = mayE x b := by
  unfold mayE
  by_cases h : x.op < 1 ∨ 15 < x.op
  · rw [if_pos h, if_pos h]
  · rw [if_neg h, if_neg h, allFit_any (b := b) (ask_places h h8 h9)]
theorem checkFrom_vals {m : Nat} : ∀ {p : List Ins} {i : Nat}, (checkFrom m i p).2 = 0 ∨ (checkFrom m i p).2 = 10 ∨ (checkFrom m i p).2 = 11 ∨ (checkFrom m i p).2 = 15
  | [], _ => .inl rfl
  | x :: p, i => by
    unfold checkFrom
    by_cases h : mayE x m = 0
    · rw [if_neg (by simp [h])]
      exact checkFrom_vals
    · rw [if_pos h]
      rcases mayE_cases x m with e | e | e
      · exact absurd e h
      · exact .inr (.inl e)
      · exact .inr (.inr (.inr e))
theorem check_vals (P : List Ins) : (checkP P).2 = 0 ∨ (checkP P).2 = 10 ∨ (checkP P).2 = 11 ∨ (checkP P).2 = 15 := by
  unfold checkP
  split
  · exact .inr (.inr (.inl rfl))
  · exact checkFrom_vals
theorem check_iff {P : List Ins} : (checkP P).2 = 0 ↔ P.length ≤ 64 ∧ ∀ x ∈ P, mayE x P.length = 0 := ⟨check_parts, fun h => by rw [check_of h.1 h.2]⟩
theorem parts_iff {P : List Ins} (hn : P.length ≤ 64) (hp : ∀ x ∈ P, x.op ≠ 8 ∧ x.op ≠ 9) (at_ : Nat) : (checkP P).2 = 0 ↔ (checkP (P.take at_)).2 = 0 ∧ (checkP (P.drop at_)).2 = 0 := by
  rw [check_iff, check_iff, check_iff]
  constructor
  · rintro ⟨_, h⟩
    refine ⟨⟨by rw [List.length_take]; omega, fun x hx => ?_⟩, by rw [List.length_drop]; omega, fun x hx => ?_⟩
    · have hm := List.mem_of_mem_take hx
      rw [may_any_m (hp x hm).1 (hp x hm).2 _ P.length]
      exact h x hm
    · have hm := List.mem_of_mem_drop hx
      rw [may_any_m (hp x hm).1 (hp x hm).2 _ P.length]
      exact h x hm
  · rintro ⟨⟨_, h1⟩, _, h2⟩
    refine ⟨hn, fun x hx => ?_⟩
    rw [← List.take_append_drop at_ P] at hx
    rcases List.mem_append.1 hx with hx' | hx'
    · have hm := List.mem_of_mem_take hx'
      rw [may_any_m (hp x hm).1 (hp x hm).2 _ (P.take at_).length]
      exact h1 x hx'
    · have hm := List.mem_of_mem_drop hx'
      rw [may_any_m (hp x hm).1 (hp x hm).2 _ (P.drop at_).length]
      exact h2 x hx'
theorem parts_sends (P : List Ins) (at_ : Nat) : sendsP P = sendsP (P.take at_) + sendsP (P.drop at_) := by
  rw [← sendsP_app, List.take_append_drop]
theorem parts_print (P : List Ins) (at_ : Nat) : printL P = printL (P.take at_) ++ printL (P.drop at_) := by
  rw [← printL_app, List.take_append_drop]
theorem Prg.take_ {w : World} {A : Option Addr} {P : List Ins} (h : Prg w A P) (k : Nat) : Prg w A (P.take k) := h.take k
theorem Prg.drop_ {w : World} {b off : Nat} {P : List Ins} (h : Prg w (some ⟨b, off, none⟩) P) (k : Nat) : Prg w (some ⟨b, off + k * 5, none⟩) (P.drop k) := fun i x hx => by
  rw [List.getElem?_drop] at hx
  obtain ⟨b', off', he, lt, hc⟩ := h (k + i) x hx
  injection he with he
  injection he with e1 e2 _
  subst e1 e2
  refine ⟨b, off + k * 5, rfl, lt, fun j u hu => ?_⟩
  have := hc j u hu
  rw [show off + k * 5 + i * 5 + j = off + (k + i) * 5 + j by omega]
  exact this
end Go.Proofs.YtkhlldmnnakoaaaDoor
