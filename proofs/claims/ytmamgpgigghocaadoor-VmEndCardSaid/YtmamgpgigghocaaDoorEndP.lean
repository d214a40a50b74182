/-
  A Stop behind a program without jumps.
-/
import Derived.Test.YtmamgpgigghocaaDoorSameL
namespace Go.Proofs.YtmamgpgigghocaaDoor
open Go.RowKit

def plainI (x : Ins) : Prop := x.op ≠ 8 ∧ x.op ≠ 9
theorem may_plain {x : Ins} (h : plainI x) (a b : Nat) : mayE x a = mayE x b := by
  obtain ⟨h8, h9⟩ := h
  have e : allFit a (ask x.op) x.nums = allFit b (ask x.op) x.nums := by
    unfold ask
    rw [if_neg h8, if_neg h9]
    repeat' split
    all_goals simp [allFit, fitsP, Ins.nums]
  unfold mayE
  rw [e]
theorem doP_plain {x : Ins} (h : plainI x) (e : Ev) (m : Ma) : (doP e x m).at_ = m.at_ := by
  obtain ⟨h8, h9⟩ := h
  unfold doP Ma.put
  rw [if_neg h8, if_neg h9]
  repeat' split
  all_goals rfl
def stopI : Ins := ⟨15, 0, 0, 0, 0⟩
def withStop (P Q : List Ins) : List Ins := P ++ [stopI] ++ Q
theorem nextP_end {P : List Ins} (h : ∀ x ∈ P, plainI x) (Q : List Ins) (m : Ma) (hm : m.at_ ≤ P.length) : nextP (withStop P Q) m = nextP P m := by
  unfold nextP withStop
  by_cases hlt : m.at_ < P.length
  · have e1 : (P ++ [stopI] ++ Q)[m.at_]? = P[m.at_]? := by rw [List.append_assoc, List.getElem?_append_left hlt]
    rw [e1, List.getElem?_eq_getElem hlt]
    simp only
    rw [may_plain (h _ (List.getElem_mem hlt)) (P ++ [stopI] ++ Q).length P.length]
  · have hq : m.at_ = P.length := by omega
    have e1 : (P ++ [stopI] ++ Q)[m.at_]? = some stopI := by rw [hq, List.append_assoc, List.getElem?_append_right (Nat.le_refl _), Nat.sub_self]; rfl
    have e2 : P[m.at_]? = none := List.getElem?_eq_none (by omega)
    rw [e1, e2]
    simp only
    rw [if_pos (.inl rfl)]
theorem runP_end {P : List Ins} (h : ∀ x ∈ P, plainI x) (Q : List Ins) (e : Ev) : ∀ (n : Nat) (m : Ma), m.at_ ≤ P.length → runP (withStop P Q) e n m = runP P e n m ∧ (runP P e n m).2 + m.at_ ≤ P.length
  | 0, m, hm => ⟨rfl, by simp [runP]; exact hm⟩
  | n + 1, m, hm => by
    have hs : stepP (withStop P Q) e m = stepP P e m := by unfold stepP; rw [nextP_end h Q m hm]
    unfold runP
    rw [hs]
    cases hst : stepP P e m with
    | none => exact ⟨rfl, by simpa using hm⟩
    | some m' =>
      obtain ⟨x, hx, rfl⟩ := stepP_some hst
      obtain ⟨h1, _⟩ := nextP_some hx
      have hxp : plainI x := by
        unfold nextP at hx
        rw [List.getElem?_eq_getElem h1] at hx
        simp only at hx
        split at hx
        · cases hx
        · injection hx with hx
          exact hx ▸ h _ (List.getElem_mem h1)
      have hat := doP_plain hxp e { m with at_ := m.at_ + 1 }
      simp only at hat
      have ih := runP_end h Q e n (doP e x { m with at_ := m.at_ + 1 }) (by rw [hat]; exact h1)
      simp only
      rw [ih.1]
      refine ⟨rfl, ?_⟩
      have := ih.2
      rw [hat] at this
      omega
theorem outP_end {P : List Ins} (h : ∀ x ∈ P, plainI x) (Q : List Ins) (hP : P.length ≤ 30) (hQ : Q.length ≤ 30) (s : List Int) (e : Ev) (fuel : Int) : outP (withStop P Q) s e fuel = outP P s e fuel ∧ (outP P s e fuel).2 ≤ P.length := by
  have h1 : (withStop P Q).take 64 = withStop P Q := List.take_of_length_le (by simp [withStop]; omega)
  have h2 : P.take 64 = P := List.take_of_length_le (by omega)
  unfold outP
  rw [h1, h2]
  have := runP_end h Q e (fuelP fuel) (startM s) (Nat.zero_le _)
  exact ⟨this.1, by have := this.2; simp [startM] at this ⊢; omega⟩
theorem prg_own {w : World} {A : Option Addr} {n c : Nat} {Q : List Ins} (h : OwnS w 41 5 (.slice A n c) n (icells Q)) (hn : n = Q.length) : Prg w A Q := fun i x hx => by
  subst hn
  obtain ⟨b, off, cap, hv, hlt, _, _, hc⟩ := h.form (by have := (List.getElem?_eq_some_iff.1 hx).1; omega)
  injection hv with hv1 _ _
  refine ⟨b, off, hv1, hlt, fun j u hu => ?_⟩
  have := hc _ u (icells_at Q i x hx j u hu)
  rw [← Nat.add_assoc] at this
  exact this
end Go.Proofs.YtmamgpgigghocaaDoor
