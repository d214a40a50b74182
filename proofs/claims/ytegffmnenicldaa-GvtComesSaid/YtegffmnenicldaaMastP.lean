/-
  A master in plain words.
-/
import Derived.Test.YtegffmnenicldaaAwake
namespace Go.Proofs.Ytegffmnenicldaa
open Go.RowKit Go.Maps

structure GM where
  no : Int
  runs : Bool
  time : Int
  l : List Int
def GM.begin (m : GM) : Int × Int × GM := if m.runs = true then (0, 19, m) else (m.no + 1, 0, ⟨m.no + 1, true, m.time, List.replicate m.l.length (-1)⟩)
def GM.report (m : GM) (wk r at_ : Int) : Bool × Int × GM :=
  if wk < 0 ∨ (m.l.length : Int) ≤ wk then (false, 1, m) else if timeB at_ = false then (false, 10, m) else if m.runs = false ∨ r ≠ m.no then (false, 19, m) else
  if 0 ≤ m.l.getD wk.toNat 0 then (false, 13, m) else if (m.l.set wk.toNat at_).contains (-1) = true then (false, 0, ⟨m.no, m.runs, m.time, m.l.set wk.toNat at_⟩) else (true, 0, ⟨m.no, false, max m.time (minOf (m.l.set wk.toNat at_)), m.l.set wk.toNat at_⟩)
structure GM.Ok (m : GM) (n k : Nat) : Prop where
  len : m.l.length = n
  n1 : 1 ≤ n ∧ n ≤ 8
  no : 0 ≤ m.no ∧ m.no ≤ k
  l : ∀ x ∈ m.l, -1 ≤ x ∧ x ≤ 1073741825
  time : 0 ≤ m.time ∧ m.time ≤ 1073741825
theorem GM.Ok.more {m : GM} {n k : Nat} (h : m.Ok n k) : m.Ok n (k + 1) := ⟨h.len, h.n1, by have := h.no; omega, h.l, h.time⟩
theorem GM.Ok.start {n : Nat} (h1 : 1 ≤ n) (h8 : n ≤ 8) : (⟨0, false, 0, List.replicate n 0⟩ : GM).Ok n 0 := ⟨by simp, ⟨h1, h8⟩, by simp, fun x hx => by rw [List.eq_of_mem_replicate hx]; omega, by simp⟩
theorem GM.Ok.begin {m : GM} {n k : Nat} (h : m.Ok n k) : m.begin.2.2.Ok n (k + 1) := by
  unfold GM.begin
  by_cases h1 : m.runs = true
  · rw [if_pos h1]; exact h.more
  rw [if_neg h1]
  exact ⟨by simp [h.len], h.n1, by have := h.no; simp only; omega, fun x hx => by rw [List.eq_of_mem_replicate hx]; omega, h.time⟩
theorem set_range {l : List Int} {j : Nat} {x : Int} (h : ∀ x ∈ l, -1 ≤ x ∧ x ≤ 1073741825) (hx : -1 ≤ x ∧ x ≤ 1073741825) : ∀ y ∈ l.set j x, -1 ≤ y ∧ y ≤ 1073741825 := by
  intro y hy
  rcases List.mem_or_eq_of_mem_set hy with hy | rfl
  · exact h y hy
  · exact hx
theorem nonneg_of {l : List Int} (h : ∀ x ∈ l, -1 ≤ x ∧ x ≤ 1073741825) (hc : l.contains (-1) = false) : ∀ x ∈ l, 0 ≤ x ∧ x ≤ 1073741825 := by
  intro x hx
  have := h x hx
  have : x ≠ -1 := by
    rintro rfl
    rw [← Bool.not_eq_true, List.contains_iff_mem] at hc
    exact hc hx
  omega
theorem GM.Ok.report {m : GM} {n k : Nat} (h : m.Ok n k) {wk r at_ : Int} : (m.report wk r at_).2.2.Ok n (k + 1) := by
  unfold GM.report
  by_cases h1 : wk < 0 ∨ (m.l.length : Int) ≤ wk
  · rw [if_pos h1]; exact h.more
  rw [if_neg h1]
  by_cases h2 : timeB at_ = false
  · rw [if_pos h2]; exact h.more
  rw [if_neg h2]
  by_cases h3 : m.runs = false ∨ r ≠ m.no
  · rw [if_pos h3]; exact h.more
  rw [if_neg h3]
  by_cases h4 : 0 ≤ m.l.getD wk.toNat 0
  · rw [if_pos h4]; exact h.more
  rw [if_neg h4]
  have ht := timeB_iff.1 (by simpa using h2)
  have hs := set_range (j := wk.toNat) (x := at_) h.l (by omega)
  by_cases h5 : (m.l.set wk.toNat at_).contains (-1) = true
  · rw [if_pos h5]
    exact ⟨by simp [h.len], h.n1, by have := h.no; simp only; omega, hs, h.time⟩
  · rw [if_neg h5]
    have hn := nonneg_of hs (by simpa using h5)
    have h6 : 0 ≤ minOf (m.l.set wk.toNat at_) := foldl_min_low (fun x hx => (hn x hx).1) (by omega)
    have h7 : minOf (m.l.set wk.toNat at_) ≤ 1073741825 := (foldl_min_le _ _).1
    refine ⟨by simp [h.len], h.n1, by have := h.no; simp only; omega, hs, ?_⟩
    have := h.time
    simp only
    omega
/-- the least of some, from the first on -/
theorem min_head {x : Int} {l : List Int} (h : x ≤ 1073741825) : l.foldl min x = minOf (x :: l) := by
  unfold minOf
  rw [List.foldl_cons, show min 1073741825 x = x by omega]
theorem sets_step (l : List Int) (q : Nat) (h : q < l.length) : (List.replicate q (-1) ++ l.drop q).set q (-1) = List.replicate (q + 1) (-1) ++ l.drop (q + 1) := by
  rw [List.set_append_right _ _ (by simp), List.length_replicate, Nat.sub_self, List.drop_eq_getElem_cons h, List.set_cons_zero, List.replicate_succ']
  simp
end Go.Proofs.Ytegffmnenicldaa
