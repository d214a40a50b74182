/-
  The events' order is a strict order that is total.
-/
import Derived.Test.YtbplomnoapndnaaEvent
namespace Go.Proofs.Ytbplomnoapndnaa
open Go.RowKit

def Ev.list (e : Ev) : List Int := [e.a, e.s, e.t, e.n, e.d, e.k, e.x]
theorem evLt_list (p q : Ev) : evLt p q = true ↔ p.list < q.list := by
  unfold evLt Ev.list
  simp only [List.cons_lt_cons_iff]
  repeat' split
  all_goals (simp only [decide_eq_true_eq]; simp_all <;> omega)
theorem Ev.ext_list {p q : Ev} (h : p.list = q.list) : p = q := by
  cases p; cases q
  simp [Ev.list] at h
  simp_all
theorem evLt_trans {p q r : Ev} (h : evLt p q = true) (h' : evLt q r = true) : evLt p r = true := by
  rw [evLt_list] at *
  exact List.lt_trans h h'
theorem evLt_total {p q : Ev} (h : evLt p q = false) (h' : evLt q p = false) : p = q := by
  have h1 : ¬ p.list < q.list := fun hh => by rw [← evLt_list] at hh; simp [hh] at h
  have h2 : ¬ q.list < p.list := fun hh => by rw [← evLt_list] at hh; simp [hh] at h'
  exact Ev.ext_list (List.le_antisymm (List.not_lt.1 h2) (List.not_lt.1 h1))
theorem evLt_irrefl (p : Ev) : evLt p p = false := evLt_same (fun _ _ => rfl)
end Go.Proofs.Ytbplomnoapndnaa
