/-
  Batches of a row in order, one behind the other.
-/
import Derived.Test.YtecobebndjnhnaaPuts
import Derived.Test.YtecobebndjnhnaaNext
namespace Go.Proofs.Ytecobebndjnhnaa
open Go.RowKit

theorem evLt_a {p q : Ev} (h : evLt q p = false) : p.a ≤ q.a := by
  apply Classical.byContradiction
  intro hn
  have : evLt q p = true := by
    unfold evLt
    rw [if_pos (by omega)]
    exact decide_eq_true (by omega)
  rw [this] at h
  cases h
theorem Srt.asc {l : List Ev} (h : Srt l) : l.Pairwise (fun p q => p.a ≤ q.a) := List.Pairwise.imp evLt_a h
def upTo (l : List Ev) (t : Int) : List Ev := l.filter (fun z => decide (z.a ≤ t))
def atT (l : List Ev) (t : Int) : List Ev := l.filter (fun y => y.a == t)
def later (l : List Ev) (t : Int) : List Ev := l.filter (fun z => decide (t < z.a))
theorem filt_none {l : List Ev} {p : Ev → Bool} (h : ∀ z ∈ l, p z = false) : l.filter p = [] := List.filter_eq_nil_iff.2 fun z hz => by simp [h z hz]
theorem upTo_next : ∀ {l : List Ev}, l.Pairwise (fun p q => p.a ≤ q.a) → ∀ {t n : Int}, t < n → (∀ z ∈ l, t < z.a → n ≤ z.a) → upTo l n = upTo l t ++ atT l n
  | [], _, _, _, _, _ => rfl
  | x :: r, h, t, n, hlt, hz => by
    obtain ⟨h1, h2⟩ := List.pairwise_cons.1 h
    have ih := upTo_next h2 hlt (fun z hz' => hz z (List.mem_cons_of_mem _ hz'))
    by_cases hx : x.a ≤ t
    · have e1 : upTo (x :: r) n = x :: upTo r n := List.filter_cons_of_pos (by simp; omega)
      have e2 : upTo (x :: r) t = x :: upTo r t := List.filter_cons_of_pos (by simp; omega)
      have e3 : atT (x :: r) n = atT r n := List.filter_cons_of_neg (by simp; omega)
      rw [e1, e2, e3, ih, List.cons_append]
    · have e2 : upTo (x :: r) t = [] := filt_none fun z hz' => by
        rcases List.mem_cons.1 hz' with rfl | hz'
        · simp; omega
        · have := h1 z hz'; simp; omega
      rw [e2, List.nil_append]
      have hn := hz x (by simp) (by omega)
      unfold upTo atT
      apply List.filter_congr
      intro z hz'
      have : n ≤ z.a := by
        rcases List.mem_cons.1 hz' with rfl | hz'
        · exact hn
        · have := h1 z hz'; omega
      by_cases e : z.a = n
      · simp [e]
      · rw [decide_eq_false (by omega)]
        simp [e]
theorem next_some {l : List Ev} (h : Srt l) {t : Int} {y : Ev} (hy : nextE l t = some y) : y ∈ l ∧ t < y.a ∧ (∀ z ∈ l, t < z.a → y.a ≤ z.a) := by
  unfold nextE at hy
  have h1 := List.find?_some hy
  have h2 := List.mem_of_find?_eq_some hy
  refine ⟨h2, of_decide_eq_true h1, fun z hz hlt => ?_⟩
  rw [List.find?_eq_some_iff_append] at hy
  obtain ⟨_, la, lb, hl, has⟩ := hy
  subst hl
  have hp := h.asc
  rcases List.mem_append.1 hz with hz | hz
  · have := has z hz
    simp at this
    omega
  · rcases List.mem_cons.1 hz with rfl | hz
    · omega
    · exact (List.pairwise_cons.1 (List.pairwise_append.1 hp).2.1).1 z hz
theorem next_none {l : List Ev} {t : Int} (hy : nextE l t = none) : upTo l t = l := by
  unfold nextE at hy
  rw [List.find?_eq_none] at hy
  unfold upTo
  rw [List.filter_eq_self]
  intro z hz
  have := hy z hz
  simp at this
  simpa using this
theorem later_less {l : List Ev} {t : Int} {y : Ev} (hm : y ∈ l) (hy : t < y.a) : (later l y.a).length + 1 ≤ (later l t).length := by
  unfold later
  rw [← List.countP_eq_length_filter, ← List.countP_eq_length_filter]
  induction l with
  | nil => cases hm
  | cons x r ih =>
    rw [List.countP_cons, List.countP_cons]
    have hmono : List.countP (fun z => decide (y.a < z.a)) r ≤ List.countP (fun z => decide (t < z.a)) r := by
      apply List.countP_mono_left
      intro z _ hz
      simp only [decide_eq_true_eq] at hz ⊢
      omega
    rcases List.mem_cons.1 hm with rfl | hm
    · rw [if_neg (by simp), if_pos (by simpa using hy)]
      omega
    · have := ih hm
      by_cases h1 : y.a < x.a
      · rw [if_pos (by simpa using h1), if_pos (by simp; omega)]
        omega
      · rw [if_neg (by simpa using h1)]
        split <;> omega
theorem atT_a {l : List Ev} {t : Int} : ∀ z ∈ atT l t, z.a = t := fun z hz => by
  have := (List.mem_filter.1 hz).2
  simpa using this
theorem atT_pos {l : List Ev} {y : Ev} (hm : y ∈ l) : 0 < (atT l y.a).length := List.length_pos_of_mem (List.mem_filter.2 ⟨hm, by simp⟩)
/-- of those up to a time the ones below another -/
def early (l : List Ev) (t b : Int) : List Ev := (upTo l t).filter (fun z => decide (z.a < b))
theorem early_next {l : List Ev} {t n b : Int} (h : upTo l n = upTo l t ++ atT l n) : early l n b = early l t b ++ (if n < b then atT l n else []) := by
  unfold early
  rw [h, List.filter_append]
  congr 1
  split
  · rw [List.filter_eq_self]
    intro z hz
    rw [atT_a z hz]
    simpa using ‹n < b›
  · apply filt_none
    intro z hz
    rw [atT_a z hz]
    simpa using ‹¬ n < b›
theorem upTo_start {l : List Ev} (h : ∀ x ∈ l, 0 ≤ x.a) : upTo l (-1) = [] := filt_none fun z hz => by have := h z hz; simp; omega
end Go.Proofs.Ytecobebndjnhnaa
