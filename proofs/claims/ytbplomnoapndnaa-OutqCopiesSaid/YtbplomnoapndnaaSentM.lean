/-
  Which records there are behind Sent, and which messages it answers: plainly.
-/
import Derived.Test.YtbplomnoapndnaaOps
namespace Go.Proofs.Ytbplomnoapndnaa
open Go.RowKit

theorem RSrt.mem_uniq {q : List Rec} (h : RSrt q) {i : Nat} {e : Ev} {b : Bool} (hi : q[i]? = some (e, b)) {x : Ev} {c : Bool} (hx : (x, c) ∈ q.take i ∨ (x, c) ∈ q.drop (i + 1)) : x ≠ e := by
  rintro rfl
  have hlt := (List.getElem?_eq_some_iff.1 hi).1
  have hs := h
  unfold RSrt at hs
  rw [List.pairwise_iff_getElem] at hs
  have hg := (List.getElem?_eq_some_iff.1 hi).2
  rcases hx with hx | hx
  · obtain ⟨j, hj⟩ := List.mem_iff_getElem?.1 hx
    rw [List.getElem?_take] at hj
    split at hj
    · rename_i hji
      obtain ⟨hj1, hj2⟩ := List.getElem?_eq_some_iff.1 hj
      have := hs j i hj1 hlt hji
      rw [hj2, hg] at this
      rw [sLt_irrefl] at this
      cases this
    · cases hj
  · obtain ⟨j, hj⟩ := List.mem_iff_getElem?.1 hx
    rw [List.getElem?_drop] at hj
    obtain ⟨hj1, hj2⟩ := List.getElem?_eq_some_iff.1 hj
    have := hs i (i + 1 + j) hlt hj1 (by omega)
    rw [hj2, hg] at this
    rw [sLt_irrefl] at this
    cases this
theorem step_srt {st : List Rec × List Msg} (h : RSrt st.1) (e : Ev) : RSrt (sentStep st e).1 := by
  unfold sentStep
  cases hh : rhas st.1 e
  · exact h.ins (x := (e, true)) hh
  · obtain ⟨b, hb⟩ := rhas_at hh
    exact h.set hb true
theorem step_mem {st : List Rec × List Msg} (h : RSrt st.1) (e x : Ev) (b : Bool) : (x, b) ∈ (sentStep st e).1 ↔ (x = e ∧ b = true) ∨ (x ≠ e ∧ (x, b) ∈ st.1) := by
  unfold sentStep
  cases hh : rhas st.1 e
  · have hno : ∀ c, (e, c) ∉ st.1 := fun c hc => by
      rw [(rhas_mem h e).2 ⟨c, hc⟩] at hh
      cases hh
    simp only [Bool.false_eq_true, if_false]
    unfold rins
    rw [List.mem_append, List.mem_cons]
    have e1 : (x, b) ∈ st.1 ↔ (x, b) ∈ st.1.take (rpos st.1 e) ∨ (x, b) ∈ st.1.drop (rpos st.1 e) := by
      rw [← List.mem_append, List.take_append_drop]
    constructor
    · rintro (h1 | h1 | h1)
      · exact .inr ⟨fun he => hno b (he ▸ e1.2 (.inl h1)), e1.2 (.inl h1)⟩
      · injection h1 with h2 h3
        exact .inl ⟨h2, h3⟩
      · exact .inr ⟨fun he => hno b (he ▸ e1.2 (.inr h1)), e1.2 (.inr h1)⟩
    · rintro (⟨rfl, rfl⟩ | ⟨_, h1⟩)
      · exact .inr (.inl rfl)
      · rcases e1.1 h1 with h1 | h1
        · exact .inl h1
        · exact .inr (.inr h1)
  · obtain ⟨c, hc⟩ := rhas_at hh
    have hlt := (List.getElem?_eq_some_iff.1 hc).1
    simp only [if_true]
    unfold rmark
    rw [List.set_eq_take_append_cons_drop, if_pos hlt, List.mem_append, List.mem_cons]
    have e1 : (x, b) ∈ st.1 ↔ (x, b) ∈ st.1.take (rpos st.1 e) ∨ (x, b) = (e, c) ∨ (x, b) ∈ st.1.drop (rpos st.1 e + 1) := by
      have e2 : st.1 = st.1.take (rpos st.1 e) ++ (e, c) :: st.1.drop (rpos st.1 e + 1) := by
        rw [← (List.getElem?_eq_some_iff.1 hc).2, ← List.drop_eq_getElem_cons hlt, List.take_append_drop]
      constructor
      · intro hm
        rw [e2, List.mem_append, List.mem_cons] at hm
        exact hm
      · intro hm
        rw [e2, List.mem_append, List.mem_cons]
        exact hm
    constructor
    · rintro (h1 | h1 | h1)
      · exact .inr ⟨h.mem_uniq hc (.inl h1), e1.2 (.inl h1)⟩
      · injection h1 with h2 h3
        exact .inl ⟨h2, h3⟩
      · exact .inr ⟨h.mem_uniq hc (.inr h1), e1.2 (.inr (.inr h1))⟩
    · rintro (⟨rfl, rfl⟩ | ⟨hne, h1⟩)
      · exact .inr (.inl rfl)
      · rcases e1.1 h1 with h1 | h1 | h1
        · exact .inl h1
        · injection h1 with h2 _
          exact absurd h2 hne
        · exact .inr (.inr h1)
theorem steps_srt (s : List Ev) : ∀ {st : List Rec × List Msg}, RSrt st.1 → RSrt (s.foldl sentStep st).1 := by
  induction s with
  | nil => intro st h; exact h
  | cons e r ih => intro st h; exact ih (step_srt h e)
theorem steps_mem (s : List Ev) : ∀ {st : List Rec × List Msg}, RSrt st.1 → ∀ (x : Ev) (b : Bool), (x, b) ∈ (s.foldl sentStep st).1 ↔ (x ∈ s ∧ b = true) ∨ (x ∉ s ∧ (x, b) ∈ st.1) := by
  induction s with
  | nil => intro st _ x b; simp
  | cons e r ih =>
    intro st h x b
    rw [List.foldl_cons, ih (step_srt h e), step_mem h]
    by_cases hxe : x = e
    · subst hxe
      by_cases hr : x ∈ r <;> simp [hr]
    · by_cases hr : x ∈ r <;> simp [hr, hxe]
theorem step_has {st : List Rec × List Msg} (h : RSrt st.1) {e x : Ev} (hne : x ≠ e) : rhas (sentStep st e).1 x = rhas st.1 x := by
  have h1 := rhas_mem (step_srt h e) x
  have h2 := rhas_mem h x
  have h3 : (∃ b, (x, b) ∈ (sentStep st e).1) ↔ ∃ b, (x, b) ∈ st.1 := by
    constructor
    · rintro ⟨b, hb⟩
      rcases (step_mem h e x b).1 hb with ⟨he, _⟩ | ⟨_, hb⟩
      · exact absurd he hne
      · exact ⟨b, hb⟩
    · rintro ⟨b, hb⟩
      exact ⟨b, (step_mem h e x b).2 (.inr ⟨hne, hb⟩)⟩
  have h4 : rhas (sentStep st e).1 x = true ↔ rhas st.1 x = true := h1.trans (h3.trans h2.symm)
  cases ha : rhas (sentStep st e).1 x <;> cases hb : rhas st.1 x <;> simp_all
theorem steps_msgs (s : List Ev) : ∀ {st : List Rec × List Msg}, RSrt st.1 → s.Nodup → (s.foldl sentStep st).2 = st.2 ++ (s.filter (fun e => !rhas st.1 e)).map (fun e => (e, false)) := by
  induction s with
  | nil => intro st _ _; simp
  | cons e r ih =>
    intro st h hn
    obtain ⟨hn1, hn2⟩ := List.nodup_cons.1 hn
    rw [List.foldl_cons, ih (step_srt h e) hn2]
    have e1 : r.filter (fun x => !rhas (sentStep st e).1 x) = r.filter (fun x => !rhas st.1 x) := by
      apply List.filter_congr
      intro x hx
      rw [step_has h (fun (he : x = e) => hn1 (he ▸ hx))]
    rw [e1]
    unfold sentStep
    cases hh : rhas st.1 e
    · simp [hh]
    · simp [hh]
end Go.Proofs.Ytbplomnoapndnaa
