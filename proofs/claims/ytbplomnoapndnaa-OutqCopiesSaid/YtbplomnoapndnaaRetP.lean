/-
  A record that came back, and is sent again: plainly.
-/
import Derived.Test.YtbplomnoapndnaaAgain
namespace Go.Proofs.Ytbplomnoapndnaa
open Go.RowKit

theorem rrem_mem {q : List Rec} (h : RSrt q) {x : Ev} (hh : rhas q x = true) (y : Ev) (b : Bool) : (y, b) ∈ rrem q x ↔ y ≠ x ∧ (y, b) ∈ q := by
  obtain ⟨c, hc⟩ := rhas_at hh
  have hlt := (List.getElem?_eq_some_iff.1 hc).1
  have e2 : q = q.take (rpos q x) ++ (x, c) :: q.drop (rpos q x + 1) := by
    rw [← (List.getElem?_eq_some_iff.1 hc).2, ← List.drop_eq_getElem_cons hlt, List.take_append_drop]
  have e1 : (y, b) ∈ q ↔ (y, b) ∈ q.take (rpos q x) ∨ (y, b) = (x, c) ∨ (y, b) ∈ q.drop (rpos q x + 1) := by
    constructor
    · intro hm
      rw [e2, List.mem_append, List.mem_cons] at hm
      exact hm
    · intro hm
      rw [e2, List.mem_append, List.mem_cons]
      exact hm
  unfold rrem
  rw [List.mem_append]
  constructor
  · rintro (h1 | h1)
    · exact ⟨h.mem_uniq hc (.inl h1), e1.2 (.inl h1)⟩
    · exact ⟨h.mem_uniq hc (.inr h1), e1.2 (.inr (.inr h1))⟩
  · rintro ⟨hne, hm⟩
    rcases e1.1 hm with h1 | h1 | h1
    · exact .inl h1
    · injection h1 with h2 _
      exact absurd h2 hne
    · exact .inr h1
theorem rrem_has {q : List Rec} (h : RSrt q) {x : Ev} (hh : rhas q x = true) : rhas (rrem q x) x = false := by
  cases h1 : rhas (rrem q x) x
  · rfl
  · obtain ⟨b, hb⟩ := (rhas_mem (h.rem_ x) x).1 h1
    exact absurd rfl ((rrem_mem h hh x b).1 hb).1
theorem filter_one : ∀ {s : List Ev} {x : Ev}, s.Nodup → x ∈ s → s.filter (fun e => decide (e = x)) = [x]
  | [], _, _, h => by simp at h
  | a :: r, x, hn, h => by
    obtain ⟨h1, h2⟩ := List.nodup_cons.1 hn
    by_cases hax : a = x
    · subst hax
      rw [List.filter_cons_of_pos (by simp)]
      rw [List.filter_eq_nil_iff.2 (fun e he => by
        simp only [decide_eq_true_eq]
        intro hea
        exact h1 (hea ▸ he))]
    · rw [List.filter_cons_of_neg (by simp [hax])]
      rcases List.mem_cons.1 h with h | h
      · exact absurd h.symm hax
      · exact filter_one h2 h
/-- what came back goes out anew, and nothing else does -/
theorem again_one {a : Int} {m : List Ev} {q : List Rec} (h : RSrt q) (hz : wrongE a m (doubt a q) = 0) {x : Ev} (hx : x ∈ m) : sentM a m (doubt a (rrem (sentQ a m (doubt a q)) x)) = [(x, false)] := by
  have hm := (wrong_doubt q).1 hz
  have h1 : RSrt (doubt a q) := h.doubt a
  have h2 : RSrt (sentQ a m (doubt a q)) := sentQ_srt h1
  have hh : rhas (sentQ a m (doubt a q)) x = true := (rhas_mem h2 x).2 ⟨true, (sentQ_mem h1 hz x true).2 (.inl ⟨hx, rfl⟩)⟩
  have h2r : RSrt (rrem (sentQ a m (doubt a q)) x) := h2.rem_ x
  have h3 : RSrt (doubt a (rrem (sentQ a m (doubt a q)) x)) := h2r.doubt a
  have hz3 : wrongE a m (doubt a (rrem (sentQ a m (doubt a q)) x)) = 0 := (wrong_doubt _).2 hm
  have hno : ∀ r ∈ doubt a (rrem (sentQ a m (doubt a q)) x), sentP a (esort m) r = false := by
    rintro ⟨y, b⟩ hr
    cases hs : sentP a (esort m) (y, b)
    · rfl
    · exfalso
      have hp := (sentP_iff a m (y, b)).1 hs
      simp only at hp
      rcases doubt_mem.1 hr with ⟨ha, rfl, c, hc⟩ | ⟨ha, hc⟩
      · have hc := ((rrem_mem h2 hh y c).1 hc).2
        rcases hp with ⟨ht, hy⟩ | ⟨ht, _⟩
        · rcases (sentQ_mem h1 hz y c).1 hc with ⟨hy2, _⟩ | ⟨_, _, hf⟩
          · exact hy hy2
          · rw [(sentP_iff a m (y, c)).2 (.inl ⟨ht, hy⟩)] at hf
            cases hf
        · omega
      · have hc := ((rrem_mem h2 hh y b).1 hc).2
        rcases hp with ⟨ht, _⟩ | ⟨_, hb⟩
        · omega
        · rcases (sentQ_mem h1 hz y b).1 hc with ⟨hy2, _⟩ | ⟨_, _, hf⟩
          · have := hm.1 y hy2
            omega
          · rw [(sentP_iff a m (y, b)).2 (.inr ⟨ha, hb⟩)] at hf
            cases hf
  rw [sentM_is h3 hz3]
  have e1 : antis (sentP a (esort m)) (doubt a (rrem (sentQ a m (doubt a q)) x)) = [] := by
    unfold antis
    rw [List.filter_eq_nil_iff.2 (fun r hr => by rw [hno r hr]; simp)]
    rfl
  have e2 : (esort m).filter (fun e => !rhas (stay (sentP a (esort m)) (doubt a (rrem (sentQ a m (doubt a q)) x))) e) = [x] := by
    rw [← filter_one ((esort_perm m).nodup_iff.2 hm.2) ((esort_perm m).mem_iff.2 hx)]
    apply List.filter_congr
    intro e he
    have hem := (esort_perm m).mem_iff.1 he
    by_cases hex : e = x
    · subst hex
      have : rhas (stay (sentP a (esort m)) (doubt a (rrem (sentQ a m (doubt a q)) e))) e = false := by
        cases h5 : rhas (stay (sentP a (esort m)) (doubt a (rrem (sentQ a m (doubt a q)) e))) e
        · rfl
        · obtain ⟨b, hb⟩ := (rhas_mem (h3.stay _) e).1 h5
          unfold stay at hb
          rcases doubt_mem.1 (List.mem_filter.1 hb).1 with ⟨_, _, c, hc⟩ | ⟨_, hc⟩
          · exact absurd rfl ((rrem_mem h2 hh e c).1 hc).1
          · exact absurd rfl ((rrem_mem h2 hh e b).1 hc).1
      rw [this]
      simp
    · have hin : (e, false) ∈ doubt a (rrem (sentQ a m (doubt a q)) x) := doubt_mem.2 (.inl ⟨by have := hm.1 e hem; omega, rfl, true, (rrem_mem h2 hh e true).2 ⟨hex, (sentQ_mem h1 hz e true).2 (.inl ⟨hem, rfl⟩)⟩⟩)
      have hst : (e, false) ∈ stay (sentP a (esort m)) (doubt a (rrem (sentQ a m (doubt a q)) x)) := by
        unfold stay
        rw [List.mem_filter]
        exact ⟨hin, by rw [hno _ hin]; rfl⟩
      rw [(rhas_mem (h3.stay _) e).2 ⟨false, hst⟩]
      simp [hex]
  rw [e1, e2]
  rfl
end Go.Proofs.Ytbplomnoapndnaa
