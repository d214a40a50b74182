/-
  Messages less antis: plainly.
-/
import Derived.Test.YtbplomnoapndnaaRetP
import Derived.Test.YtbplomnoapndnaaPutAt
namespace Go.Proofs.Ytbplomnoapndnaa
open Go.RowKit

/-- events of messages less the antis'; none: an anti takes back what is not there -/
def lessF : List Ev → List Msg → Option (List Ev)
  | out, [] => some out
  | out, m :: r => if m.2 then (if m.1 ∈ out then lessF (out.erase m.1) r else none) else lessF (out ++ [m.1]) r
theorem lessF_append : ∀ (a : List Msg) {out o2 : List Ev} (b : List Msg), lessF out a = some o2 → lessF out (a ++ b) = lessF o2 b
  | [], out, o2, b, h => by
    injection h with h
    rw [h]
    rfl
  | m :: r, out, o2, b, h => by
    unfold lessF at h
    rw [List.cons_append]
    conv => lhs; unfold lessF
    split at h
    · rename_i h1
      rw [if_pos h1]
      split at h
      · rename_i h2
        rw [if_pos h2]
        exact lessF_append r b h
      · cases h
    · rename_i h1
      rw [if_neg h1]
      exact lessF_append r b h
theorem lessF_news : ∀ (l out : List Ev), lessF out (l.map (fun e => (e, false))) = some (out ++ l)
  | [], out => by simp [lessF]
  | e :: r, out => by
    rw [List.map_cons]
    unfold lessF
    simp only [Bool.false_eq_true, if_false]
    rw [lessF_news r]
    simp
theorem lessF_antis : ∀ (l : List Ev) {out r : List Ev}, out.Perm (l ++ r) → ∃ o2, lessF out (l.map (fun e => (e, true))) = some o2 ∧ o2.Perm r
  | [], out, r, h => ⟨out, rfl, h⟩
  | e :: l, out, r, h => by
    have hm : e ∈ out := h.mem_iff.2 (by simp)
    have h2 : (out.erase e).Perm (l ++ r) := by
      have := List.Perm.erase e h
      simpa using this
    obtain ⟨o2, h3, h4⟩ := lessF_antis l h2
    refine ⟨o2, ?_, h4⟩
    rw [List.map_cons]
    unfold lessF
    simp only [if_true]
    rw [if_pos hm]
    exact h3
theorem evs_perm (p : Rec → Bool) (q : List Rec) : (evs q).Perm ((q.filter p).map (·.1) ++ evs (stay p q)) := by
  unfold evs stay
  rw [← List.map_append]
  refine List.Perm.map _ ?_
  exact (List.filter_append_perm p q).symm
theorem antis_is (p : Rec → Bool) (q : List Rec) : antis p q = ((q.filter p).map (·.1)).map (fun e => (e, true)) := by
  unfold antis
  rw [List.map_map]
  rfl
theorem evs_doubt (a : Int) (q : List Rec) : evs (doubt a q) = evs q := by
  unfold evs doubt
  rw [List.map_map]
  apply List.map_congr_left
  intro r _
  simp only [Function.comp]
  split <;> rfl
theorem evs_mark {q : List Rec} {e : Ev} (hh : rhas q e = true) : evs (rmark q e) = evs q := by
  obtain ⟨c, hc⟩ := rhas_at hh
  have hlt := (List.getElem?_eq_some_iff.1 hc).1
  unfold evs rmark
  rw [List.map_set]
  apply List.ext_getElem?
  intro i
  rw [List.getElem?_set]
  split
  · rename_i h1
    subst h1
    rw [List.length_map, if_pos hlt, List.getElem?_map, hc]
    rfl
  · rfl
theorem evs_ins (q : List Rec) (x : Rec) : (evs (rins q x)).Perm (evs q ++ [x.1]) := by
  unfold evs rins
  rw [List.map_append, List.map_cons]
  refine List.perm_middle.trans ?_
  rw [← List.map_append, List.take_append_drop]
  exact (List.perm_append_singleton _ _).symm
theorem steps_evs (s : List Ev) : ∀ (st : List Rec × List Msg), ∃ N : List Ev, (s.foldl sentStep st).2 = st.2 ++ N.map (fun e => (e, false)) ∧ (evs (s.foldl sentStep st).1).Perm (evs st.1 ++ N) := by
  induction s with
  | nil => intro st; exact ⟨[], by simp, by simp⟩
  | cons e r ih =>
    intro st
    obtain ⟨N, h1, h2⟩ := ih (sentStep st e)
    rw [List.foldl_cons]
    cases hh : rhas st.1 e
    · have es : sentStep st e = (rins st.1 (e, true), st.2 ++ [(e, false)]) := by unfold sentStep; rw [hh]; rfl
      rw [es] at h1 h2 ⊢
      refine ⟨e :: N, by rw [h1]; simp, h2.trans ?_⟩
      have := (evs_ins st.1 (e, true)).append_right N
      simpa using this
    · have es : sentStep st e = (rmark st.1 e, st.2) := by unfold sentStep; rw [hh]; rfl
      rw [es] at h1 h2 ⊢
      refine ⟨N, h1, ?_⟩
      rwa [evs_mark hh] at h2
/-- the messages of a call, less the antis, are the records -/
theorem less_taken (p : Rec → Bool) {q : List Rec} {out : List Ev} (h : out.Perm (evs q)) : ∃ o2, lessF out (antis p q) = some o2 ∧ o2.Perm (evs (stay p q)) := by
  rw [antis_is]
  exact lessF_antis _ (h.trans (evs_perm p q))
theorem less_ans {k a : Int} {l : List Ev} {q : List Rec} {out : List Ev} (h : out.Perm (evs q)) : ∃ o2, lessF out (ansM k a l q) = some o2 ∧ o2.Perm (evs (ansQ k a l q)) := by
  unfold ansM ansQ
  split
  · unfold sentM sentQ
    split
    · unfold sentFrom
      obtain ⟨o2, h1, h2⟩ := less_taken (sentP a (esort l)) h
      obtain ⟨N, h3, h4⟩ := steps_evs (esort l) (stay (sentP a (esort l)) q, antis (sentP a (esort l)) q)
      refine ⟨o2 ++ N, ?_, ?_⟩
      · rw [h3, lessF_append _ _ h1, lessF_news]
      · exact (List.Perm.append_right N h2).trans h4.symm
    · exact ⟨out, rfl, h⟩
  · split
    · exact less_taken _ h
    · split
      · exact ⟨out, rfl, by rw [evs_doubt]; exact h⟩
      · split
        · exact less_taken _ h
        · exact ⟨out, rfl, h⟩
/-- sorted, the events that are left are the records -/
theorem less_sort {q : List Rec} {out s : List Ev} (hq : RSrt q) (h : out.Perm (evs q)) (hs : SrtS s) (hp : s.Perm out) : s = evs q := by
  refine List.Perm.eq_of_pairwise (le := fun p q => sLt q p = false) (fun _ _ _ _ h1 h2 => sLt_total h2 h1) hs ?_ (hp.trans h)
  unfold evs
  rw [List.pairwise_map]
  exact List.Pairwise.imp (fun h => sLt_asymm h) hq
end Go.Proofs.Ytbplomnoapndnaa
