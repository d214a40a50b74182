/-
  In which order what Sent answers is: plainly.
-/
import Derived.Test.YtbplomnoapndnaaRetP
namespace Go.Proofs.Ytbplomnoapndnaa
open Go.RowKit

/-- messages, the first K of them antis in order, the others not, in order -/
structure OrdM (M : List Msg) (K : Nat) : Prop where
  k : K ≤ M.length
  anti : ∀ i x, M[i]? = some x → x.2 = decide (i < K)
  a : ∀ i x y, i + 1 < K → M[i]? = some x → M[i + 1]? = some y → sLt y.1 x.1 = false
  n : ∀ i x y, K ≤ i → M[i]? = some x → M[i + 1]? = some y → evLt x.1 y.1 = true
theorem OrdM.of {A N : List Ev} (hA : A.Pairwise (fun p q => sLt p q = true)) (hN : N.Pairwise (fun p q => evLt p q = true)) : OrdM (A.map (fun e => (e, true)) ++ N.map (fun e => (e, false))) A.length := by
  refine ⟨by simp, fun i x hx => ?_, fun i x y hi hx hy => ?_, fun i x y hi hx hy => ?_⟩
  · rw [List.getElem?_append] at hx
    split at hx
    · rename_i h1
      rw [List.length_map] at h1
      rw [List.getElem?_map] at hx
      obtain ⟨e, _, rfl⟩ := Option.map_eq_some_iff.1 hx
      simp [h1]
    · rename_i h1
      rw [List.length_map] at h1
      rw [List.getElem?_map] at hx
      obtain ⟨e, _, rfl⟩ := Option.map_eq_some_iff.1 hx
      simp [h1]
  · rw [List.getElem?_append_left (by rw [List.length_map]; omega), List.getElem?_map] at hx hy
    obtain ⟨e, he, rfl⟩ := Option.map_eq_some_iff.1 hx
    obtain ⟨f, hf, rfl⟩ := Option.map_eq_some_iff.1 hy
    obtain ⟨h1, h2⟩ := List.getElem?_eq_some_iff.1 he
    obtain ⟨h3, h4⟩ := List.getElem?_eq_some_iff.1 hf
    have := List.pairwise_iff_getElem.1 hA i (i + 1) h1 h3 (by omega)
    rw [h2, h4] at this
    exact sLt_asymm this
  · rw [List.getElem?_append_right (by rw [List.length_map]; omega), List.getElem?_map] at hx hy
    obtain ⟨e, he, rfl⟩ := Option.map_eq_some_iff.1 hx
    obtain ⟨f, hf, rfl⟩ := Option.map_eq_some_iff.1 hy
    rw [List.length_map] at he hf
    obtain ⟨h1, h2⟩ := List.getElem?_eq_some_iff.1 he
    obtain ⟨h3, h4⟩ := List.getElem?_eq_some_iff.1 hf
    have := List.pairwise_iff_getElem.1 hN (i - A.length) (i + 1 - A.length) h1 h3 (by omega)
    rw [h2, h4] at this
    exact this
theorem srt_strict : ∀ {l : List Ev}, Srt l → l.Nodup → l.Pairwise (fun p q => evLt p q = true)
  | [], _, _ => List.Pairwise.nil
  | a :: r, h, hn => by
    obtain ⟨h1, h2⟩ := List.pairwise_cons.1 h
    obtain ⟨n1, n2⟩ := List.nodup_cons.1 hn
    refine List.pairwise_cons.2 ⟨fun p hp => ?_, srt_strict h2 n2⟩
    cases hq : evLt a p
    · have := evLt_total hq (h1 p hp)
      subst this
      exact absurd hp n1
    · rfl
theorem ord_sent {a : Int} {m : List Ev} {q : List Rec} (h : RSrt q) (hz : wrongE a m q = 0) : ∃ K, OrdM (sentM a m q) K := by
  refine ⟨((q.filter (sentP a (esort m))).map (·.1)).length, ?_⟩
  rw [sentM_is h hz]
  have e1 : antis (sentP a (esort m)) q = ((q.filter (sentP a (esort m))).map (·.1)).map (fun e => (e, true)) := by
    unfold antis
    rw [List.map_map]
    rfl
  rw [e1]
  refine OrdM.of ?_ ?_
  · rw [List.pairwise_map]
    exact List.Pairwise.sublist List.filter_sublist h
  · refine List.Pairwise.sublist List.filter_sublist ?_
    exact srt_strict (esort_srt m) ((esort_perm m).nodup_iff.2 (wrong_zero.1 hz).2.1)
theorem wrong_codes (a : Int) (m : List Ev) (q : List Rec) : wrongE a m (doubt a q) = 0 ∨ wrongE a m (doubt a q) = 1 ∨ wrongE a m (doubt a q) = 13 := by
  by_cases h : wrongE a m (doubt a q) = 0
  · exact .inl h
  · refine .inr ?_
    have h1 : ¬ ((∀ e ∈ m, e.t = a) ∧ m.Nodup) := fun hh => h ((wrong_doubt q).2 hh)
    unfold wrongE
    by_cases h2 : m.any (fun e => e.t != a) = true
    · rw [if_pos h2]
      exact .inl rfl
    · rw [if_neg h2]
      by_cases h3 : m.Nodup
      · exfalso
        refine h1 ⟨fun e he => ?_, h3⟩
        rw [List.any_eq_true] at h2
        cases hq : decide (e.t = a)
        · exact absurd ⟨e, he, by simpa using hq⟩ h2
        · exact of_decide_eq_true hq
      · rw [if_neg h3]
        exact .inr rfl
theorem sentM_bad {a : Int} {m : List Ev} {q : List Rec} (h : wrongE a m q ≠ 0) : sentM a m q = [] := by unfold sentM; rw [if_neg h]
theorem sentQ_bad {a : Int} {m : List Ev} {q : List Rec} (h : wrongE a m q ≠ 0) : sentQ a m q = q := by unfold sentQ; rw [if_neg h]
end Go.Proofs.Ytbplomnoapndnaa
