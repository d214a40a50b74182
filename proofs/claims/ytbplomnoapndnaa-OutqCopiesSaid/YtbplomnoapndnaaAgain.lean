/-
  Sent anew: plainly.
-/
import Derived.Test.YtbplomnoapndnaaSentM
namespace Go.Proofs.Ytbplomnoapndnaa
open Go.RowKit

theorem wrong_zero {a : Int} {m : List Ev} {q : List Rec} : wrongE a m q = 0 ↔ (∀ e ∈ m, e.t = a) ∧ m.Nodup ∧ ∀ r ∈ q, r.2 = true → r.1.t < a := by
  unfold wrongE
  by_cases h1 : m.any (fun e => e.t != a) = true
  · rw [if_pos h1]
    constructor
    · intro h; simp at h
    · rintro ⟨h2, _, _⟩
      obtain ⟨e, he, hx⟩ := List.any_eq_true.1 h1
      simp [h2 e he] at hx
  · rw [if_neg h1]
    have h1' : ∀ e ∈ m, e.t = a := fun e he => by
      rw [List.any_eq_true] at h1
      cases hq : decide (e.t = a)
      · exact absurd ⟨e, he, by simpa using hq⟩ h1
      · exact of_decide_eq_true hq
    by_cases h2 : m.Nodup
    · rw [if_pos h2]
      by_cases h3 : q.any (fun r => r.2 && decide (a ≤ r.1.t)) = true
      · rw [if_pos h3]
        constructor
        · intro h; simp at h
        · rintro ⟨_, _, h4⟩
          obtain ⟨r, hr, hx⟩ := List.any_eq_true.1 h3
          rw [Bool.and_eq_true] at hx
          have := h4 r hr hx.1
          have := of_decide_eq_true hx.2
          omega
      · rw [if_neg h3]
        refine ⟨fun _ => ⟨h1', h2, fun r hr hs => ?_⟩, fun _ => rfl⟩
        rw [List.any_eq_true] at h3
        cases hq : decide (r.1.t < a)
        · have h5 : ¬ r.1.t < a := of_decide_eq_false hq
          exact absurd ⟨r, hr, by rw [hs, Bool.true_and]; exact decide_eq_true (by omega)⟩ h3
        · exact of_decide_eq_true hq
    · rw [if_neg h2]
      constructor
      · intro h; simp at h
      · rintro ⟨_, h3, _⟩
        exact absurd h3 h2
theorem wrong_doubt {a : Int} {m : List Ev} (q : List Rec) : wrongE a m (doubt a q) = 0 ↔ (∀ e ∈ m, e.t = a) ∧ m.Nodup := by
  rw [wrong_zero]
  refine ⟨fun h => ⟨h.1, h.2.1⟩, fun h => ⟨h.1, h.2, fun r hr hs => ?_⟩⟩
  unfold doubt at hr
  obtain ⟨x, hx, rfl⟩ := List.mem_map.1 hr
  split at hs
  · cases hs
  · split
    · omega
    · omega
theorem ehas_mem : ∀ {s : List Ev}, Srt s → ∀ e, ehas s e = true ↔ e ∈ s
  | [], _, e => by simp [ehas]
  | a :: r, h, e => by
    obtain ⟨h1, h2⟩ := List.pairwise_cons.1 h
    have ih := ehas_mem h2 e
    unfold ehas at ih ⊢
    cases ha : evLt a e
    · have hall : ∀ p ∈ r, evLt p e = false := fun p hp => by
        cases hq : evLt p e
        · rfl
        · rw [evLt_of_le (h1 p hp) hq] at ha
          cases ha
      have hp : pos (a :: r) e = 0 := by
        unfold pos
        rw [List.countP_eq_zero]
        intro x hx
        rcases List.mem_cons.1 hx with rfl | hx
        · simp [ha]
        · simp [hall x hx]
      rw [hp]
      simp only [List.getElem?_cons_zero, Option.some.injEq, decide_eq_true_eq]
      constructor
      · rintro rfl; simp
      · intro hm
        rcases List.mem_cons.1 hm with rfl | hm
        · rfl
        · exact evLt_total ha (h1 e hm)
    · have hp : pos (a :: r) e = pos r e + 1 := by unfold pos; rw [List.countP_cons_of_pos (p := fun x => evLt x e) ha]
      rw [hp, List.getElem?_cons_succ, ih, List.mem_cons]
      constructor
      · exact .inr
      · rintro (rfl | hm)
        · rw [evLt_irrefl] at ha; cases ha
        · exact hm
theorem ehas_esort (m : List Ev) (e : Ev) : ehas (esort m) e = true ↔ e ∈ m := by
  rw [ehas_mem (esort_srt m)]
  exact (esort_perm m).mem_iff
/-- is a record taken by Sent of m at a? -/
theorem sentP_iff (a : Int) (m : List Ev) (r : Rec) : sentP a (esort m) r = true ↔ (r.1.t = a ∧ r.1 ∉ m) ∨ (r.1.t < a ∧ r.2 = false) := by
  unfold sentP
  by_cases h : r.1.t = a
  · rw [if_pos h]
    have h1 := ehas_esort m r.1
    cases h2 : ehas (esort m) r.1
    · rw [h2] at h1
      have : r.1 ∉ m := fun hm => by have := h1.2 hm; cases this
      simp [h, this]
    · have : r.1 ∈ m := h1.1 h2
      simp [h, this]
  · rw [if_neg h]
    cases h2 : r.2 <;> simp [h]
theorem sentQ_mem {a : Int} {m : List Ev} {q : List Rec} (h : RSrt q) (hz : wrongE a m q = 0) (x : Ev) (b : Bool) : (x, b) ∈ sentQ a m q ↔ (x ∈ m ∧ b = true) ∨ (x ∉ m ∧ (x, b) ∈ q ∧ sentP a (esort m) (x, b) = false) := by
  unfold sentQ sentFrom
  rw [if_pos hz, steps_mem _ (h.stay _), (esort_perm m).mem_iff]
  simp only [stay, List.mem_filter, Bool.not_eq_true']
theorem sentQ_srt {a : Int} {m : List Ev} {q : List Rec} (h : RSrt q) : RSrt (sentQ a m q) := by
  unfold sentQ sentFrom
  split
  · exact steps_srt _ (h.stay _)
  · exact h
theorem sentM_is {a : Int} {m : List Ev} {q : List Rec} (h : RSrt q) (hz : wrongE a m q = 0) : sentM a m q = antis (sentP a (esort m)) q ++ ((esort m).filter (fun e => !rhas (stay (sentP a (esort m)) q) e)).map (fun e => (e, false)) := by
  unfold sentM sentFrom
  rw [if_pos hz]
  exact steps_msgs _ (h.stay _) ((esort_perm m).nodup_iff.2 (wrong_zero.1 hz).2.1)
theorem doubt_mem {a : Int} {q : List Rec} {x : Ev} {b : Bool} : (x, b) ∈ doubt a q ↔ ((a ≤ x.t ∧ b = false ∧ ∃ c, (x, c) ∈ q) ∨ (x.t < a ∧ (x, b) ∈ q)) := by
  unfold doubt
  rw [List.mem_map]
  constructor
  · rintro ⟨⟨y, c⟩, hy, hx⟩
    simp only at hx
    split at hx
    · injection hx with h1 h2
      subst h1 h2
      exact .inl ⟨‹_›, rfl, c, hy⟩
    · injection hx with h1 h2
      subst h1 h2
      exact .inr ⟨by omega, hy⟩
  · rintro (⟨h1, rfl, c, hc⟩ | ⟨h1, hc⟩)
    · exact ⟨(x, c), hc, by simp [h1]⟩
    · exact ⟨(x, b), hc, by simp; omega⟩
theorem RSrt.doubt {q : List Rec} (h : RSrt q) (a : Int) : RSrt (doubt a q) := by
  rw [RSrt.iff] at h ⊢
  have e : (Go.Proofs.Ytbplomnoapndnaa.doubt a q).map (·.1) = q.map (·.1) := by
    unfold Go.Proofs.Ytbplomnoapndnaa.doubt
    rw [List.map_map]
    apply List.map_congr_left
    intro r _
    simp only [Function.comp]
    split <;> rfl
  rw [e]
  exact h
/-- what is sent again as it was sends nothing -/
theorem again_none {a : Int} {m : List Ev} {q : List Rec} (h : RSrt q) (hz : wrongE a m (doubt a q) = 0) : sentM a m (doubt a (sentQ a m (doubt a q))) = [] := by
  have hm := (wrong_doubt q).1 hz
  have h1 : RSrt (doubt a q) := h.doubt a
  have h2 : RSrt (sentQ a m (doubt a q)) := sentQ_srt h1
  have h3 : RSrt (doubt a (sentQ a m (doubt a q))) := h2.doubt a
  have hz3 : wrongE a m (doubt a (sentQ a m (doubt a q))) = 0 := (wrong_doubt _).2 hm
  have hno : ∀ r ∈ doubt a (sentQ a m (doubt a q)), sentP a (esort m) r = false := by
    rintro ⟨x, b⟩ hr
    cases hs : sentP a (esort m) (x, b)
    · rfl
    · exfalso
      have hp := (sentP_iff a m (x, b)).1 hs
      simp only at hp
      rcases doubt_mem.1 hr with ⟨ha, rfl, c, hc⟩ | ⟨ha, hc⟩
      · rcases hp with ⟨ht, hx⟩ | ⟨ht, _⟩
        · rcases (sentQ_mem h1 hz x c).1 hc with ⟨hx2, _⟩ | ⟨_, _, hf⟩
          · exact hx hx2
          · rw [(sentP_iff a m (x, c)).2 (.inl ⟨ht, hx⟩)] at hf
            cases hf
        · omega
      · rcases hp with ⟨ht, _⟩ | ⟨_, hb⟩
        · omega
        · rcases (sentQ_mem h1 hz x b).1 hc with ⟨hx2, _⟩ | ⟨_, _, hf⟩
          · have := hm.1 x hx2
            omega
          · rw [(sentP_iff a m (x, b)).2 (.inr ⟨ha, hb⟩)] at hf
            cases hf
  rw [sentM_is h3 hz3]
  have e1 : antis (sentP a (esort m)) (doubt a (sentQ a m (doubt a q))) = [] := by
    unfold antis
    rw [List.filter_eq_nil_iff.2 (fun r hr => by rw [hno r hr]; simp)]
    rfl
  have e2 : (esort m).filter (fun e => !rhas (stay (sentP a (esort m)) (doubt a (sentQ a m (doubt a q)))) e) = [] := by
    rw [List.filter_eq_nil_iff]
    intro e he
    have hem := (esort_perm m).mem_iff.1 he
    have hin : (e, false) ∈ doubt a (sentQ a m (doubt a q)) := doubt_mem.2 (.inl ⟨by have := hm.1 e hem; omega, rfl, true, (sentQ_mem h1 hz e true).2 (.inl ⟨hem, rfl⟩)⟩)
    have hst : (e, false) ∈ stay (sentP a (esort m)) (doubt a (sentQ a m (doubt a q))) := by
      unfold stay
      rw [List.mem_filter]
      exact ⟨hin, by rw [hno _ hin]; rfl⟩
    rw [(rhas_mem (h3.stay _) e).2 ⟨false, hst⟩]
    simp
  rw [e1, e2]
  rfl
end Go.Proofs.Ytbplomnoapndnaa
