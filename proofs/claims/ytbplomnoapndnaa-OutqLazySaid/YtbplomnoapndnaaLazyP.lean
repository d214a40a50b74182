/-
  At once, or lazily: plainly.
-/
import Derived.Test.YtbplomnoapndnaaLessP
namespace Go.Proofs.Ytbplomnoapndnaa
open Go.RowKit

theorem rsrt_ext : ∀ {p q : List Rec}, RSrt p → RSrt q → (∀ r, r ∈ p ↔ r ∈ q) → p = q
  | [], [], _, _, _ => rfl
  | [], b :: q, _, _, h => by have := (h b).2 (by simp); cases this
  | a :: p, [], _, _, h => by have := (h a).1 (by simp); cases this
  | a :: p, b :: q, hp, hq, h => by
    obtain ⟨p1, p2⟩ := List.pairwise_cons.1 hp
    obtain ⟨q1, q2⟩ := List.pairwise_cons.1 hq
    have hab : a = b := by
      rcases List.mem_cons.1 ((h a).1 (by simp)) with h1 | h1
      · exact h1
      · rcases List.mem_cons.1 ((h b).2 (by simp)) with h2 | h2
        · exact h2.symm
        · have h3 := p1 b h2
          have h4 := q1 a h1
          rw [sLt_asymm h3] at h4
          cases h4
    subst hab
    rw [rsrt_ext p2 q2 (fun r => ?_)]
    constructor
    · intro hr
      rcases List.mem_cons.1 ((h r).1 (by simp [hr])) with h1 | h1
      · subst h1
        have := p1 r hr
        rw [sLt_irrefl] at this
        cases this
      · exact h1
    · intro hr
      rcases List.mem_cons.1 ((h r).2 (by simp [hr])) with h1 | h1
      · subst h1
        have := q1 r hr
        rw [sLt_irrefl] at this
        cases this
      · exact h1
def doubtN (q : List Rec) : Nat := q.countP (fun r => !r.2)
/-- one queue takes back at once, the other one lazily -/
structure Lz (qa qb : List Rec) (x y : Nat) : Prop where
  sa : RSrt qa
  sb : RSrt qb
  all : ∀ r ∈ qa, r.2 = true
  same : ∀ e, (e, true) ∈ qb ↔ (e, true) ∈ qa
  t : ∀ r ∈ qb, r.1.t ≤ 549755813888
  n : y + doubtN qb ≤ x
theorem Lz.sure {qa qb : List Rec} {x y : Nat} (h : Lz qa qb x y) : qb.filter (·.2) = qa := by
  refine rsrt_ext (List.Pairwise.sublist List.filter_sublist h.sb) h.sa (fun r => ?_)
  obtain ⟨e, b⟩ := r
  rw [List.mem_filter]
  constructor
  · rintro ⟨h1, h2⟩
    simp only at h2
    subst h2
    exact (h.same e).1 h1
  · intro h1
    have h2 := h.all _ h1
    simp only at h2
    subst h2
    exact ⟨(h.same e).2 h1, rfl⟩
theorem doubt_le (a : Int) : ∀ q : List Rec, doubtN (doubt a q) ≤ doubtN q + ((q.filter (·.2)).filter (backP a)).length
  | [] => by simp [doubtN, doubt]
  | r :: q => by
    have ih := doubt_le a q
    obtain ⟨e, b⟩ := r
    have e1 : doubt a ((e, b) :: q) = (if a ≤ e.t then (e, false) else (e, b)) :: doubt a q := rfl
    rw [e1]
    unfold doubtN at ih ⊢
    rw [List.countP_cons, List.countP_cons]
    cases b
    · rw [List.filter_cons_of_neg (by simp)]
      by_cases h : a ≤ e.t
      · rw [if_pos h]
        simp only [Bool.not_false, if_true]
        omega
      · rw [if_neg h]
        simp only [Bool.not_false, if_true]
        omega
    · rw [List.filter_cons_of_pos rfl]
      by_cases h : a ≤ e.t
      · rw [if_pos h, List.filter_cons_of_pos (by unfold backP; simp [h])]
        simp only [Bool.not_true, Bool.not_false, Bool.false_eq_true, if_false, if_true, List.length_cons]
        omega
      · rw [if_neg h, List.filter_cons_of_neg (by unfold backP; simp [h])]
        simp only [Bool.not_true, Bool.not_false, Bool.false_eq_true, if_false, if_true, List.length_cons]
        omega
theorem Lz.back {qa qb : List Rec} {x y : Nat} (h : Lz qa qb x y) (a : Int) : Lz (stay (backP a) qa) (doubt a qb) (x + (antis (backP a) qa).length) y := by
  refine ⟨h.sa.stay _, h.sb.doubt a, fun r hr => ?_, fun e => ?_, fun r hr => ?_, ?_⟩
  · unfold stay at hr
    exact h.all r (List.mem_filter.1 hr).1
  · rw [doubt_mem]
    unfold stay
    rw [List.mem_filter, ← h.same]
    constructor
    · rintro (⟨_, h1, _⟩ | ⟨h1, h2⟩)
      · cases h1
      · refine ⟨h2, ?_⟩
        unfold backP
        simp only [Bool.not_eq_true', decide_eq_false_iff_not]
        omega
    · rintro ⟨h1, h2⟩
      unfold backP at h2
      simp only [Bool.not_eq_true', decide_eq_false_iff_not] at h2
      exact .inr ⟨by omega, h1⟩
  · obtain ⟨e, b⟩ := r
    rcases doubt_mem.1 hr with ⟨_, _, c, hc⟩ | ⟨_, hc⟩
    · exact h.t (e, c) hc
    · exact h.t (e, b) hc
  · have h1 := doubt_le a qb
    rw [h.sure] at h1
    have h2 := h.n
    unfold antis
    rw [List.length_map]
    omega
theorem doubt_step (st : List Rec × List Msg) (e : Ev) : doubtN (sentStep st e).1 ≤ doubtN st.1 := by
  unfold sentStep
  split
  · rename_i hh
    obtain ⟨c, hc⟩ := rhas_at hh
    have hlt := (List.getElem?_eq_some_iff.1 hc).1
    unfold rmark doubtN
    simp only
    rw [List.set_eq_take_append_cons_drop, if_pos hlt]
    conv => rhs; rw [← List.take_append_drop (rpos st.1 e) st.1, List.drop_eq_getElem_cons hlt]
    rw [List.countP_append, List.countP_append, List.countP_cons, List.countP_cons]
    simp
  · unfold rins doubtN
    simp only
    conv => rhs; rw [← List.take_append_drop (rpos st.1 e) st.1]
    rw [List.countP_append, List.countP_append, List.countP_cons]
    simp
theorem doubt_steps (s : List Ev) : ∀ (st : List Rec × List Msg), doubtN (s.foldl sentStep st).1 ≤ doubtN st.1 := by
  induction s with
  | nil => intro st; exact Nat.le_refl _
  | cons e r ih =>
    intro st
    rw [List.foldl_cons]
    exact Nat.le_trans (ih _) (doubt_step st e)
theorem doubt_stay (p : Rec → Bool) : ∀ q : List Rec, (∀ r ∈ q, p r = true → r.2 = false) → doubtN (stay p q) + (q.filter p).length = doubtN q
  | [], _ => by simp [doubtN, stay]
  | r :: q, h => by
    have ih := doubt_stay p q (fun r hr => h r (by simp [hr]))
    unfold doubtN stay at ih ⊢
    cases hp : p r
    · simp [hp, List.countP_cons]
      omega
    · have := h r (by simp) hp
      simp [hp, this, List.countP_cons]
      omega
theorem sure_stays {a : Int} {m : List Ev} {q : List Rec} (hz : wrongE a m q = 0) (r : Rec) (hr : r ∈ q) (hs : r.2 = true) : sentP a (esort m) r = false := by
  cases h : sentP a (esort m) r
  · rfl
  · have h1 := (wrong_zero.1 hz).2.2 r hr hs
    rcases (sentP_iff a m r).1 h with ⟨h2, _⟩ | ⟨_, h2⟩
    · omega
    · rw [hs] at h2
      cases h2
theorem Lz.sent {qa qb : List Rec} {x y : Nat} (h : Lz qa qb x y) (a : Int) (m : List Ev) (ha : a ≤ 549755813888) : Lz (sentQ a m qa) (sentQ a m qb) (x + (sentM a m qa).length) (y + (sentM a m qb).length) := by
  have hw : wrongE a m qa = 0 ↔ wrongE a m qb = 0 := by
    rw [wrong_zero, wrong_zero]
    constructor
    · rintro ⟨h1, h2, h3⟩
      refine ⟨h1, h2, fun r hr hs => ?_⟩
      obtain ⟨e, b⟩ := r
      simp only at hs
      subst hs
      exact h3 _ ((h.same e).1 hr) rfl
    · rintro ⟨h1, h2, h3⟩
      refine ⟨h1, h2, fun r hr hs => ?_⟩
      obtain ⟨e, b⟩ := r
      simp only at hs
      subst hs
      exact h3 _ ((h.same e).2 hr) rfl
  by_cases hz : wrongE a m qa = 0
  · have hzb := hw.1 hz
    have sm : ∀ e, (e, true) ∈ sentQ a m qb ↔ (e, true) ∈ sentQ a m qa := fun e => by
      rw [sentQ_mem h.sa hz, sentQ_mem h.sb hzb]
      constructor
      · rintro (h1 | ⟨h1, h2, h3⟩)
        · exact .inl h1
        · exact .inr ⟨h1, (h.same e).1 h2, h3⟩
      · rintro (h1 | ⟨h1, h2, h3⟩)
        · exact .inl h1
        · exact .inr ⟨h1, (h.same e).2 h2, h3⟩
    refine ⟨sentQ_srt h.sa, sentQ_srt h.sb, fun r hr => ?_, sm, fun r hr => ?_, ?_⟩
    · obtain ⟨e, b⟩ := r
      rcases (sentQ_mem h.sa hz e b).1 hr with ⟨_, h1⟩ | ⟨_, h1, _⟩
      · exact h1
      · exact h.all _ h1
    · obtain ⟨e, b⟩ := r
      rcases (sentQ_mem h.sb hzb e b).1 hr with ⟨h1, _⟩ | ⟨_, h1, _⟩
      · have := (wrong_zero.1 hz).1 e h1
        simp only
        omega
      · exact h.t _ h1
    · have e1 : (sentM a m qa).length = m.length := by
        rw [sentM_is h.sa hz]
        have e2 : antis (sentP a (esort m)) qa = [] := by
          unfold antis
          rw [List.filter_eq_nil_iff.2 (fun r hr => by rw [sure_stays hz r hr (h.all r hr)]; simp)]
          rfl
        have e3 : (esort m).filter (fun e => !rhas (stay (sentP a (esort m)) qa) e) = esort m := by
          rw [List.filter_eq_self]
          intro e he
          have hem := (esort_perm m).mem_iff.1 he
          cases hh : rhas (stay (sentP a (esort m)) qa) e
          · rfl
          · exfalso
            obtain ⟨b, hb⟩ := (rhas_mem (h.sa.stay _) e).1 hh
            unfold stay at hb
            have hb := (List.mem_filter.1 hb).1
            have h1 := (wrong_zero.1 hz).2.2 _ hb (h.all _ hb)
            have h2 := (wrong_zero.1 hz).1 e hem
            simp only at h1
            omega
        rw [e2, e3]
        simp [(esort_perm m).length_eq]
      have e2 : (sentM a m qb).length ≤ (antis (sentP a (esort m)) qb).length + m.length := by
        unfold sentM sentFrom
        rw [if_pos hzb]
        have := (steps_le (esort m) (stay (sentP a (esort m)) qb, antis (sentP a (esort m)) qb)).2
        rw [(esort_perm m).length_eq] at this
        exact this
      have e3 : doubtN (sentQ a m qb) ≤ doubtN (stay (sentP a (esort m)) qb) := by
        unfold sentQ sentFrom
        rw [if_pos hzb]
        exact doubt_steps _ _
      have e4 := doubt_stay (sentP a (esort m)) qb (fun r hr hp => by
        cases hs : r.2
        · rfl
        · rw [sure_stays hzb r hr hs] at hp
          cases hp)
      have e5 : (antis (sentP a (esort m)) qb).length = (qb.filter (sentP a (esort m))).length := by
        unfold antis
        rw [List.length_map]
      have := h.n
      omega
  · have hzb : ¬ wrongE a m qb = 0 := fun hh => hz (hw.2 hh)
    unfold sentQ sentM
    rw [if_neg hz, if_neg hz, if_neg hzb, if_neg hzb]
    exact h
theorem Lz.new : Lz [] [] 0 0 where
  sa := List.Pairwise.nil
  sb := List.Pairwise.nil
  all := by simp
  same := by simp
  t := by simp
  n := by simp [doubtN]
/-- at the end all that is not sure is flushed -/
theorem Lz.flush {qa qb : List Rec} {x y : Nat} (h : Lz qa qb x y) : stay (flushP 1099511627776) qb = qa ∧ y + (antis (flushP 1099511627776) qb).length ≤ x := by
  constructor
  · rw [← h.sure]
    unfold stay
    apply List.filter_congr
    intro r hr
    have := h.t r hr
    unfold flushP
    cases hs : r.2
    · simp
      omega
    · simp
  · have h1 := h.n
    have h2 : (antis (flushP 1099511627776) qb).length ≤ doubtN qb := by
      unfold antis doubtN
      rw [List.length_map, ← List.countP_eq_length_filter]
      apply List.countP_mono_left
      intro r _ hp
      unfold flushP at hp
      exact (Bool.and_eq_true _ _ ▸ hp).1
    omega
end Go.Proofs.Ytbplomnoapndnaa
