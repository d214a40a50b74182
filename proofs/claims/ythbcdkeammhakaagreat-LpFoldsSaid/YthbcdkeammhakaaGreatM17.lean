/- Chapter 13: OLessP, OLazyP, LpA, LpB, LpC, LpD. -/
import Derived.Test.YthbcdkeammhakaaGreatM16
import Derived.Test.YthbcdkeammhakaaGreatM01
import Derived.Test.YthbcdkeammhakaaGreatM15
import Derived.Test.YthbcdkeammhakaaGreatM13
import Derived.Test.YthbcdkeammhakaaGreatM09
/-
  Messages less antis: plainly.
-/
namespace Go.Proofs.YthbcdkeammhakaaGreat
open Go.RowKit

/-- events of messages less the antis'; none: an anti takes back what is not there -/
def lessF : List Ev → List OMsg → Option (List Ev)
  | out, [] => some out
  | out, m :: r => if m.2 then (if m.1 ∈ out then lessF (out.erase m.1) r else none) else lessF (out ++ [m.1]) r
theorem lessF_append : ∀ (a : List OMsg) {out o2 : List Ev} (b : List OMsg), lessF out a = some o2 → lessF out (a ++ b) = lessF o2 b
  | [], out, o2, b, h => by
    injection h with h
    rw [h]
    rfl
  | m :: r, out, o2, b, h => by
    unfold lessF at h
    rw [List.cons_append]
    conv => lhs; unfold lessF
    split at h
    · rename_i h1
      rw [if_pos h1]
      split at h
      · rename_i h2
        rw [if_pos h2]
        exact lessF_append r b h
      · cases h
    · rename_i h1
      rw [if_neg h1]
      exact lessF_append r b h
theorem lessF_news : ∀ (l out : List Ev), lessF out (l.map (fun e => (e, false))) = some (out ++ l)
  | [], out => by simp [lessF]
  | e :: r, out => by
    rw [List.map_cons]
    unfold lessF
    simp only [Bool.false_eq_true, if_false]
    rw [lessF_news r]
    simp
theorem lessF_antis : ∀ (l : List Ev) {out r : List Ev}, out.Perm (l ++ r) → ∃ o2, lessF out (l.map (fun e => (e, true))) = some o2 ∧ o2.Perm r
  | [], out, r, h => ⟨out, rfl, h⟩
  | e :: l, out, r, h => by
    have hm : e ∈ out := h.mem_iff.2 (by simp)
    have h2 : (out.erase e).Perm (l ++ r) := by
      have := List.Perm.erase e h
      simpa using this
    obtain ⟨o2, h3, h4⟩ := lessF_antis l h2
    refine ⟨o2, ?_, h4⟩
    rw [List.map_cons]
    unfold lessF
    simp only [if_true]
    rw [if_pos hm]
    exact h3
theorem evs_perm (p : Rec → Bool) (q : List Rec) : (evs q).Perm ((q.filter p).map (·.1) ++ evs (stay p q)) := by
  unfold evs stay
  rw [← List.map_append]
  refine List.Perm.map _ ?_
  exact (List.filter_append_perm p q).symm
theorem antis_is (p : Rec → Bool) (q : List Rec) : antis p q = ((q.filter p).map (·.1)).map (fun e => (e, true)) := by
  unfold antis
  rw [List.map_map]
  rfl
theorem evs_doubt (a : Int) (q : List Rec) : evs (doubt a q) = evs q := by
  unfold evs doubt
  rw [List.map_map]
  apply List.map_congr_left
  intro r _
  simp only [Function.comp]
  split <;> rfl
theorem evs_mark {q : List Rec} {e : Ev} (hh : rhas q e = true) : evs (rmark q e) = evs q := by
  obtain ⟨c, hc⟩ := rhas_at hh
  have hlt := (List.getElem?_eq_some_iff.1 hc).1
  unfold evs rmark
  rw [List.map_set]
  apply List.ext_getElem?
  intro i
  rw [List.getElem?_set]
  split
  · rename_i h1
    subst h1
    rw [List.length_map, if_pos hlt, List.getElem?_map, hc]
    rfl
  · rfl
theorem evs_ins (q : List Rec) (x : Rec) : (evs (rins q x)).Perm (evs q ++ [x.1]) := by
  unfold evs rins
  rw [List.map_append, List.map_cons]
  refine List.perm_middle.trans ?_
  rw [← List.map_append, List.take_append_drop]
  exact (List.perm_append_singleton _ _).symm
theorem steps_evs (s : List Ev) : ∀ (st : List Rec × List OMsg), ∃ N : List Ev, (s.foldl sentStep st).2 = st.2 ++ N.map (fun e => (e, false)) ∧ (evs (s.foldl sentStep st).1).Perm (evs st.1 ++ N) := by
  induction s with
  | nil => intro st; exact ⟨[], by simp, by simp⟩
  | cons e r ih =>
    intro st
    obtain ⟨N, h1, h2⟩ := ih (sentStep st e)
    rw [List.foldl_cons]
    cases hh : rhas st.1 e
    · have es : sentStep st e = (rins st.1 (e, true), st.2 ++ [(e, false)]) := by unfold sentStep; rw [hh]; rfl
      rw [es] at h1 h2 ⊢
      refine ⟨e :: N, by rw [h1]; simp, h2.trans ?_⟩
      have := (evs_ins st.1 (e, true)).append_right N
      simpa using this
    · have es : sentStep st e = (rmark st.1 e, st.2) := by unfold sentStep; rw [hh]; rfl
      rw [es] at h1 h2 ⊢
      refine ⟨N, h1, ?_⟩
      rwa [evs_mark hh] at h2
/-- the messages of a call, less the antis, are the records -/
theorem less_taken (p : Rec → Bool) {q : List Rec} {out : List Ev} (h : out.Perm (evs q)) : ∃ o2, lessF out (antis p q) = some o2 ∧ o2.Perm (evs (stay p q)) := by
  rw [antis_is]
  exact lessF_antis _ (h.trans (evs_perm p q))
theorem less_ans {k a : Int} {l : List Ev} {q : List Rec} {out : List Ev} (h : out.Perm (evs q)) : ∃ o2, lessF out (ansM k a l q) = some o2 ∧ o2.Perm (evs (ansQ k a l q)) := by
  unfold ansM ansQ
  split
  · unfold sentM sentQ
    split
    · unfold sentFrom
      obtain ⟨o2, h1, h2⟩ := less_taken (sentP a (esort l)) h
      obtain ⟨N, h3, h4⟩ := steps_evs (esort l) (stay (sentP a (esort l)) q, antis (sentP a (esort l)) q)
      refine ⟨o2 ++ N, ?_, ?_⟩
      · rw [h3, lessF_append _ _ h1, lessF_news]
      · exact (List.Perm.append_right N h2).trans h4.symm
    · exact ⟨out, rfl, h⟩
  · split
    · exact less_taken _ h
    · split
      · exact ⟨out, rfl, by rw [evs_doubt]; exact h⟩
      · split
        · exact less_taken _ h
        · exact ⟨out, rfl, h⟩
/-- sorted, the events that are left are the records -/
theorem less_sort {q : List Rec} {out s : List Ev} (hq : RSrt q) (h : out.Perm (evs q)) (hs : SrtS s) (hp : s.Perm out) : s = evs q := by
  refine List.Perm.eq_of_pairwise (le := fun p q => sLt q p = false) (fun _ _ _ _ h1 h2 => sLt_total h2 h1) hs ?_ (hp.trans h)
  unfold evs
  rw [List.pairwise_map]
  exact List.Pairwise.imp (fun h => sLt_asymm h) hq
end Go.Proofs.YthbcdkeammhakaaGreat

/-
  At once, or lazily: plainly.
-/
namespace Go.Proofs.YthbcdkeammhakaaGreat
open Go.RowKit

theorem rsrt_ext : ∀ {p q : List Rec}, RSrt p → RSrt q → (∀ r, r ∈ p ↔ r ∈ q) → p = q
  | [], [], _, _, _ => rfl
  | [], b :: q, _, _, h => by have := (h b).2 (by simp); cases this
  | a :: p, [], _, _, h => by have := (h a).1 (by simp); cases this
  | a :: p, b :: q, hp, hq, h => by
    obtain ⟨p1, p2⟩ := List.pairwise_cons.1 hp
    obtain ⟨q1, q2⟩ := List.pairwise_cons.1 hq
    have hab : a = b := by
      rcases List.mem_cons.1 ((h a).1 (by simp)) with h1 | h1
      · exact h1
      · rcases List.mem_cons.1 ((h b).2 (by simp)) with h2 | h2
        · exact h2.symm
        · have h3 := p1 b h2
          have h4 := q1 a h1
          rw [sLt_asymm h3] at h4
          cases h4
    subst hab
    rw [rsrt_ext p2 q2 (fun r => ?_)]
    constructor
    · intro hr
      rcases List.mem_cons.1 ((h r).1 (by simp [hr])) with h1 | h1
      · subst h1
        have := p1 r hr
        rw [sLt_irrefl] at this
        cases this
      · exact h1
    · intro hr
      rcases List.mem_cons.1 ((h r).2 (by simp [hr])) with h1 | h1
      · subst h1
        have := q1 r hr
        rw [sLt_irrefl] at this
        cases this
      · exact h1
def doubtN (q : List Rec) : Nat := q.countP (fun r => !r.2)
/-- one queue takes back at once, the other one lazily -/
structure Lz (qa qb : List Rec) (x y : Nat) : Prop where
  sa : RSrt qa
  sb : RSrt qb
  all : ∀ r ∈ qa, r.2 = true
  same : ∀ e, (e, true) ∈ qb ↔ (e, true) ∈ qa
  t : ∀ r ∈ qb, r.1.t ≤ 549755813888
  n : y + doubtN qb ≤ x
theorem Lz.sure {qa qb : List Rec} {x y : Nat} (h : Lz qa qb x y) : qb.filter (·.2) = qa := by
  refine rsrt_ext (List.Pairwise.sublist List.filter_sublist h.sb) h.sa (fun r => ?_)
  obtain ⟨e, b⟩ := r
  rw [List.mem_filter]
  constructor
  · rintro ⟨h1, h2⟩
    simp only at h2
    subst h2
    exact (h.same e).1 h1
  · intro h1
    have h2 := h.all _ h1
    simp only at h2
    subst h2
    exact ⟨(h.same e).2 h1, rfl⟩
theorem doubt_le (a : Int) : ∀ q : List Rec, doubtN (doubt a q) ≤ doubtN q + ((q.filter (·.2)).filter (backP a)).length
  | [] => by simp [doubtN, doubt]
  | r :: q => by
    have ih := doubt_le a q
    obtain ⟨e, b⟩ := r
    have e1 : doubt a ((e, b) :: q) = (if a ≤ e.t then (e, false) else (e, b)) :: doubt a q := rfl
    rw [e1]
    unfold doubtN at ih ⊢
    rw [List.countP_cons, List.countP_cons]
    cases b
    · rw [List.filter_cons_of_neg (by simp)]
      by_cases h : a ≤ e.t
      · rw [if_pos h]
        simp only [Bool.not_false, if_true]
        omega
      · rw [if_neg h]
        simp only [Bool.not_false, if_true]
        omega
    · rw [List.filter_cons_of_pos rfl]
      by_cases h : a ≤ e.t
      · rw [if_pos h, List.filter_cons_of_pos (by unfold backP; simp [h])]
        simp only [Bool.not_true, Bool.not_false, Bool.false_eq_true, if_false, if_true, List.length_cons]
        omega
      · rw [if_neg h, List.filter_cons_of_neg (by unfold backP; simp [h])]
        simp only [Bool.not_true, Bool.false_eq_true, if_false]
        omega
theorem Lz.back {qa qb : List Rec} {x y : Nat} (h : Lz qa qb x y) (a : Int) : Lz (stay (backP a) qa) (doubt a qb) (x + (antis (backP a) qa).length) y := by
  refine ⟨h.sa.stay _, h.sb.doubt a, fun r hr => ?_, fun e => ?_, fun r hr => ?_, ?_⟩
  · unfold stay at hr
    exact h.all r (List.mem_filter.1 hr).1
  · rw [doubt_mem]
    unfold stay
    rw [List.mem_filter, ← h.same]
    constructor
    · rintro (⟨_, h1, _⟩ | ⟨h1, h2⟩)
      · cases h1
      · refine ⟨h2, ?_⟩
        unfold backP
        simp only [Bool.not_eq_true', decide_eq_false_iff_not]
        omega
    · rintro ⟨h1, h2⟩
      unfold backP at h2
      simp only [Bool.not_eq_true', decide_eq_false_iff_not] at h2
      exact .inr ⟨by omega, h1⟩
  · obtain ⟨e, b⟩ := r
    rcases doubt_mem.1 hr with ⟨_, _, c, hc⟩ | ⟨_, hc⟩
    · exact h.t (e, c) hc
    · exact h.t (e, b) hc
  · have h1 := doubt_le a qb
    rw [h.sure] at h1
    have h2 := h.n
    unfold antis
    rw [List.length_map]
    omega
theorem doubt_step (st : List Rec × List OMsg) (e : Ev) : doubtN (sentStep st e).1 ≤ doubtN st.1 := by
  unfold sentStep
  split
  · rename_i hh
    obtain ⟨c, hc⟩ := rhas_at hh
    have hlt := (List.getElem?_eq_some_iff.1 hc).1
    unfold rmark doubtN
    simp only
    rw [List.set_eq_take_append_cons_drop, if_pos hlt]
    conv => rhs; rw [← List.take_append_drop (rpos st.1 e) st.1, List.drop_eq_getElem_cons hlt]
    rw [List.countP_append, List.countP_append, List.countP_cons, List.countP_cons]
    simp
  · unfold rins doubtN
    simp only
    conv => rhs; rw [← List.take_append_drop (rpos st.1 e) st.1]
    rw [List.countP_append, List.countP_append, List.countP_cons]
    simp
theorem doubt_steps (s : List Ev) : ∀ (st : List Rec × List OMsg), doubtN (s.foldl sentStep st).1 ≤ doubtN st.1 := by
  induction s with
  | nil => intro st; exact Nat.le_refl _
  | cons e r ih =>
    intro st
    rw [List.foldl_cons]
    exact Nat.le_trans (ih _) (doubt_step st e)
theorem doubt_stay (p : Rec → Bool) : ∀ q : List Rec, (∀ r ∈ q, p r = true → r.2 = false) → doubtN (stay p q) + (q.filter p).length = doubtN q
  | [], _ => by simp [doubtN, stay]
  | r :: q, h => by
    have ih := doubt_stay p q (fun r hr => h r (by simp [hr]))
    unfold doubtN stay at ih ⊢
    cases hp : p r
    · simp [hp, List.countP_cons]
      omega
    · have := h r (by simp) hp
      simp [hp, this]
      omega
theorem sure_stays {a : Int} {m : List Ev} {q : List Rec} (hz : wrongE a m q = 0) (r : Rec) (hr : r ∈ q) (hs : r.2 = true) : sentP a (esort m) r = false := by
  cases h : sentP a (esort m) r
  · rfl
  · have h1 := (wrong_zero.1 hz).2.2 r hr hs
    rcases (sentP_iff a m r).1 h with ⟨h2, _⟩ | ⟨_, h2⟩
    · omega
    · rw [hs] at h2
      cases h2
theorem Lz.sent {qa qb : List Rec} {x y : Nat} (h : Lz qa qb x y) (a : Int) (m : List Ev) (ha : a ≤ 549755813888) : Lz (sentQ a m qa) (sentQ a m qb) (x + (sentM a m qa).length) (y + (sentM a m qb).length) := by
  have hw : wrongE a m qa = 0 ↔ wrongE a m qb = 0 := by
    rw [wrong_zero, wrong_zero]
    constructor
    · rintro ⟨h1, h2, h3⟩
      refine ⟨h1, h2, fun r hr hs => ?_⟩
      obtain ⟨e, b⟩ := r
      simp only at hs
      subst hs
      exact h3 _ ((h.same e).1 hr) rfl
    · rintro ⟨h1, h2, h3⟩
      refine ⟨h1, h2, fun r hr hs => ?_⟩
      obtain ⟨e, b⟩ := r
      simp only at hs
      subst hs
      exact h3 _ ((h.same e).2 hr) rfl
  by_cases hz : wrongE a m qa = 0
  · have hzb := hw.1 hz
    have sm : ∀ e, (e, true) ∈ sentQ a m qb ↔ (e, true) ∈ sentQ a m qa := fun e => by
      rw [sentQ_mem h.sa hz, sentQ_mem h.sb hzb]
      constructor
      · rintro (h1 | ⟨h1, h2, h3⟩)
        · exact .inl h1
        · exact .inr ⟨h1, (h.same e).1 h2, h3⟩
      · rintro (h1 | ⟨h1, h2, h3⟩)
        · exact .inl h1
        · exact .inr ⟨h1, (h.same e).2 h2, h3⟩
    refine ⟨sentQ_srt h.sa, sentQ_srt h.sb, fun r hr => ?_, sm, fun r hr => ?_, ?_⟩
    · obtain ⟨e, b⟩ := r
      rcases (sentQ_mem h.sa hz e b).1 hr with ⟨_, h1⟩ | ⟨_, h1, _⟩
      · exact h1
      · exact h.all _ h1
    · obtain ⟨e, b⟩ := r
      rcases (sentQ_mem h.sb hzb e b).1 hr with ⟨h1, _⟩ | ⟨_, h1, _⟩
      · have := (wrong_zero.1 hz).1 e h1
        simp only
        omega
      · exact h.t _ h1
    · have e1 : (sentM a m qa).length = m.length := by
        rw [sentM_is h.sa hz]
        have e2 : antis (sentP a (esort m)) qa = [] := by
          unfold antis
          rw [List.filter_eq_nil_iff.2 (fun r hr => by rw [sure_stays hz r hr (h.all r hr)]; simp)]
          rfl
        have e3 : (esort m).filter (fun e => !rhas (stay (sentP a (esort m)) qa) e) = esort m := by
          rw [List.filter_eq_self]
          intro e he
          have hem := (esort_perm m).mem_iff.1 he
          cases hh : rhas (stay (sentP a (esort m)) qa) e
          · rfl
          · exfalso
            obtain ⟨b, hb⟩ := (rhas_mem (h.sa.stay _) e).1 hh
            unfold stay at hb
            have hb := (List.mem_filter.1 hb).1
            have h1 := (wrong_zero.1 hz).2.2 _ hb (h.all _ hb)
            have h2 := (wrong_zero.1 hz).1 e hem
            simp only at h1
            omega
        rw [e2, e3]
        simp [(esort_perm m).length_eq]
      have e2 : (sentM a m qb).length ≤ (antis (sentP a (esort m)) qb).length + m.length := by
        unfold sentM sentFrom
        rw [if_pos hzb]
        have := (steps_le (esort m) (stay (sentP a (esort m)) qb, antis (sentP a (esort m)) qb)).2
        rw [(esort_perm m).length_eq] at this
        exact this
      have e3 : doubtN (sentQ a m qb) ≤ doubtN (stay (sentP a (esort m)) qb) := by
        unfold sentQ sentFrom
        rw [if_pos hzb]
        exact doubt_steps _ _
      have e4 := doubt_stay (sentP a (esort m)) qb (fun r hr hp => by
        cases hs : r.2
        · rfl
        · rw [sure_stays hzb r hr hs] at hp
          cases hp)
      have e5 : (antis (sentP a (esort m)) qb).length = (qb.filter (sentP a (esort m))).length := by
        unfold antis
        rw [List.length_map]
      have := h.n
      omega
  · have hzb : ¬ wrongE a m qb = 0 := fun hh => hz (hw.2 hh)
    unfold sentQ sentM
    rw [if_neg hz, if_neg hz, if_neg hzb, if_neg hzb]
    exact h
theorem Lz.new : Lz [] [] 0 0 where
  sa := List.Pairwise.nil
  sb := List.Pairwise.nil
  all := by simp
  same := by simp
  t := by simp
  n := by simp [doubtN]
/-- at the end all that is not sure is flushed -/
theorem Lz.flush {qa qb : List Rec} {x y : Nat} (h : Lz qa qb x y) : stay (flushP 1099511627776) qb = qa ∧ y + (antis (flushP 1099511627776) qb).length ≤ x := by
  constructor
  · rw [← h.sure]
    unfold stay
    apply List.filter_congr
    intro r hr
    have := h.t r hr
    unfold flushP
    cases hs : r.2
    · simp
      omega
    · simp
  · have h1 := h.n
    have h2 : (antis (flushP 1099511627776) qb).length ≤ doubtN qb := by
      unfold antis doubtN
      rw [List.length_map, ← List.countP_eq_length_filter]
      apply List.countP_mono_left
      intro r _ hp
      unfold flushP at hp
      exact (Bool.and_eq_true _ _ ▸ hp).1
    omega
end Go.Proofs.YthbcdkeammhakaaGreat

/-
  Batches run one after another, in plain words.
-/
namespace Go.Proofs.YthbcdkeammhakaaGreat
open Go
def bat (l : List Ev) (c : Int) : List Ev := l.filter (fun y => y.a == c)
def nx (l : List Ev) (a : Int) : Option Int := (nextE l a).map (·.a)
abbrev Rul := St → List Ev → St × List Ev
/-- batches run one after another, from a time on, up to a time: the last one's time, the state, what was sent -/
def foldN (R : Rul) : Nat → List Ev → Int → Int → St → Int × St × List Ev
  | 0, _, _, a, s => (a, s, [])
  | n + 1, l, tu, a, s => match nx l a with
    | some c => if c ≤ tu then ((foldN R n l tu c (R s (bat l c)).1).1, (foldN R n l tu c (R s (bat l c)).1).2.1, (R s (bat l c)).2 ++ (foldN R n l tu c (R s (bat l c)).1).2.2) else (a, s, [])
    | none => (a, s, [])
def above (l : List Ev) (a : Int) : Nat := l.countP (fun y => decide (a < y.a))
def foldT (R : Rul) (l : List Ev) (tu a : Int) (s : St) : Int × St × List Ev := foldN R (above l a) l tu a s
theorem nx_some {l : List Ev} (h : Srt l) {a c : Int} (hc : nx l a = some c) : a < c ∧ (∃ y ∈ l, y.a = c) ∧ ∀ z ∈ l, a < z.a → c ≤ z.a := by
  unfold nx at hc
  cases he : nextE l a with
  | none => rw [he] at hc; cases hc
  | some y =>
    rw [he] at hc
    injection hc with hc
    subst hc
    obtain ⟨h1, h2, h3⟩ := next_some h he
    exact ⟨h2, ⟨y, h1, rfl⟩, h3⟩
theorem nx_none {l : List Ev} {a : Int} (hc : nx l a = none) : ∀ z ∈ l, z.a ≤ a := by
  unfold nx at hc
  cases he : nextE l a with
  | none =>
    unfold nextE at he
    intro z hz
    have := List.find?_eq_none.1 he z hz
    simpa using this
  | some y => rw [he] at hc; cases hc
theorem above_lt {l : List Ev} {a c : Int} (hac : a < c) (hy : ∃ y ∈ l, y.a = c) : above l c < above l a := by
  unfold above
  obtain ⟨y, hy, rfl⟩ := hy
  induction l with
  | nil => cases hy
  | cons z l ih =>
    simp only [List.countP_cons]
    rcases List.mem_cons.1 hy with rfl | hy
    · have : l.countP (fun z => decide (y.a < z.a)) ≤ l.countP (fun z => decide (a < z.a)) := List.countP_mono_left (fun z _ hz => by simp at hz ⊢; omega)
      have h1 : decide (y.a < y.a) = false := by simp
      have h2 : decide (a < y.a) = true := by simpa using hac
      simp only [h1, h2, if_true]
      simp
      omega
    · have := ih hy
      by_cases h1 : y.a < z.a
      · have h2 : a < z.a := by omega
        simp only [h1, h2, decide_true, if_true]
        omega
      · have h1' : decide (y.a < z.a) = false := by simpa using h1
        simp only [h1']
        by_cases h2 : a < z.a
        · simp only [h2, decide_true, if_true]; simp; omega
        · have h2' : decide (a < z.a) = false := by simpa using h2
          simp only [h2']; simp; omega
theorem foldN_two (R : Rul) {l : List Ev} (h : Srt l) (tu : Int) : ∀ (n m : Nat) (a : Int) (s : St), above l a ≤ n → above l a ≤ m → foldN R n l tu a s = foldN R m l tu a s := by
  intro n
  induction n with
  | zero =>
    intro m a s hn _
    cases he : nx l a with
    | none => cases m <;> simp only [foldN, he]
    | some c =>
      obtain ⟨h1, h2, _⟩ := nx_some h he
      have := above_lt h1 h2
      omega
  | succ n ih =>
    intro m a s hn hm
    cases he : nx l a with
    | none => cases m <;> simp only [foldN, he]
    | some c =>
      obtain ⟨h1, h2, _⟩ := nx_some h he
      have h3 := above_lt h1 h2
      cases m with
      | zero => omega
      | succ m =>
        by_cases hc : c ≤ tu
        · simp only [foldN, he, if_pos hc]
          rw [ih m c (R s (bat l c)).1 (by omega) (by omega)]
        · simp only [foldN, he, if_neg hc]
theorem foldT_step (R : Rul) {l : List Ev} (h : Srt l) {tu a c : Int} {s : St} (he : nx l a = some c) (hc : c ≤ tu) :
    foldT R l tu a s = ((foldT R l tu c (R s (bat l c)).1).1, (foldT R l tu c (R s (bat l c)).1).2.1, (R s (bat l c)).2 ++ (foldT R l tu c (R s (bat l c)).1).2.2) := by
  obtain ⟨h1, h2, _⟩ := nx_some h he
  have h3 := above_lt h1 h2
  have e : foldT R l tu a s = foldN R (above l a - 1 + 1) l tu a s := by
    unfold foldT
    rw [show above l a - 1 + 1 = above l a by omega]
  rw [e]
  simp only [foldN, he, if_pos hc]
  unfold foldT
  rw [foldN_two R h tu (above l a - 1) (above l c) c _ (by omega) (by omega)]
theorem foldT_stop (R : Rul) {l : List Ev} {tu a : Int} {s : St} (he : ∀ c, nx l a = some c → tu < c) : foldT R l tu a s = (a, s, []) := by
  unfold foldT
  cases above l a with
  | zero => rfl
  | succ n =>
    cases hc : nx l a with
    | none => simp only [foldN, hc]
    | some c =>
      have := he c hc
      simp only [foldN, hc]
      rw [if_neg (by omega)]
/-- induction along the batches -/
theorem fold_ind (R : Rul) {l : List Ev} (h : Srt l) (tu : Int) (C : Int → St → Prop)
    (h0 : ∀ a s, (∀ c, nx l a = some c → tu < c) → C a s)
    (h1 : ∀ a s c, nx l a = some c → c ≤ tu → a < c → C c (R s (bat l c)).1 → C a s) : ∀ a s, C a s := by
  have key : ∀ (n : Nat) a s, above l a ≤ n → C a s := by
    intro n
    induction n with
    | zero =>
      intro a s hn
      refine h0 a s fun c hc => ?_
      obtain ⟨g1, g2, _⟩ := nx_some h hc
      have := above_lt g1 g2
      omega
    | succ n ih =>
      intro a s hn
      cases hc : nx l a with
      | none => exact h0 a s fun c hc' => by rw [hc] at hc'; cases hc'
      | some c =>
        obtain ⟨g1, g2, _⟩ := nx_some h hc
        have := above_lt g1 g2
        by_cases hct : c ≤ tu
        · exact h1 a s c hc hct g1 (ih c _ (by omega))
        · exact h0 a s fun c' hc' => by
            rw [hc] at hc'
            injection hc' with hc'
            omega
  exact fun a s => key _ a s (Nat.le_refl _)
theorem foldT_lo (R : Rul) {l : List Ev} (h : Srt l) (tu : Int) : ∀ a s, a ≤ (foldT R l tu a s).1 ∧ (a ≤ tu → (foldT R l tu a s).1 ≤ tu) := by
  refine fold_ind R h tu (fun a s => a ≤ (foldT R l tu a s).1 ∧ (a ≤ tu → (foldT R l tu a s).1 ≤ tu)) ?_ ?_
  · intro a s he
    rw [foldT_stop R he]
    exact ⟨Int.le_refl _, id⟩
  · intro a s c hc hct hac ih
    rw [foldT_step R h hc hct]
    exact ⟨by have := ih.1; simp only; omega, fun _ => ih.2 hct⟩
theorem foldT_comp (R : Rul) {l : List Ev} (h : Srt l) {tu' tu : Int} (hle : tu' ≤ tu) : ∀ a s, foldT R l tu a s = ((foldT R l tu (foldT R l tu' a s).1 (foldT R l tu' a s).2.1).1, (foldT R l tu (foldT R l tu' a s).1 (foldT R l tu' a s).2.1).2.1, (foldT R l tu' a s).2.2 ++ (foldT R l tu (foldT R l tu' a s).1 (foldT R l tu' a s).2.1).2.2) := by
  refine fold_ind R h tu' (fun a s => foldT R l tu a s = _) ?_ ?_
  · intro a s he
    rw [foldT_stop R he]
    rfl
  · intro a s c hc hct hac ih
    rw [foldT_step R h hc hct, foldT_step R h hc (show c ≤ tu by omega), ih]
    simp [List.append_assoc]
/-- behind a fold nothing is left to be run up to there -/
theorem foldT_end (R : Rul) {l : List Ev} (h : Srt l) (tu : Int) : ∀ a s, ∀ c, nx l (foldT R l tu a s).1 = some c → tu < c := by
  refine fold_ind R h tu (fun a s => ∀ c, nx l (foldT R l tu a s).1 = some c → tu < c) ?_ ?_
  · intro a s he
    rw [foldT_stop R he]
    exact he
  · intro a s c hc hct hac ih
    rw [foldT_step R h hc hct]
    exact ih
/-- a fold to the time that it came to is the same -/
theorem foldT_same (R : Rul) {l : List Ev} (h : Srt l) (tu : Int) : ∀ a s, foldT R l (foldT R l tu a s).1 a s = foldT R l tu a s := by
  refine fold_ind R h tu (fun a s => foldT R l (foldT R l tu a s).1 a s = foldT R l tu a s) ?_ ?_
  · intro a s he
    rw [foldT_stop R he]
    simp only
    rw [foldT_stop R (fun c hc => (nx_some h hc).1)]
  · intro a s c hc hct hac ih
    rw [foldT_step R h hc hct]
    simp only
    have := (foldT_lo R h tu c (R s (bat l c)).1).1
    rw [foldT_step R h hc this, ih]
/-- where a fold comes to: its start, or the time of an event -/
theorem nx_cases {l : List Ev} (h : Srt l) (R : Rul) (tu : Int) (s : St) : (foldT R l tu (-1) s).1 = -1 ∨ ∃ e ∈ l, e.a = (foldT R l tu (-1) s).1 := by
  have key : ∀ a s, (foldT R l tu a s).1 = a ∨ ∃ e ∈ l, e.a = (foldT R l tu a s).1 := by
    refine fold_ind R h tu (fun a s => (foldT R l tu a s).1 = a ∨ ∃ e ∈ l, e.a = (foldT R l tu a s).1) ?_ ?_
    · intro a s he
      rw [foldT_stop R he]
      exact .inl rfl
    · intro a s c hc hct _ ih
      obtain ⟨_, ⟨y, hy, hyc⟩, _⟩ := nx_some h hc
      rw [foldT_step R h hc hct]
      rcases ih with ih | ih
      · exact .inr ⟨y, hy, by simp only; rw [ih]; exact hyc⟩
      · exact .inr ih
  exact key _ _
theorem nextE_filter {l : List Ev} (p : Ev → Bool) {a : Int} (hp : ∀ y ∈ l, a < y.a → p y = true) : nextE (l.filter p) a = nextE l a := by
  unfold nextE
  induction l with
  | nil => rfl
  | cons z l ih =>
    by_cases hz : a < z.a
    · have h1 := hp z (by simp) hz
      rw [List.filter_cons, if_pos h1, List.find?_cons, List.find?_cons]
      simp only [hz, decide_true]
    · have hz' : decide (a < z.a) = false := by simpa using hz
      rw [List.filter_cons]
      have := ih (fun y hy => hp y (List.mem_cons_of_mem _ hy))
      split
      · rw [List.find?_cons, List.find?_cons, hz']; exact this
      · rw [List.find?_cons, hz']; exact this
end Go.Proofs.YthbcdkeammhakaaGreat

/-
  Batches run one after another: what rules keep.
-/
namespace Go.Proofs.YthbcdkeammhakaaGreat
open Go
theorem nx_of_mem {l : List Ev} (h : Srt l) {a : Int} {y : Ev} (hy : y ∈ l) (ha : a < y.a) : ∃ c, nx l a = some c ∧ c ≤ y.a ∧ a < c := by
  cases hc : nx l a with
  | none => have := nx_none hc y hy; omega
  | some c =>
    obtain ⟨h1, _, h3⟩ := nx_some h hc
    exact ⟨c, rfl, h3 y hy ha, h1⟩
theorem bat_filter (l : List Ev) {c tu : Int} (h : c ≤ tu) : bat (l.filter (fun y => decide (y.a ≤ tu))) c = bat l c := by
  unfold bat
  rw [List.filter_filter]
  congr 1
  funext y
  by_cases e : y.a = c
  · subst e; simp [h]
  · simp [e]
theorem foldT_congr (R : Rul) {l l' : List Ev} (h : Srt l) (h' : Srt l') {tu : Int} (he : l.filter (fun y => decide (y.a ≤ tu)) = l'.filter (fun y => decide (y.a ≤ tu))) : ∀ a s, foldT R l tu a s = foldT R l' tu a s := by
  have hm : ∀ y : Ev, y.a ≤ tu → (y ∈ l ↔ y ∈ l') := fun y hy => by
    have h1 : y ∈ l.filter (fun y => decide (y.a ≤ tu)) ↔ y ∈ l := by simp [hy]
    have h2 : y ∈ l'.filter (fun y => decide (y.a ≤ tu)) ↔ y ∈ l' := by simp [hy]
    rw [← h1, ← h2, he]
  have hn : ∀ a c, c ≤ tu → nx l a = some c → nx l' a = some c := fun a c hc hx => by
    obtain ⟨h1, ⟨y, hy, rfl⟩, h3⟩ := nx_some h hx
    obtain ⟨c', e1, e2, e3⟩ := nx_of_mem h' ((hm y hc).1 hy) h1
    obtain ⟨g1, ⟨z, hz, rfl⟩, g3⟩ := nx_some h' e1
    have := h3 z ((hm z (by omega)).2 hz) g1
    rw [e1]
    congr 1
    omega
  have hn' : ∀ a c, c ≤ tu → nx l' a = some c → nx l a = some c := fun a c hc hx => by
    obtain ⟨h1, ⟨y, hy, rfl⟩, h3⟩ := nx_some h' hx
    obtain ⟨c', e1, e2, e3⟩ := nx_of_mem h ((hm y hc).2 hy) h1
    obtain ⟨g1, ⟨z, hz, rfl⟩, g3⟩ := nx_some h e1
    have := h3 z ((hm z (by omega)).1 hz) g1
    rw [e1]
    congr 1
    omega
  refine fold_ind R h tu (fun a s => foldT R l tu a s = foldT R l' tu a s) ?_ ?_
  · intro a s hs
    rw [foldT_stop R hs, foldT_stop R]
    intro c hc
    by_cases hct : c ≤ tu
    · exact hs c (hn' a c hct hc)
    · omega
  · intro a s c hc hct hac ih
    rw [foldT_step R h hc hct, foldT_step R h' (hn a c hct hc) hct]
    have e : bat l c = bat l' c := by rw [← bat_filter l hct, he, bat_filter l' hct]
    rw [← e, ih]
/-- what rules keep -/
structure Laws (R : Rul) (ok : St → Prop) (sm : Ev → Prop) : Prop where
  run : ∀ s b t, ok s → 0 ≤ t → t ≤ 1073741824 → (∀ e ∈ b, sm e ∧ e.a = t) → ok (R s b).1 ∧ (∀ x ∈ (R s b).2, x.t = t ∧ 0 ≤ x.a ∧ x.a ≤ 1073741824) ∧ (R s b).2.Nodup ∧ (R s b).2.length ≤ b.length
def EvOk (sm : Ev → Prop) (l : List Ev) : Prop := ∀ e ∈ l, sm e ∧ 0 ≤ e.a ∧ e.a ≤ 1073741824
theorem bat_ok {sm : Ev → Prop} {l : List Ev} (h : EvOk sm l) (c : Int) : ∀ e ∈ bat l c, sm e ∧ e.a = c := fun e he => by
  unfold bat at he
  obtain ⟨h1, h2⟩ := List.mem_filter.1 he
  exact ⟨(h e h1).1, by simpa using h2⟩
theorem fold_ok {R : Rul} {ok : St → Prop} {sm : Ev → Prop} (hR : Laws R ok sm) {l : List Ev} (h : Srt l) (he : EvOk sm l) (tu : Int) : ∀ a s, ok s → ok (foldT R l tu a s).2.1 ∧ (foldT R l tu a s).2.2.Nodup ∧ ∀ x ∈ (foldT R l tu a s).2.2, (∃ y ∈ l, y.a = x.t) ∧ a < x.t ∧ x.t ≤ tu ∧ x.t ≤ (foldT R l tu a s).1 ∧ 0 ≤ x.a ∧ x.a ≤ 1073741824 := by
  refine fold_ind R h tu (fun a s => ok s → ok (foldT R l tu a s).2.1 ∧ (foldT R l tu a s).2.2.Nodup ∧ ∀ x ∈ (foldT R l tu a s).2.2, (∃ y ∈ l, y.a = x.t) ∧ a < x.t ∧ x.t ≤ tu ∧ x.t ≤ (foldT R l tu a s).1 ∧ 0 ≤ x.a ∧ x.a ≤ 1073741824) ?_ ?_
  · intro a s hs hok
    rw [foldT_stop R hs]
    exact ⟨hok, List.nodup_nil, fun x hx => by cases hx⟩
  · intro a s c hc hct hac ih hok
    obtain ⟨_, ⟨y, hy, hyc⟩, _⟩ := nx_some h hc
    have hyr := (he y hy).2
    obtain ⟨r1, r2, r3, _⟩ := hR.run s (bat l c) c hok (by omega) (by omega) (bat_ok he c)
    obtain ⟨i1, i2, i3⟩ := ih r1
    rw [foldT_step R h hc hct]
    have hlo := (foldT_lo R h tu c (R s (bat l c)).1).1
    refine ⟨i1, ?_, ?_⟩
    · simp only
      rw [List.nodup_append]
      refine ⟨r3, i2, fun x hx z hz e => ?_⟩
      subst e
      have h1 := (r2 x hx).1
      have h2 := (i3 x hz).2.1
      omega
    · intro x hx
      simp only at hx ⊢
      rcases List.mem_append.1 hx with hx | hx
      · obtain ⟨g1, g2, g3⟩ := r2 x hx
        exact ⟨⟨y, hy, by omega⟩, by omega, by omega, by omega, g2, g3⟩
      · obtain ⟨g1, g2, g3, g4, g5⟩ := i3 x hx
        exact ⟨g1, by omega, g3, g4, g5⟩
theorem sends_split {R : Rul} {ok : St → Prop} {sm : Ev → Prop} (hR : Laws R ok sm) {l : List Ev} (h : Srt l) (he : EvOk sm l) {tu' tu : Int} (hle : tu' ≤ tu) (a : Int) (s : St) (hok : ok s) : ∀ x, x ∈ (foldT R l tu' a s).2.2 ↔ x ∈ (foldT R l tu a s).2.2 ∧ x.t ≤ tu' := by
  intro x
  rw [foldT_comp R h hle a s]
  simp only
  have h1 := fold_ok hR h he tu' a s hok
  have h2 := fold_ok hR h he tu (foldT R l tu' a s).1 (foldT R l tu' a s).2.1 h1.1
  constructor
  · intro hx
    exact ⟨List.mem_append.2 (.inl hx), (h1.2.2 x hx).2.2.1⟩
  · rintro ⟨hx, ht⟩
    rcases List.mem_append.1 hx with hx | hx
    · exact hx
    · obtain ⟨⟨y, hy, e⟩, g2, _⟩ := h2.2.2 x hx
      obtain ⟨c, c1, c2, c3⟩ := nx_of_mem h hy (by rw [e]; exact g2)
      have := foldT_end R h tu' a s c c1
      omega
end Go.Proofs.YthbcdkeammhakaaGreat

/-
  A process as the document has it, in plain words.
-/
namespace Go.Proofs.YthbcdkeammhakaaGreat
open Go
/-- a process as the document has it: all events that ever stood, what is awaited, the records, the time, the greatest time that was freed -/
structure AM where
  l : List Ev
  m : List Ev
  q : List Rec
  now : Int
  freed : Int
structure Cfg where
  R : Rul
  first : St
  id : Int
  lz : Bool
def AM.fold (C : Cfg) (A : AM) : Int × St × List Ev := foldT C.R A.l A.now (-1) C.first
structure InvA (C : Cfg) (sm : Ev → Prop) (A : AM) : Prop where
  sl : Srt A.l
  sm_ : Srt A.m
  sq : RSrt A.q
  ev : EvOk sm A.l
  dis : ∀ x ∈ A.m, x ∉ A.l
  at_ : (A.fold C).1 = A.now
  lo : -1 ≤ A.now
  fr : 0 ≤ A.freed
  sure : ∀ x, (x, true) ∈ A.q ↔ x ∈ (A.fold C).2.2 ∧ A.freed ≤ x.t
  uns : ∀ x, (x, false) ∈ A.q → A.now < x.t ∧ x.t ≤ 1073741824 ∧ A.freed ≤ x.t ∧ 0 ≤ x.a ∧ x.a ≤ 1073741824
  fn : ∀ e ∈ A.l, A.now < e.a → A.freed ≤ e.a
section
variable {C : Cfg} {ok : St → Prop} {sm : Ev → Prop} {A : AM}
def sndA (C : Cfg) (A : AM) (c : Int) : List Ev := (C.R (A.fold C).2.1 (bat A.l c)).2
theorem fold_next (h : InvA C sm A) {c : Int} (hc : nx A.l A.now = some c) : foldT C.R A.l c (-1) C.first = (c, (C.R (A.fold C).2.1 (bat A.l c)).1, (A.fold C).2.2 ++ sndA C A c) := by
  have h1 := (nx_some h.sl hc).1
  have e := foldT_comp C.R h.sl (show A.now ≤ c by omega) (-1) C.first
  have ha := h.at_
  unfold AM.fold at ha ⊢
  rw [e, ha, foldT_step C.R h.sl hc (Int.le_refl c), foldT_stop C.R (fun c' hc' => (nx_some h.sl hc').1)]
  unfold sndA AM.fold
  simp
theorem snd_ok (hR : Laws C.R ok sm) (h : InvA C sm A) (hf : ok C.first) {c : Int} (hc : nx A.l A.now = some c) : ok (C.R (A.fold C).2.1 (bat A.l c)).1 ∧ (∀ x ∈ sndA C A c, x.t = c ∧ 0 ≤ x.a ∧ x.a ≤ 1073741824) ∧ (sndA C A c).Nodup ∧ (sndA C A c).length ≤ (bat A.l c).length ∧ 0 ≤ c ∧ c ≤ 1073741824 := by
  obtain ⟨_, ⟨y, hy, hyc⟩, _⟩ := nx_some h.sl hc
  have hr := (h.ev y hy).2
  have ho := (fold_ok hR h.sl h.ev A.now (-1) C.first hf).1
  obtain ⟨r1, r2, r3, r4⟩ := hR.run _ (bat A.l c) c ho (by omega) (by omega) (bat_ok h.ev c)
  exact ⟨r1, r2, r3, r4, by omega, by omega⟩
theorem sure_le (hR : Laws C.R ok sm) (h : InvA C sm A) (hf : ok C.first) {x : Ev} (hx : (x, true) ∈ A.q) : x.t ≤ A.now := ((fold_ok hR h.sl h.ev A.now (-1) C.first hf).2.2 x ((h.sure x).1 hx).1).2.2.1
theorem step_wrong (hR : Laws C.R ok sm) (h : InvA C sm A) (hf : ok C.first) {c : Int} (hc : nx A.l A.now = some c) : wrongE c (sndA C A c) A.q = 0 := by
  obtain ⟨_, r2, r3, _⟩ := snd_ok hR h hf hc
  refine wrong_zero.2 ⟨fun e he => (r2 e he).1, r3, fun r hr hs => ?_⟩
  obtain ⟨x, b⟩ := r
  simp only at hs
  subst hs
  have := sure_le hR h hf hr
  have := (nx_some h.sl hc).1
  simp only
  omega
/-- a step -/
def stepA (C : Cfg) (A : AM) (c : Int) : AM := { A with q := sentQ c (sndA C A c) A.q, now := c }
theorem step_inv (hR : Laws C.R ok sm) (h : InvA C sm A) (hf : ok C.first) {c : Int} (hc : nx A.l A.now = some c) : InvA C sm (stepA C A c) := by
  have hz := step_wrong hR h hf hc
  obtain ⟨_, r2, r3, r4, r5, r6⟩ := snd_ok hR h hf hc
  obtain ⟨h1, ⟨y, hy, hyc⟩, _⟩ := nx_some h.sl hc
  have hfold : (stepA C A c).fold C = (c, (C.R (A.fold C).2.1 (bat A.l c)).1, (A.fold C).2.2 ++ sndA C A c) := fold_next h hc
  refine ⟨h.sl, h.sm_, sentQ_srt h.sq, h.ev, h.dis, by rw [hfold]; rfl, by have := h.lo; show -1 ≤ c; omega, h.fr, fun x => ?_, fun x hx => ?_, fun e he hn => h.fn e he (by have : c < e.a := hn; omega)⟩
  · rw [hfold]
    simp only
    show (x, true) ∈ sentQ c (sndA C A c) A.q ↔ _ ∧ A.freed ≤ x.t
    rw [sentQ_mem h.sq hz, List.mem_append]
    constructor
    · rintro (⟨hx, _⟩ | ⟨hx, hq, _⟩)
      · refine ⟨.inr hx, ?_⟩
        have := (r2 x hx).1
        have := h.fn y hy (by omega)
        omega
      · obtain ⟨g1, g2⟩ := (h.sure x).1 hq
        exact ⟨.inl g1, g2⟩
    · rintro ⟨hx | hx, ht⟩
      · by_cases hm : x ∈ sndA C A c
        · exact .inl ⟨hm, rfl⟩
        · have hq := (h.sure x).2 ⟨hx, ht⟩
          have hle := sure_le hR h hf hq
          refine .inr ⟨hm, hq, ?_⟩
          by_cases hs : sentP c (esort (sndA C A c)) (x, true) = true
          · rcases (sentP_iff c _ (x, true)).1 hs with ⟨h2, _⟩ | ⟨_, h3⟩
            · simp only at h2; omega
            · cases h3
          · simpa using hs
      · exact .inl ⟨hx, rfl⟩
  · have hx2 : (x, false) ∈ sentQ c (sndA C A c) A.q := hx
    rw [sentQ_mem h.sq hz] at hx2
    rcases hx2 with ⟨_, hb⟩ | ⟨hm, hq, hs⟩
    · cases hb
    · obtain ⟨g1, g2⟩ := h.uns x hq
      refine ⟨?_, g2⟩
      show c < x.t
      have hs' : ¬ sentP c (esort (sndA C A c)) (x, false) = true := by simp [hs]
      rw [sentP_iff] at hs'
      have n1 : ¬ x.t = c := fun e => hs' (.inl ⟨e, hm⟩)
      have n2 : ¬ x.t < c := fun e => hs' (.inr ⟨e, rfl⟩)
      omega
/-- back to a time, the events turned from that time on alone -/
def backA (C : Cfg) (A : AM) (tu : Int) : AM := { A with now := (foldT C.R A.l (tu - 1) (-1) C.first).1, q := if C.lz then doubt tu A.q else stay (backP tu) A.q }
def backM (C : Cfg) (A : AM) (tu : Int) : List Msg := if C.lz then [] else antis (backP tu) A.q
theorem doubt_in {tu : Int} {q : List Rec} {x : Ev} {b : Bool} (hlz : Bool) (h : (x, b) ∈ (if hlz then doubt tu q else stay (backP tu) q)) : ((x, b) ∈ q ∧ x.t < tu) ∨ (b = false ∧ tu ≤ x.t ∧ ∃ c, (x, c) ∈ q) := by
  cases hlz with
  | true =>
    rw [if_pos rfl, doubt_mem] at h
    rcases h with ⟨h1, h2, h3⟩ | ⟨h1, h2⟩
    · exact .inr ⟨h2, h1, h3⟩
    · exact .inl ⟨h2, h1⟩
  | false =>
    rw [if_neg (by simp)] at h
    unfold stay backP at h
    obtain ⟨h1, h2⟩ := List.mem_filter.1 h
    simp at h2
    exact .inl ⟨h1, h2⟩
theorem doubt_in' {tu : Int} {q : List Rec} {x : Ev} {b : Bool} (hlz : Bool) (h : (x, b) ∈ q) (ht : x.t < tu) : (x, b) ∈ (if hlz then doubt tu q else stay (backP tu) q) := by
  cases hlz with
  | true => rw [if_pos rfl, doubt_mem]; exact .inr ⟨ht, h⟩
  | false =>
    rw [if_neg (by simp)]
    unfold stay backP
    exact List.mem_filter.2 ⟨h, by simp; omega⟩
theorem back_inv (hR : Laws C.R ok sm) (h : InvA C sm A) (hf : ok C.first) {tu : Int} (hto : A.freed ≤ tu) (hle : tu ≤ A.now) {l' m' : List Ev} {q' : List Rec} (hl : Srt l') (hm : Srt m') (hev : EvOk sm l') (hdis : ∀ x ∈ m', x ∉ l')
    (he : A.l.filter (fun y => decide (y.a ≤ tu - 1)) = l'.filter (fun y => decide (y.a ≤ tu - 1))) (hq : RSrt q') (hsub : ∀ r ∈ q', r ∈ A.q) (hkeep : ∀ r ∈ A.q, r.1.t < tu → r ∈ q') : InvA C sm (backA C { A with l := l', m := m', q := q' } tu) := by
  have hc := foldT_congr C.R h.sl hl he (-1) C.first
  have hfold : (backA C { A with l := l', m := m', q := q' } tu).fold C = foldT C.R l' (tu - 1) (-1) C.first := foldT_same C.R hl (tu - 1) (-1) C.first
  have hlo := foldT_lo C.R hl (tu - 1) (-1) C.first
  have hsp := sends_split hR h.sl h.ev (show tu - 1 ≤ A.now by omega) (-1) C.first hf
  have hfr := h.fr
  refine ⟨hl, hm, ?_, hev, hdis, ?_, hlo.1, h.fr, fun x => ?_, fun x hx => ?_, fun e hel hn => ?_⟩
  · show RSrt (if C.lz then _ else _)
    split
    · exact hq.doubt _
    · exact hq.stay _
  · rw [hfold]; rfl
  · rw [hfold, ← hc, hsp x]
    show (x, true) ∈ (if C.lz then doubt tu q' else stay (backP tu) q') ↔ _ ∧ A.freed ≤ x.t
    constructor
    · intro hx
      rcases doubt_in C.lz hx with ⟨h1, h2⟩ | ⟨h1, _⟩
      · obtain ⟨g1, g2⟩ := (h.sure x).1 (hsub _ h1)
        exact ⟨⟨g1, by omega⟩, g2⟩
      · cases h1
    · rintro ⟨⟨g1, g2⟩, g3⟩
      exact doubt_in' C.lz (hkeep _ ((h.sure x).2 ⟨g1, g3⟩) (by show x.t < tu; omega)) (by omega)
  · have hx2 : (x, false) ∈ (if C.lz then doubt tu q' else stay (backP tu) q') := hx
    show (foldT C.R l' (tu - 1) (-1) C.first).1 < x.t ∧ x.t ≤ 1073741824 ∧ A.freed ≤ x.t ∧ _
    have hup := hlo.2 (by omega)
    rcases doubt_in C.lz hx2 with ⟨h1, h2⟩ | ⟨_, h2, c, h3⟩
    · have := (h.uns x (hsub _ h1)).1
      omega
    · cases c with
      | true =>
        have h4 := ((fold_ok hR h.sl h.ev A.now (-1) C.first hf).2.2 x ((h.sure x).1 (hsub _ h3)).1)
        obtain ⟨⟨y, hy, e⟩, g2, g3, g4, g5⟩ := h4
        have := (h.ev y hy).2
        exact ⟨by omega, by omega, by omega, g5⟩
      | false =>
        obtain ⟨g1, g2, g3, g4⟩ := h.uns x (hsub _ h3)
        exact ⟨by omega, g2, g3, g4⟩
  · obtain ⟨c, c1, c2, c3⟩ := nx_of_mem hl hel hn
    have := foldT_end C.R hl (tu - 1) (-1) C.first c c1
    show A.freed ≤ e.a
    omega
end
end Go.Proofs.YthbcdkeammhakaaGreat

/-
  A process as the document has it: each call, in plain words.
-/
namespace Go.Proofs.YthbcdkeammhakaaGreat
open Go
theorem dis_q {l m : List Ev} (hl : Srt l) (hm : Srt m) (h : ∀ x ∈ m, x ∉ l) : QIs l m (fun x => (cnt l x : Int) - (cnt m x : Int)) := by
  have key : ∀ x, cnt l x = 0 ∨ cnt m x = 0 := fun x => by
    by_cases hx : x ∈ m
    · exact .inl (by rw [cnt_count]; exact List.count_eq_zero.2 (h x hx))
    · exact .inr (by rw [cnt_count]; exact List.count_eq_zero.2 hx)
  exact ⟨hl, hm, fun x => by rcases key x with h | h <;> rw [h] <;> omega, fun x => by rcases key x with h | h <;> rw [h] <;> omega⟩
theorem q_dis {l m : List Ev} {d : Ev → Int} (h : QIs l m d) : ∀ x ∈ m, x ∉ l := fun x hx hy => by
  have h1 := h.c1 x
  have h2 := h.c2 x
  have h3 : 0 < cnt m x := by rw [cnt_count]; exact List.count_pos_iff.2 hx
  have h4 : 0 < cnt l x := by rw [cnt_count]; exact List.count_pos_iff.2 hy
  omega
theorem Srt.filter_ {l : List Ev} (h : Srt l) (p : Ev → Bool) : Srt (l.filter p) := List.Pairwise.sublist List.filter_sublist h
theorem putL_filter {l m : List Ev} (hl : Srt l) (hm : Srt m) (hd : ∀ x ∈ m, x ∉ l) (x : Ev) (an : Bool) (p : Ev → Bool) (hp : p x = false) : (putL l m x an).filter p = l.filter p := by
  have hq := dis_q hl hm hd
  have hq' := hq.put x an
  refine srt_ext (hq'.s1.filter_ p) (hl.filter_ p) fun y => ?_
  rw [cnt_count, cnt_count]
  by_cases hy : p y = true
  · rw [List.count_filter hy, List.count_filter hy, ← cnt_count, ← cnt_count]
    have h1 := hq'.c1 y
    have h2 := hq.c1 y
    have hxy : x ≠ y := fun e => by rw [← e, hp] at hy; cases hy
    unfold dput at h1
    rw [if_neg hxy] at h1
    simp only at h1 h2
    omega
  · have e1 : ∀ l : List Ev, (l.filter p).count y = 0 := fun l => List.count_eq_zero.2 fun h => hy (List.mem_filter.1 h).2
    rw [e1, e1]
theorem putL_same {l m : List Ev} {x : Ev} {an : Bool} (h : putMet l m x an ≠ an) : putL l m x an = l := by
  unfold putMet at h
  unfold putL
  cases an
  · simp only [Bool.false_eq_true, if_false] at h ⊢
    cases hh : has m x
    · rw [hh] at h; exact absurd rfl h
    · simp
  · simp only [if_true] at h ⊢
    cases hh : has l x
    · simp
    · rw [hh] at h; exact absurd rfl h
theorem putL_mem {l m : List Ev} {x : Ev} {an : Bool} {y : Ev} (h : y ∈ putL l m x an) : y = x ∨ y ∈ l := by
  unfold putL at h
  cases an
  · simp only [Bool.false_eq_true, if_false] at h
    cases hh : has m x
    · rw [hh] at h
      simp only [Bool.false_eq_true, if_false] at h
      exact List.mem_cons.1 ((ins_perm l x).mem_iff.1 h)
    · rw [hh] at h
      simp only [if_true] at h
      exact .inr h
  · simp only [if_true] at h
    cases hh : has l x
    · rw [hh] at h
      simp only [Bool.false_eq_true, if_false] at h
      exact .inr h
    · rw [hh] at h
      simp only [if_true] at h
      exact .inr ((rem_perm hh).mem_iff.2 (List.mem_cons_of_mem _ h))
/-- a message comes -/
def putD (A : AM) (x : Ev) (an : Bool) : AM := { A with l := putL A.l A.m x an, m := putB A.l A.m x an }
section
variable {C : Cfg} {ok : St → Prop} {sm : Ev → Prop} {A : AM}
theorem put_ev (h : EvOk sm A.l) {x : Ev} {an : Bool} (hx : sm x ∧ 0 ≤ x.a ∧ x.a ≤ 1073741824) : EvOk sm (putL A.l A.m x an) := fun y hy => by
  rcases putL_mem hy with rfl | hy
  · exact hx
  · exact h y hy
theorem put_keep (h : InvA C sm A) {x : Ev} {an : Bool} {tu : Int} (hx : tu < x.a) : A.l.filter (fun y => decide (y.a ≤ tu)) = (putL A.l A.m x an).filter (fun y => decide (y.a ≤ tu)) :=
  (putL_filter h.sl h.sm_ h.dis x an _ (by simpa using hx)).symm
theorem put_stay (h : InvA C sm A) {x : Ev} {an : Bool} (hx : sm x ∧ 0 ≤ x.a ∧ x.a ≤ 1073741824) (hfr : A.freed ≤ x.a) (hc : A.now < x.a ∨ putMet A.l A.m x an ≠ an) : InvA C sm (putD A x an) := by
  have hq := (dis_q h.sl h.sm_ h.dis).put x an
  have hfold : (putD A x an).fold C = A.fold C := by
    unfold AM.fold putD
    simp only
    rcases hc with hc | hc
    · exact (foldT_congr C.R h.sl hq.s1 (put_keep h hc) (-1) C.first).symm
    · rw [putL_same hc]
  refine ⟨hq.s1, hq.s2, h.sq, put_ev h.ev hx, q_dis hq, by rw [hfold]; exact h.at_, h.lo, h.fr, fun y => by rw [hfold]; exact h.sure y, h.uns, fun e he hn => ?_⟩
  rcases putL_mem he with rfl | he
  · exact hfr
  · exact h.fn e he hn
theorem put_back (hR : Laws C.R ok sm) (h : InvA C sm A) (hf : ok C.first) {x : Ev} {an : Bool} (hx : sm x ∧ 0 ≤ x.a ∧ x.a ≤ 1073741824) (hfr : A.freed ≤ x.a) (hc : x.a ≤ A.now) : InvA C sm (backA C (putD A x an) x.a) := by
  have hq := (dis_q h.sl h.sm_ h.dis).put x an
  exact back_inv hR h hf hfr hc hq.s1 hq.s2 (put_ev h.ev hx) (q_dis hq) (put_keep h (by omega)) h.sq (fun _ h => h) (fun _ h _ => h)
theorem back_plain (hR : Laws C.R ok sm) (h : InvA C sm A) (hf : ok C.first) {tu : Int} (hto : A.freed ≤ tu) (hle : tu ≤ A.now) : InvA C sm (backA C A tu) :=
  back_inv hR h hf hto hle h.sl h.sm_ h.ev h.dis rfl h.sq (fun _ h => h) (fun _ h _ => h)
/-- an event that came back: its record is there -/
theorem ret_back (hR : Laws C.R ok sm) (h : InvA C sm A) (hf : ok C.first) {x : Ev} (hh : rhas A.q x = true) (hto : A.freed ≤ x.t) (hle : x.t ≤ A.now) : InvA C sm (backA C { A with q := rrem A.q x } x.t) :=
  back_inv hR h hf hto hle h.sl h.sm_ h.ev h.dis rfl (h.sq.rem_ x) (fun r hr => ((rrem_mem h.sq hh r.1 r.2).1 hr).2) (fun r hr ht => (rrem_mem h.sq hh r.1 r.2).2 ⟨fun e => by rw [e] at ht; omega, hr⟩)
theorem ret_stay (hR : Laws C.R ok sm) (h : InvA C sm A) (hf : ok C.first) {x : Ev} (hh : rhas A.q x = true) (hle : A.now < x.t) : InvA C sm { A with q := rrem A.q x } := by
  refine ⟨h.sl, h.sm_, h.sq.rem_ x, h.ev, h.dis, h.at_, h.lo, h.fr, fun y => ?_, fun y hy => h.uns y ((rrem_mem h.sq hh y false).1 hy).2, h.fn⟩
  show (y, true) ∈ rrem A.q x ↔ y ∈ (A.fold C).2.2 ∧ A.freed ≤ y.t
  rw [rrem_mem h.sq hh y true, ← h.sure y]
  refine ⟨fun hx => hx.2, fun hx => ⟨fun e => ?_, hx⟩⟩
  have := sure_le hR h hf hx
  rw [e] at this
  omega
def nextB (A : AM) : Int := match nx A.l A.now with | some c => c | none => 1073741825
def settleA (A : AM) : AM := { A with q := stay (flushP (nextB A)) A.q }
theorem settle_inv (h : InvA C sm A) : InvA C sm (settleA A) := by
  refine ⟨h.sl, h.sm_, h.sq.stay _, h.ev, h.dis, h.at_, h.lo, h.fr, fun y => ?_, fun y hy => h.uns y (List.mem_filter.1 hy).1, h.fn⟩
  show (y, true) ∈ stay (flushP (nextB A)) A.q ↔ y ∈ (A.fold C).2.2 ∧ A.freed ≤ y.t
  rw [← h.sure y]
  unfold stay
  rw [List.mem_filter]
  exact ⟨fun hx => hx.1, fun hx => ⟨hx, by simp [flushP]⟩⟩
/-- the least time at which it may still do something -/
def leastA (A : AM) : Int := match leastL A.q with
  | some r => min (match nx A.l A.now with | some c => min 1073741825 c | none => 1073741825) r.1.t
  | none => match nx A.l A.now with | some c => min 1073741825 c | none => 1073741825
theorem leastL_some {q : List Rec} (h : RSrt q) {r : Rec} (hr : leastL q = some r) : r ∈ q ∧ r.2 = false ∧ ∀ z ∈ q, z.2 = false → r.1.t ≤ z.1.t := by
  unfold leastL at hr
  induction q with
  | nil => cases hr
  | cons a q ih =>
    unfold RSrt at h
    rw [List.pairwise_cons] at h
    rw [List.find?_cons] at hr
    cases ha : a.2
    · rw [ha] at hr
      simp only [Bool.not_false] at hr
      injection hr with hr
      subst hr
      refine ⟨by simp, ha, fun z hz _ => ?_⟩
      rcases List.mem_cons.1 hz with rfl | hz
      · exact Int.le_refl _
      · have := h.1 z hz
        unfold sLt at this
        split at this
        · have := of_decide_eq_true this; omega
        · rename_i h; simp at h; omega
    · rw [ha] at hr
      simp only [Bool.not_true] at hr
      obtain ⟨h1, h2, h3⟩ := ih h.2 hr
      refine ⟨List.mem_cons_of_mem _ h1, h2, fun z hz hb => ?_⟩
      rcases List.mem_cons.1 hz with rfl | hz
      · rw [ha] at hb; cases hb
      · exact h3 z hz hb
theorem leastL_none {q : List Rec} (hr : leastL q = none) : ∀ z ∈ q, z.2 = true := fun z hz => by
  have := List.find?_eq_none.1 hr z hz
  simpa using this
theorem least_le (h : InvA C sm A) : (∀ z ∈ A.q, z.2 = false → leastA A ≤ z.1.t) ∧ (∀ e ∈ A.l, A.now < e.a → leastA A ≤ e.a) := by
  constructor
  · intro z hz hb
    unfold leastA
    cases hr : leastL A.q with
    | none => have := leastL_none hr z hz; rw [hb] at this; cases this
    | some r =>
      have := (leastL_some h.sq hr).2.2 z hz hb
      simp only
      exact Int.le_trans (Int.min_le_right _ _) this
  · intro e he hn
    obtain ⟨c, h1, h2, _⟩ := nx_of_mem h.sl he hn
    unfold leastA
    rw [h1]
    cases leastL A.q with
    | none => simp only; omega
    | some r => simp only; omega
def freeA (A : AM) (below : Int) : AM := { A with freed := below, q := stay (dropP below) A.q }
def freeM (A : AM) (below : Int) : List Ev := A.l.filter (fun e => decide (A.freed ≤ e.a) && decide (e.a < below))
theorem free_inv (h : InvA C sm A) {below : Int} (h1 : below ≤ leastA A) (h2 : A.freed < below) : InvA C sm (freeA A below) := by
  have hfr := h.fr
  obtain ⟨l1, l2⟩ := least_le h
  refine ⟨h.sl, h.sm_, h.sq.stay _, h.ev, h.dis, h.at_, h.lo, by show 0 ≤ below; omega, fun y => ?_, fun y hy => ?_, fun e he hn => ?_⟩
  · show (y, true) ∈ stay (dropP below) A.q ↔ y ∈ (A.fold C).2.2 ∧ below ≤ y.t
    unfold stay dropP
    rw [List.mem_filter, h.sure y]
    simp
    omega
  · have hy' := (List.mem_filter.1 hy).1
    have g := h.uns y hy'
    have := l1 _ hy' rfl
    exact ⟨g.1, g.2.1, by show below ≤ y.t; simp only at this; omega, g.2.2.2⟩
  · have := l2 e he hn
    show below ≤ e.a
    omega
/-- what a call makes of it: the process, messages, events, error -/
structure Ans where
  A : AM
  M : List OMsg
  E : List Ev
  e : Int
def bakA (C : Cfg) (A : AM) (tu : Int) : Ans := if tu < A.freed then ⟨A, [], [], 18⟩ else if A.now < tu then ⟨A, [], [], 0⟩ else ⟨backA C A tu, backM C A tu, [], 0⟩
def comeA (C : Cfg) (A : AM) (x : Ev) (an : Bool) : Ans := if A.now < x.a ∨ putMet A.l A.m x an ≠ an then ⟨putD A x an, [], [], 0⟩ else ⟨backA C (putD A x an) x.a, backM C (putD A x an) x.a, [], 0⟩
def stpA (C : Cfg) (A : AM) : Ans := match nx A.l A.now with
  | some c => ⟨stepA C A c, sentM c (sndA C A c) A.q, [], 0⟩
  | none => ⟨A, [], [], 14⟩
def takA (C : Cfg) (A : AM) (x : Ev) (an : Bool) : Ans := if x.d ≠ C.id then ⟨A, [], [], 1⟩ else if x.a < A.freed then ⟨A, [], [], 18⟩ else if x.a < 0 ∨ 1073741824 < x.a then ⟨A, [], [], 10⟩ else comeA C A x an
def setA (A : AM) : Ans := ⟨settleA A, antis (flushP (nextB A)) A.q, [], 0⟩
def givA (C : Cfg) (A : AM) (x : Ev) : Ans := if x.a < A.freed then ⟨A, [], [], 18⟩ else if has A.l x then comeA C A x true else ⟨A, [], [], 14⟩
def retA (C : Cfg) (A : AM) (x : Ev) : Ans := if x.s ≠ C.id then ⟨A, [], [], 1⟩ else if x.t < A.freed then ⟨A, [], [], 18⟩ else if rhas A.q x then bakA C { A with q := rrem A.q x } x.t else ⟨A, [(x, false)], [], 0⟩
def freA (A : AM) (below : Int) : Ans := if leastA A < below then ⟨A, [], [], 18⟩ else if below ≤ A.freed then ⟨A, [], [], 0⟩ else ⟨freeA A below, [], freeM A below, 0⟩
def doA (C : Cfg) (A : AM) (k b : Int) (x : Ev) (an : Bool) : Ans :=
  if k = 0 then stpA C A else if k = 1 then takA C A x an else if k = 2 then setA A else if k = 3 then bakA C A b else if k = 5 then givA C A x else if k = 6 then retA C A x else freA A b
theorem come_inv (hR : Laws C.R ok sm) (h : InvA C sm A) (hf : ok C.first) {x : Ev} {an : Bool} (hx : sm x ∧ 0 ≤ x.a ∧ x.a ≤ 1073741824) (hfr : A.freed ≤ x.a) : InvA C sm (comeA C A x an).A := by
  unfold comeA
  split
  · rename_i hc; exact put_stay h hx hfr hc
  · rename_i hc
    exact put_back hR h hf hx hfr (by by_cases g : A.now < x.a; exact absurd (.inl g) hc; omega)
theorem bak_inv (hR : Laws C.R ok sm) (h : InvA C sm A) (hf : ok C.first) (tu : Int) : InvA C sm (bakA C A tu).A := by
  unfold bakA
  split
  · exact h
  · split
    · exact h
    · exact back_plain hR h hf (by omega) (by omega)
theorem do_inv (hR : Laws C.R ok sm) (h : InvA C sm A) (hf : ok C.first) (k b : Int) (x : Ev) (an : Bool) (hx : k = 1 → sm x) : InvA C sm (doA C A k b x an).A := by
  unfold doA
  split
  · unfold stpA
    split
    · rename_i c hc; exact step_inv hR h hf hc
    · exact h
  · split
    · rename_i hk
      unfold takA
      split
      · exact h
      · split
        · exact h
        · split
          · exact h
          · exact come_inv hR h hf ⟨hx hk, by omega, by omega⟩ (by omega)
    · split
      · exact settle_inv h
      · split
        · exact bak_inv hR h hf b
        · split
          · unfold givA
            split
            · exact h
            · split
              · rename_i hh
                exact come_inv hR h hf (h.ev x ((has_mem h.sl x).1 hh)) (by omega)
              · exact h
          · split
            · unfold retA
              split
              · exact h
              · split
                · exact h
                · split
                  · rename_i hh
                    unfold bakA
                    simp only
                    split
                    · omega
                    · split
                      · exact ret_stay hR h hf hh (by omega)
                      · exact ret_back hR h hf hh (by omega) (by omega)
                  · exact h
            · unfold freA
              split
              · exact h
              · split
                · exact h
                · exact free_inv h (by omega) (by omega)
end
end Go.Proofs.YthbcdkeammhakaaGreat
