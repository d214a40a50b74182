/-
  The document's records and the queue's: plainly.
-/
import Derived.Test.YtbplomnoapndnaaRefP
import Derived.Test.YtbplomnoapndnaaOrdP
namespace Go.Proofs.Ytbplomnoapndnaa
open Go.RowKit

theorem srtS_ext : ∀ {p q : List Ev}, p.Pairwise (fun x y => sLt x y = true) → q.Pairwise (fun x y => sLt x y = true) → (∀ r, r ∈ p ↔ r ∈ q) → p = q
  | [], [], _, _, _ => rfl
  | [], b :: q, _, _, h => by have := (h b).2 (by simp); cases this
  | a :: p, [], _, _, h => by have := (h a).1 (by simp); cases this
  | a :: p, b :: q, hp, hq, h => by
    obtain ⟨p1, p2⟩ := List.pairwise_cons.1 hp
    obtain ⟨q1, q2⟩ := List.pairwise_cons.1 hq
    have hab : a = b := by
      rcases List.mem_cons.1 ((h a).1 (by simp)) with h1 | h1
      · exact h1
      · rcases List.mem_cons.1 ((h b).2 (by simp)) with h2 | h2
        · exact h2.symm
        · have h3 := p1 b h2
          have h4 := q1 a h1
          rw [sLt_asymm h3] at h4
          cases h4
    subst hab
    rw [srtS_ext p2 q2 (fun r => ?_)]
    constructor
    · intro hr
      rcases List.mem_cons.1 ((h r).1 (by simp [hr])) with h1 | h1
      · subst h1
        have := p1 r hr
        rw [sLt_irrefl] at this
        cases this
      · exact h1
    · intro hr
      rcases List.mem_cons.1 ((h r).2 (by simp [hr])) with h1 | h1
      · subst h1
        have := q1 r hr
        rw [sLt_irrefl] at this
        cases this
      · exact h1
theorem srtS_strict : ∀ {l : List Ev}, SrtS l → l.Nodup → l.Pairwise (fun p q => sLt p q = true)
  | [], _, _ => List.Pairwise.nil
  | a :: r, h, hn => by
    obtain ⟨h1, h2⟩ := List.pairwise_cons.1 h
    obtain ⟨n1, n2⟩ := List.nodup_cons.1 hn
    refine List.pairwise_cons.2 ⟨fun p hp => ?_, srtS_strict h2 n2⟩
    cases hq : sLt a p
    · have := sLt_total hq (h1 p hp)
      subst this
      exact absurd hp n1
    · rfl
theorem mem_evs {l : List Rec} {e : Ev} : e ∈ evs l ↔ ∃ b, (e, b) ∈ l := by
  unfold evs
  rw [List.mem_map]
  constructor
  · rintro ⟨⟨x, b⟩, h, rfl⟩
    exact ⟨b, h⟩
  · rintro ⟨b, h⟩
    exact ⟨(e, b), h, rfl⟩
/-- the same records -/
structure Sm (R Q : List Rec) : Prop where
  nd : (evs R).Nodup
  st : RSrt Q
  mem : ∀ r, r ∈ R ↔ r ∈ Q
section
variable {R Q : List Rec}
theorem Sm.evs_mem (h : Sm R Q) (e : Ev) : e ∈ evs R ↔ e ∈ evs Q := by
  rw [mem_evs, mem_evs]
  constructor
  · rintro ⟨b, hb⟩; exact ⟨b, (h.mem _).1 hb⟩
  · rintro ⟨b, hb⟩; exact ⟨b, (h.mem _).2 hb⟩
theorem evs_strict (h : RSrt Q) : (evs Q).Pairwise (fun p q => sLt p q = true) := by
  unfold evs
  rw [List.pairwise_map]
  exact h
theorem Sm.sort (h : Sm R Q) : ssort (evs R) = evs Q := by
  refine srtS_ext (srtS_strict (ssort_srt _) ((ssort_perm _).nodup_iff.2 h.nd)) (evs_strict h.st) (fun e => ?_)
  rw [(ssort_perm _).mem_iff]
  exact h.evs_mem e
theorem Sm.len (h : Sm R Q) : R.length = Q.length := by
  have := congrArg List.length h.sort
  rw [(ssort_perm _).length_eq, evs_len, evs_len] at this
  exact this
theorem Sm.nil : Sm [] [] := ⟨List.nodup_nil, List.Pairwise.nil, fun _ => Iff.rfl⟩
theorem Sm.filter (h : Sm R Q) (p : Rec → Bool) : Sm (R.filter p) (Q.filter p) :=
  ⟨List.Nodup.sublist (List.Sublist.map _ List.filter_sublist) h.nd, List.Pairwise.sublist List.filter_sublist h.st, fun r => by rw [List.mem_filter, List.mem_filter, h.mem]⟩
theorem Sm.doubt (h : Sm R Q) (a : Int) : Sm (doubt a R) (doubt a Q) := by
  refine ⟨by rw [evs_doubt]; exact h.nd, h.st.doubt a, fun r => ?_⟩
  unfold Go.Proofs.Ytbplomnoapndnaa.doubt
  rw [List.mem_map, List.mem_map]
  constructor
  · rintro ⟨x, hx, rfl⟩; exact ⟨x, (h.mem x).1 hx, rfl⟩
  · rintro ⟨x, hx, rfl⟩; exact ⟨x, (h.mem x).2 hx, rfl⟩
theorem any_mem {p : Rec → Bool} (h : Sm R Q) : R.any p = Q.any p := by
  rw [Bool.eq_iff_iff, List.any_eq_true, List.any_eq_true]
  constructor
  · rintro ⟨x, hx, hp⟩; exact ⟨x, (h.mem x).1 hx, hp⟩
  · rintro ⟨x, hx, hp⟩; exact ⟨x, (h.mem x).2 hx, hp⟩
theorem Sm.wrong (h : Sm R Q) (a : Int) (l : List Ev) : wrongE a l R = wrongE a l Q := by
  unfold wrongE
  rw [any_mem h]
theorem Sm.has (h : Sm R Q) (e : Ev) : e ∈ evs R ↔ rhas Q e = true := by
  rw [mem_evs, rhas_mem h.st]
  constructor
  · rintro ⟨b, hb⟩; exact ⟨b, (h.mem _).1 hb⟩
  · rintro ⟨b, hb⟩; exact ⟨b, (h.mem _).2 hb⟩
end
/-! ### what goes -/
theorem lt_le (a t : Int) : decide (t < a) = !decide (a ≤ t) := by
  by_cases h : a ≤ t
  · rw [decide_eq_true h, decide_eq_false (by omega)]
    rfl
  · rw [decide_eq_false h, decide_eq_true (by omega)]
    rfl
theorem away_0 (a : Int) (r : Rec) : awayP 0 a r = !backP a r := by
  unfold awayP backP
  rw [if_pos rfl, lt_le]
theorem away_1 (a : Int) (r : Rec) : awayP 1 a r = !flushP a r := by
  unfold awayP flushP
  rw [if_neg (by decide), lt_le, decide_eq_false (show ¬ (1 : Int) = 2 by decide)]
  cases r.2 <;> cases decide (a ≤ r.1.t) <;> rfl
theorem away_2 (a : Int) (r : Rec) : awayP 2 a r = !dropP a r := by
  unfold awayP dropP
  rw [if_neg (by decide), lt_le, decide_eq_true (show (2 : Int) = 2 from rfl)]
  cases r.2 <;> cases decide (a ≤ r.1.t) <;> rfl
theorem Sm.keep {R Q : List Rec} (h : Sm R Q) {p P : Rec → Bool} (hp : ∀ r, p r = !P r) : Sm (keepR p R) (stay P Q) := by
  have e : p = fun r => !P r := funext hp
  subst e
  exact h.filter _
theorem Sm.gone {R Q : List Rec} (h : Sm R Q) {p P : Rec → Bool} (hp : ∀ r, p r = !P r) : (ssort (evs (goneR p R))).map (fun e => (e, true)) = antis P Q := by
  have e : goneR p R = R.filter P := by
    unfold goneR
    apply List.filter_congr
    intro r _
    rw [hp, Bool.not_not]
  rw [e, (h.filter P).sort, antis_is]
  rfl
theorem Sm.gone_len {R Q : List Rec} (h : Sm R Q) {p P : Rec → Bool} (hp : ∀ r, p r = !P r) : (ssort (evs (goneR p R))).length = (antis P Q).length := by
  rw [← h.gone hp, List.length_map]
/-! ### Return -/
theorem isNot_iff (x : Ev) (r : Rec) : isNot x r = true ↔ r.1 ≠ x := by
  unfold isNot
  rw [Bool.not_eq_true', ← Bool.not_eq_true, evB_iff]
theorem Sm.ret_has {R Q : List Rec} (h : Sm R Q) (x : Ev) : decide (0 < (goneR (isNot x) R).length) = rhas Q x := by
  rw [Bool.eq_iff_iff, decide_eq_true_eq, ← h.has, mem_evs, List.length_pos_iff_exists_mem]
  unfold goneR
  constructor
  · rintro ⟨⟨y, b⟩, hy⟩
    rw [List.mem_filter] at hy
    have h2 : ¬ isNot x (y, b) = true := by simpa using hy.2
    rw [isNot_iff] at h2
    have : y = x := Classical.not_not.1 h2
    subst this
    exact ⟨b, hy.1⟩
  · rintro ⟨b, hb⟩
    refine ⟨(x, b), List.mem_filter.2 ⟨hb, ?_⟩⟩
    have h2 : ¬ isNot x (x, b) = true := by rw [isNot_iff]; simp
    simpa using h2
theorem Sm.ret {R Q : List Rec} (h : Sm R Q) (x : Ev) : Sm (keepR (isNot x) R) (if rhas Q x then rrem Q x else Q) := by
  have hk := h.filter (isNot x)
  refine ⟨hk.nd, ?_, fun r => ?_⟩
  · split
    · exact h.st.rem_ x
    · exact h.st
  · unfold keepR
    rw [hk.mem, List.mem_filter, isNot_iff]
    obtain ⟨y, b⟩ := r
    split
    · rename_i hh
      rw [rrem_mem h.st hh]
      exact And.comm
    · rename_i hh
      constructor
      · exact fun h1 => h1.1
      · intro h1
        refine ⟨h1, fun he => hh ?_⟩
        simp only at he
        subst he
        exact (rhas_mem h.st y).2 ⟨b, h1⟩
/-! ### Sent -/
theorem rstep_idx {st : List Rec × List Msg} {x : Ev} {k : Nat} (h : atI (evs st.1) x = (k : Int)) (hm : x ∈ evs st.1) : rstep st x = (st.1.set k (x, true), st.2) := by
  have hlt : (evs st.1).findIdx (fun y => decide (y = x)) < (evs st.1).length := List.findIdx_lt_length_of_exists ⟨x, hm, by simp⟩
  unfold atI at h
  rw [if_pos hlt] at h
  have hk : (evs st.1).findIdx (fun y => decide (y = x)) = k := by omega
  unfold rstep
  rw [if_pos hm, hk]
theorem rstep_new {st : List Rec × List Msg} {x : Ev} (hm : x ∉ evs st.1) : rstep st x = (st.1 ++ [(x, true)], st.2 ++ [(x, false)]) := by
  unfold rstep
  rw [if_neg hm]
theorem evs_set {l : List Rec} {k : Nat} {x : Ev} (b : Bool) (h : (evs l)[k]? = some x) : evs (l.set k (x, b)) = evs l := by
  unfold evs at h ⊢
  rw [List.map_set]
  apply List.ext_getElem?
  intro j
  rw [List.getElem?_set]
  split
  · rename_i h1
    subst h1
    rw [if_pos (List.getElem?_eq_some_iff.1 h).1, h]
  · rfl
theorem rstep_nd {st : List Rec × List Msg} (h : (evs st.1).Nodup) (e : Ev) : (evs (rstep st e).1).Nodup := by
  by_cases hm : e ∈ evs st.1
  · obtain ⟨k, hk, _, hk3, _⟩ := atI_mem hm
    rw [rstep_idx hk hm, evs_set true hk3]
    exact h
  · rw [rstep_new hm, evs_append]
    exact List.nodup_append.2 ⟨h, by simp [evs], fun a ha b hb => by
      simp [evs] at hb
      subst hb
      rintro rfl
      exact hm ha⟩
theorem rstep_in {st : List Rec × List Msg} (h : (evs st.1).Nodup) (e x : Ev) (b : Bool) : (x, b) ∈ (rstep st e).1 ↔ (x = e ∧ b = true) ∨ (x ≠ e ∧ (x, b) ∈ st.1) := by
  by_cases hm : e ∈ evs st.1
  · obtain ⟨k, hk, hk2, hk3, _⟩ := atI_mem hm
    rw [rstep_idx hk hm]
    rw [evs_len] at hk2
    simp only
    have key : ∀ j y c, st.1[j]? = some (y, c) → (y = e ↔ j = k) := fun j y c hj => by
      have hj' := evs_at' hj
      constructor
      · rintro rfl
        obtain ⟨h1, h2⟩ := List.getElem?_eq_some_iff.1 hj'
        obtain ⟨h3, h4⟩ := List.getElem?_eq_some_iff.1 hk3
        rcases Nat.lt_trichotomy j k with h5 | h5 | h5
        · exact absurd (h2.trans h4.symm) (List.pairwise_iff_getElem.1 h j k h1 h3 h5)
        · exact h5
        · exact absurd (h4.trans h2.symm) (List.pairwise_iff_getElem.1 h k j h3 h1 h5)
      · rintro rfl
        rw [hk3] at hj'
        injection hj' with hj'
        exact hj'.symm
    constructor
    · intro hx
      obtain ⟨j, hj⟩ := List.mem_iff_getElem?.1 hx
      rw [List.getElem?_set] at hj
      split at hj
      · rename_i h1
        subst h1
        injection hj with hj
        injection hj with h2 h3
        exact .inl ⟨h2.symm, h3.symm⟩
      · rename_i h1
        exact .inr ⟨fun he => h1 ((key j x b hj).1 he).symm, List.mem_of_getElem? hj⟩
    · rintro (⟨rfl, rfl⟩ | ⟨h1, h2⟩)
      · exact List.mem_iff_getElem?.2 ⟨k, by rw [List.getElem?_set, if_pos rfl, if_pos hk2]⟩
      · obtain ⟨j, hj⟩ := List.mem_iff_getElem?.1 h2
        refine List.mem_iff_getElem?.2 ⟨j, ?_⟩
        rw [List.getElem?_set, if_neg]
        · exact hj
        · intro h3
          exact h1 ((key j x b hj).2 h3.symm)
  · rw [rstep_new hm]
    simp only [List.mem_append, List.mem_singleton, Prod.mk.injEq]
    constructor
    · rintro (h1 | h1)
      · exact .inr ⟨fun he => hm (mem_evs.2 ⟨b, he ▸ h1⟩), h1⟩
      · exact .inl h1
    · rintro (h1 | ⟨_, h1⟩)
      · exact .inr h1
      · exact .inl h1
theorem rsteps_nd (s : List Ev) : ∀ {st : List Rec × List Msg}, (evs st.1).Nodup → (evs (s.foldl rstep st).1).Nodup := by
  induction s with
  | nil => intro st h; exact h
  | cons e r ih => intro st h; exact ih (rstep_nd h e)
theorem rsteps_in (s : List Ev) : ∀ {st : List Rec × List Msg}, (evs st.1).Nodup → ∀ (x : Ev) (b : Bool), (x, b) ∈ (s.foldl rstep st).1 ↔ (x ∈ s ∧ b = true) ∨ (x ∉ s ∧ (x, b) ∈ st.1) := by
  induction s with
  | nil => intro st _ x b; simp
  | cons e r ih =>
    intro st h x b
    rw [List.foldl_cons, ih (rstep_nd h e), rstep_in h]
    by_cases hxe : x = e
    · subst hxe
      by_cases hr : x ∈ r <;> simp [hr]
    · by_cases hr : x ∈ r <;> simp [hr, hxe]
theorem rstep_evs {st : List Rec × List Msg} {e x : Ev} (hne : x ≠ e) : x ∈ evs (rstep st e).1 ↔ x ∈ evs st.1 := by
  by_cases hm : e ∈ evs st.1
  · obtain ⟨k, hk, _, hk3, _⟩ := atI_mem hm
    rw [rstep_idx hk hm, evs_set true hk3]
  · rw [rstep_new hm, evs_append, List.mem_append]
    simp [evs, hne]
theorem rsteps_msgs (s : List Ev) : ∀ {st : List Rec × List Msg}, s.Nodup → (s.foldl rstep st).2 = st.2 ++ (s.filter (fun e => !decide (e ∈ evs st.1))).map (fun e => (e, false)) := by
  induction s with
  | nil => intro st _; simp
  | cons e r ih =>
    intro st hn
    obtain ⟨hn1, hn2⟩ := List.nodup_cons.1 hn
    rw [List.foldl_cons, ih hn2]
    have e1 : r.filter (fun x => !decide (x ∈ evs (rstep st e).1)) = r.filter (fun x => !decide (x ∈ evs st.1)) := by
      apply List.filter_congr
      intro x hx
      have := rstep_evs (st := st) (fun (he : x = e) => hn1 (he ▸ hx))
      rw [decide_eq_decide.2 this]
    rw [e1]
    by_cases hm : e ∈ evs st.1
    · obtain ⟨k, hk, _⟩ := atI_mem hm
      rw [rstep_idx hk hm]
      simp [hm]
    · rw [rstep_new hm]
      simp [hm]
theorem rsent_stay {a : Int} {l : List Ev} {Q : List Rec} (hz : wrongE a l Q = 0) (r : Rec) (hr : r ∈ Q) : rsentP a l r = !sentP a (esort l) r := by
  have h1 := sentP_iff a l r
  have h2 := (wrong_zero.1 hz).2.2 r hr
  have e : rsentP a l r = true ↔ ¬ sentP a (esort l) r = true := by
    rw [h1]
    unfold rsentP
    simp only [Bool.or_eq_true, Bool.and_eq_true, decide_eq_true_eq]
    constructor
    · rintro (h3 | h3 | ⟨h3, h4⟩)
      · rintro (⟨h5, _⟩ | ⟨_, h6⟩)
        · have := h2 h3; omega
        · rw [h3] at h6; cases h6
      · rintro (⟨h5, _⟩ | ⟨h5, _⟩) <;> omega
      · rintro (⟨_, h5⟩ | ⟨h5, _⟩)
        · exact h5 h4
        · omega
    · intro h3
      by_cases h4 : r.2 = true
      · exact .inl h4
      · have h4 : r.2 = false := by simpa using h4
        by_cases h5 : a < r.1.t
        · exact .inr (.inl h5)
        · by_cases h6 : r.1.t = a
          · refine .inr (.inr ⟨h6, ?_⟩)
            exact Classical.byContradiction fun h7 => h3 (.inl ⟨h6, h7⟩)
          · exact absurd (.inr ⟨by omega, h4⟩) h3
  cases h3 : rsentP a l r <;> cases h4 : sentP a (esort l) r <;> simp_all
theorem Sm.keep_on {R Q : List Rec} (h : Sm R Q) {p P : Rec → Bool} (hp : ∀ r ∈ Q, p r = !P r) : Sm (keepR p R) (stay P Q) := by
  have := h.filter p
  refine ⟨this.nd, h.st.stay P, fun r => ?_⟩
  unfold keepR stay
  rw [this.mem, List.mem_filter, List.mem_filter]
  constructor
  · rintro ⟨h1, h2⟩; exact ⟨h1, by rw [← hp r h1]; exact h2⟩
  · rintro ⟨h1, h2⟩; exact ⟨h1, by rw [hp r h1]; exact h2⟩
theorem Sm.gone_on {R Q : List Rec} (h : Sm R Q) {p P : Rec → Bool} (hp : ∀ r ∈ Q, p r = !P r) : (ssort (evs (goneR p R))).map (fun e => (e, true)) = antis P Q := by
  have e : goneR p R = R.filter P := by
    unfold goneR
    apply List.filter_congr
    intro r hr
    rw [hp r ((h.mem r).1 hr), Bool.not_not]
  rw [e, (h.filter P).sort, antis_is]
  rfl
theorem Sm.sent {R Q : List Rec} (h : Sm R Q) (a : Int) (l : List Ev) : Sm (rsentQ a l R) (sentQ a l Q) ∧ rsentM a l R = sentM a l Q := by
  unfold rsentQ rsentM
  rw [h.wrong]
  by_cases hz : wrongE a l Q = 0
  · rw [if_pos hz, if_pos hz]
    have hk := h.keep_on (rsent_stay hz)
    have hg := h.gone_on (rsent_stay hz)
    constructor
    · refine ⟨rsteps_nd _ hk.nd, sentQ_srt h.st, fun r => ?_⟩
      obtain ⟨x, b⟩ := r
      unfold rsentFrom
      rw [rsteps_in _ hk.nd]
      unfold sentQ sentFrom
      rw [if_pos hz, steps_mem _ hk.st]
      unfold rsent0
      simp only
      rw [hk.mem]
    · unfold rsentFrom
      rw [rsteps_msgs _ ((esort_perm l).nodup_iff.2 (wrong_zero.1 hz).2.1), sentM_is h.st hz]
      unfold rsent0
      simp only
      rw [hg]
      congr 2
      apply List.filter_congr
      intro e _
      have := hk.has e
      cases h1 : rhas (stay (sentP a (esort l)) Q) e
      · rw [h1] at this
        have : e ∉ evs (keepR (rsentP a l) R) := fun hm => by have := this.1 hm; cases this
        simp [this]
      · have := this.2 h1
        simp [this]
  · rw [if_neg hz, if_neg hz, sentQ_bad hz, sentM_bad hz]
    exact ⟨h, rfl⟩
end Go.Proofs.Ytbplomnoapndnaa
