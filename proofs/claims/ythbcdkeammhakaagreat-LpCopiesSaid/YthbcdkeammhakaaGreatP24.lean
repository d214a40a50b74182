/- Chapter 13: ORecs, OPutAt, OSentM, OAgain, ORetP, OLessP. -/
import Derived.Test.YthbcdkeammhakaaGreatP21
set_option maxRecDepth 100000
set_option maxHeartbeats 16000000
namespace Go.Proofs.YthbcdkeammhakaaGreat
open Go.RowKit Go.Shelf
attribute [local go_sem] Oper.semAt_some
attribute [local go_sem ↓] Go.wp_at_zero Go.wp_at_succ
theorem run_eql_seq (fn : Fn) (a b : Array Value) (w : World) : (binOp .eql 75 (.func fn a b) .nilFunc).run Tryz.prog w = .ok (.bool false) w := by
 kernel_rfl
attribute [local go_sem] run_eql_seq
def evs (l : List Rec) : List Ev := l.map (·.1)
theorem evs_len (l : List Rec) : (evs l).length = l.length := by simp [evs]
end Go.Proofs.YthbcdkeammhakaaGreat
namespace Go.Proofs.YthbcdkeammhakaaGreat
open Go.RowKit
def SrtS (l : List Ev) : Prop := l.Pairwise (fun p q => sLt q p = false)
theorem sahead_any (p q : Ev) (w : World) : Calls Tryz.prog 51 #[p.val, q.val] w fun e w' => e = .returned (.bool (sLt p q)) ∧ Fresh w w' := by
 have HA := Lib.hid (fun W => ahead_any p q W)
 unfold sLt
 unfold Ev.val at HA ⊢
 by_cases h : p.t = q.t
 ·have t1 : (p.t == q.t) = true := by simpa using h
  rw [if_neg (by simpa using h)]
  clear h
  go_enter Tryz.func51, Tryz.ntmps51
  go_wp2_with (go_at_call 52; (with_reducible refine (HA.out _).mono ?_); rintro e w1 ⟨rfl, f1⟩)
  go_ret
  exact ⟨rfl, (((Keep.refl _ w).alloc _).alloc _).step f1 (fun _ _ h => h)⟩
 ·have t1 : (p.t == q.t) = false := by simpa using h
  rw [if_pos h]
  clear h HA
  go_enter Tryz.func51, Tryz.ntmps51
  go_wp2_with fail
  go_ret
  exact ⟨rfl, ((Keep.refl _ w).alloc _).alloc _⟩
end Go.Proofs.YthbcdkeammhakaaGreat
namespace Go.Proofs.YthbcdkeammhakaaGreat
open Go.RowKit
theorem RSrt.mem_uniq {q : List Rec} (h : RSrt q) {i : Nat} {e : Ev} {b : Bool} (hi : q[i]? = some (e, b)) {x : Ev} {c : Bool} (hx : (x, c) ∈ q.take i ∨ (x, c) ∈ q.drop (i + 1)) : x ≠ e := by
 rintro rfl
 have hlt := (List.getElem?_eq_some_iff.1 hi).1
 have hs := h
 unfold RSrt at hs
 rw [List.pairwise_iff_getElem] at hs
 have hg := (List.getElem?_eq_some_iff.1 hi).2
 rcases hx with hx | hx
 ·obtain ⟨j, hj⟩ := List.mem_iff_getElem?.1 hx
  rw [List.getElem?_take] at hj
  split at hj
  ·rename_i hji
   obtain ⟨hj1, hj2⟩ := List.getElem?_eq_some_iff.1 hj
   have := hs j i hj1 hlt hji
   rw [hj2, hg] at this
   rw [sLt_irrefl] at this
   cases this
  ·cases hj
 ·obtain ⟨j, hj⟩ := List.mem_iff_getElem?.1 hx
  rw [List.getElem?_drop] at hj
  obtain ⟨hj1, hj2⟩ := List.getElem?_eq_some_iff.1 hj
  have := hs i (i + 1 + j) hlt hj1 (by omega)
  rw [hj2, hg] at this
  rw [sLt_irrefl] at this
  cases this
theorem step_srt {st : List Rec × List OMsg} (h : RSrt st.1) (e : Ev) : RSrt (sentStep st e).1 := by
 unfold sentStep
 cases hh : rhas st.1 e
 ·exact h.ins (x := (e, true)) hh
 ·obtain ⟨b, hb⟩ := rhas_at hh
  exact h.set hb true
theorem step_mem {st : List Rec × List OMsg} (h : RSrt st.1) (e x : Ev) (b : Bool) : (x, b) ∈ (sentStep st e).1 ↔ (x = e ∧ b = true) ∨ (x ≠ e ∧ (x, b) ∈ st.1) := by
 unfold sentStep
 cases hh : rhas st.1 e
 ·have hno : ∀ c, (e, c) ∉ st.1 := fun c hc => by
   rw [(rhas_mem h e).2 ⟨c, hc⟩] at hh
   cases hh
  simp only [Bool.false_eq_true, if_false]
  unfold rins
  rw [List.mem_append, List.mem_cons]
  have e1 : (x, b) ∈ st.1 ↔ (x, b) ∈ st.1.take (rpos st.1 e) ∨ (x, b) ∈ st.1.drop (rpos st.1 e) := by
   rw [← List.mem_append, List.take_append_drop]
  constructor
  ·rintro (h1 | h1 | h1)
   ·exact .inr ⟨fun he => hno b (he ▸ e1.2 (.inl h1)), e1.2 (.inl h1)⟩
   ·injection h1 with h2 h3
    exact .inl ⟨h2, h3⟩
   ·exact .inr ⟨fun he => hno b (he ▸ e1.2 (.inr h1)), e1.2 (.inr h1)⟩
  ·rintro (⟨rfl, rfl⟩ | ⟨_, h1⟩)
   ·exact .inr (.inl rfl)
   ·rcases e1.1 h1 with h1 | h1
    ·exact .inl h1
    ·exact .inr (.inr h1)
 ·obtain ⟨c, hc⟩ := rhas_at hh
  have hlt := (List.getElem?_eq_some_iff.1 hc).1
  simp only [if_true]
  unfold rmark
  rw [List.set_eq_take_append_cons_drop, if_pos hlt, List.mem_append, List.mem_cons]
  have e1 : (x, b) ∈ st.1 ↔ (x, b) ∈ st.1.take (rpos st.1 e) ∨ (x, b) = (e, c) ∨ (x, b) ∈ st.1.drop (rpos st.1 e + 1) := by
   have e2 : st.1 = st.1.take (rpos st.1 e) ++ (e, c) :: st.1.drop (rpos st.1 e + 1) := by
    rw [← (List.getElem?_eq_some_iff.1 hc).2, ← List.drop_eq_getElem_cons hlt, List.take_append_drop]
   constructor
   ·intro hm
    rw [e2, List.mem_append, List.mem_cons] at hm
    exact hm
   ·intro hm
    rw [e2, List.mem_append, List.mem_cons]
    exact hm
  constructor
  ·rintro (h1 | h1 | h1)
   ·exact .inr ⟨h.mem_uniq hc (.inl h1), e1.2 (.inl h1)⟩
   ·injection h1 with h2 h3
    exact .inl ⟨h2, h3⟩
   ·exact .inr ⟨h.mem_uniq hc (.inr h1), e1.2 (.inr (.inr h1))⟩
  ·rintro (⟨rfl, rfl⟩ | ⟨hne, h1⟩)
   ·exact .inr (.inl rfl)
   ·rcases e1.1 h1 with h1 | h1 | h1
    ·exact .inl h1
    ·injection h1 with h2 _
     exact absurd h2 hne
    ·exact .inr (.inr h1)
theorem steps_srt (s : List Ev) : ∀ {st : List Rec × List OMsg}, RSrt st.1 → RSrt (s.foldl sentStep st).1 := by
 induction s with
 | nil => intro st h; exact h
 | cons e r ih => intro st h; exact ih (step_srt h e)
theorem steps_mem (s : List Ev) : ∀ {st : List Rec × List OMsg}, RSrt st.1 → ∀ (x : Ev) (b : Bool), (x, b) ∈ (s.foldl sentStep st).1 ↔ (x ∈ s ∧ b = true) ∨ (x ∉ s ∧ (x, b) ∈ st.1) := by
 induction s with
 | nil => intro st _ x b; simp
 | cons e r ih =>
  intro st h x b
  rw [List.foldl_cons, ih (step_srt h e), step_mem h]
  by_cases hxe : x = e
  ·subst hxe
   by_cases hr : x ∈ r <;> simp [hr]
  ·by_cases hr : x ∈ r <;> simp [hr, hxe]
theorem step_has {st : List Rec × List OMsg} (h : RSrt st.1) {e x : Ev} (hne : x ≠ e) : rhas (sentStep st e).1 x = rhas st.1 x := by
 have h1 := rhas_mem (step_srt h e) x
 have h2 := rhas_mem h x
 have h3 : (∃ b, (x, b) ∈ (sentStep st e).1) ↔ ∃ b, (x, b) ∈ st.1 := by
  constructor
  ·rintro ⟨b, hb⟩
   rcases (step_mem h e x b).1 hb with ⟨he, _⟩ | ⟨_, hb⟩
   ·exact absurd he hne
   ·exact ⟨b, hb⟩
  ·rintro ⟨b, hb⟩
   exact ⟨b, (step_mem h e x b).2 (.inr ⟨hne, hb⟩)⟩
 have h4 : rhas (sentStep st e).1 x = true ↔ rhas st.1 x = true := h1.trans (h3.trans h2.symm)
 cases ha : rhas (sentStep st e).1 x <;> cases hb : rhas st.1 x <;> simp_all
theorem steps_msgs (s : List Ev) : ∀ {st : List Rec × List OMsg}, RSrt st.1 → s.Nodup → (s.foldl sentStep st).2 = st.2 ++ (s.filter (fun e => !rhas st.1 e)).map (fun e => (e, false)) := by
 induction s with
 | nil => intro st _ _; simp
 | cons e r ih =>
  intro st h hn
  obtain ⟨hn1, hn2⟩ := List.nodup_cons.1 hn
  rw [List.foldl_cons, ih (step_srt h e) hn2]
  have e1 : r.filter (fun x => !rhas (sentStep st e).1 x) = r.filter (fun x => !rhas st.1 x) := by
   apply List.filter_congr
   intro x hx
   rw [step_has h (fun (he : x = e) => hn1 (he ▸ hx))]
  rw [e1]
  unfold sentStep
  cases hh : rhas st.1 e
  ·simp [hh]
  ·simp [hh]
end Go.Proofs.YthbcdkeammhakaaGreat
namespace Go.Proofs.YthbcdkeammhakaaGreat
open Go.RowKit
theorem wrong_zero {a : Int} {m : List Ev} {q : List Rec} : wrongE a m q = 0 ↔ (∀ e ∈ m, e.t = a) ∧ m.Nodup ∧ ∀ r ∈ q, r.2 = true → r.1.t < a := by
 unfold wrongE
 by_cases h1 : m.any (fun e => e.t != a) = true
 ·rw [if_pos h1]
  constructor
  ·intro h; simp at h
  ·rintro ⟨h2, _, _⟩
   obtain ⟨e, he, hx⟩ := List.any_eq_true.1 h1
   simp [h2 e he] at hx
 ·rw [if_neg h1]
  have h1' : ∀ e ∈ m, e.t = a := fun e he => by
   rw [List.any_eq_true] at h1
   cases hq : decide (e.t = a)
   ·exact absurd ⟨e, he, by simpa using hq⟩ h1
   ·exact of_decide_eq_true hq
  by_cases h2 : m.Nodup
  ·rw [if_pos h2]
   by_cases h3 : q.any (fun r => r.2 && decide (a ≤ r.1.t)) = true
   ·rw [if_pos h3]
    constructor
    ·intro h; simp at h
    ·rintro ⟨_, _, h4⟩
     obtain ⟨r, hr, hx⟩ := List.any_eq_true.1 h3
     rw [Bool.and_eq_true] at hx
     have := h4 r hr hx.1
     have := of_decide_eq_true hx.2
     omega
   ·rw [if_neg h3]
    refine ⟨fun _ => ⟨h1', h2, fun r hr hs => ?_⟩, fun _ => rfl⟩
    rw [List.any_eq_true] at h3
    cases hq : decide (r.1.t < a)
    ·have h5 : ¬ r.1.t < a := of_decide_eq_false hq
     exact absurd ⟨r, hr, by rw [hs, Bool.true_and]; exact decide_eq_true (by omega)⟩ h3
    ·exact of_decide_eq_true hq
  ·rw [if_neg h2]
   constructor
   ·intro h; simp at h
   ·rintro ⟨_, h3, _⟩
    exact absurd h3 h2
theorem ehas_mem : ∀ {s : List Ev}, Srt s → ∀ e, ehas s e = true ↔ e ∈ s
 | [], _, e => by simp [ehas]
 | a :: r, h, e => by
  obtain ⟨h1, h2⟩ := List.pairwise_cons.1 h
  have ih := ehas_mem h2 e
  unfold ehas at ih ⊢
  cases ha : evLt a e
  ·have hall : ∀ p ∈ r, evLt p e = false := fun p hp => by
    cases hq : evLt p e
    ·rfl
    ·rw [evLt_of_le (h1 p hp) hq] at ha
     cases ha
   have hp : pos (a :: r) e = 0 := by
    unfold pos
    rw [List.countP_eq_zero]
    intro x hx
    rcases List.mem_cons.1 hx with rfl | hx
    ·simp [ha]
    ·simp [hall x hx]
   rw [hp]
   simp only [List.getElem?_cons_zero, Option.some.injEq, decide_eq_true_eq]
   constructor
   ·rintro rfl; simp
   ·intro hm
    rcases List.mem_cons.1 hm with rfl | hm
    ·rfl
    ·exact evLt_total ha (h1 e hm)
  ·have hp : pos (a :: r) e = pos r e + 1 := by unfold pos; rw [List.countP_cons_of_pos (p := fun x => evLt x e) ha]
   rw [hp, List.getElem?_cons_succ, ih, List.mem_cons]
   constructor
   ·exact .inr
   ·rintro (rfl | hm)
    ·rw [evLt_irrefl] at ha; cases ha
    ·exact hm
theorem ehas_esort (m : List Ev) (e : Ev) : ehas (esort m) e = true ↔ e ∈ m := by
 rw [ehas_mem (esort_srt m)]
 exact (esort_perm m).mem_iff
theorem sentP_iff (a : Int) (m : List Ev) (r : Rec) : sentP a (esort m) r = true ↔ (r.1.t = a ∧ r.1 ∉ m) ∨ (r.1.t < a ∧ r.2 = false) := by
 unfold sentP
 by_cases h : r.1.t = a
 ·rw [if_pos h]
  have h1 := ehas_esort m r.1
  cases h2 : ehas (esort m) r.1
  ·rw [h2] at h1
   have : r.1 ∉ m := fun hm => by have := h1.2 hm; cases this
   simp [h, this]
  ·have : r.1 ∈ m := h1.1 h2
   simp [h, this]
 ·rw [if_neg h]
  cases h2 : r.2 <;> simp [h]
theorem sentQ_mem {a : Int} {m : List Ev} {q : List Rec} (h : RSrt q) (hz : wrongE a m q = 0) (x : Ev) (b : Bool) : (x, b) ∈ sentQ a m q ↔ (x ∈ m ∧ b = true) ∨ (x ∉ m ∧ (x, b) ∈ q ∧ sentP a (esort m) (x, b) = false) := by
 unfold sentQ sentFrom
 rw [if_pos hz, steps_mem _ (h.stay _), (esort_perm m).mem_iff]
 simp only [stay, List.mem_filter, Bool.not_eq_true']
theorem sentQ_srt {a : Int} {m : List Ev} {q : List Rec} (h : RSrt q) : RSrt (sentQ a m q) := by
 unfold sentQ sentFrom
 split
 ·exact steps_srt _ (h.stay _)
 ·exact h
theorem sentM_is {a : Int} {m : List Ev} {q : List Rec} (h : RSrt q) (hz : wrongE a m q = 0) : sentM a m q = antis (sentP a (esort m)) q ++ ((esort m).filter (fun e => !rhas (stay (sentP a (esort m)) q) e)).map (fun e => (e, false)) := by
 unfold sentM sentFrom
 rw [if_pos hz]
 exact steps_msgs _ (h.stay _) ((esort_perm m).nodup_iff.2 (wrong_zero.1 hz).2.1)
theorem doubt_mem {a : Int} {q : List Rec} {x : Ev} {b : Bool} : (x, b) ∈ doubt a q ↔ ((a ≤ x.t ∧ b = false ∧ ∃ c, (x, c) ∈ q) ∨ (x.t < a ∧ (x, b) ∈ q)) := by
 unfold doubt
 rw [List.mem_map]
 constructor
 ·rintro ⟨⟨y, c⟩, hy, hx⟩
  simp only at hx
  split at hx
  ·injection hx with h1 h2
   subst h1 h2
   exact .inl ⟨‹_›, rfl, c, hy⟩
  ·injection hx with h1 h2
   subst h1 h2
   exact .inr ⟨by omega, hy⟩
 ·rintro (⟨h1, rfl, c, hc⟩ | ⟨h1, hc⟩)
  ·exact ⟨(x, c), hc, by simp [h1]⟩
  ·exact ⟨(x, b), hc, by simp; omega⟩
theorem RSrt.doubt {q : List Rec} (h : RSrt q) (a : Int) : RSrt (doubt a q) := by
 rw [RSrt.iff] at h ⊢
 have e : (Go.Proofs.YthbcdkeammhakaaGreat.doubt a q).map (·.1) = q.map (·.1) := by
  unfold Go.Proofs.YthbcdkeammhakaaGreat.doubt
  rw [List.map_map]
  apply List.map_congr_left
  intro r _
  simp only [Function.comp]
  split <;> rfl
 rw [e]
 exact h
end Go.Proofs.YthbcdkeammhakaaGreat
namespace Go.Proofs.YthbcdkeammhakaaGreat
open Go.RowKit
theorem rrem_mem {q : List Rec} (h : RSrt q) {x : Ev} (hh : rhas q x = true) (y : Ev) (b : Bool) : (y, b) ∈ rrem q x ↔ y ≠ x ∧ (y, b) ∈ q := by
 obtain ⟨c, hc⟩ := rhas_at hh
 have hlt := (List.getElem?_eq_some_iff.1 hc).1
 have e2 : q = q.take (rpos q x) ++ (x, c) :: q.drop (rpos q x + 1) := by
  rw [← (List.getElem?_eq_some_iff.1 hc).2, ← List.drop_eq_getElem_cons hlt, List.take_append_drop]
 have e1 : (y, b) ∈ q ↔ (y, b) ∈ q.take (rpos q x) ∨ (y, b) = (x, c) ∨ (y, b) ∈ q.drop (rpos q x + 1) := by
  constructor
  ·intro hm
   rw [e2, List.mem_append, List.mem_cons] at hm
   exact hm
  ·intro hm
   rw [e2, List.mem_append, List.mem_cons]
   exact hm
 unfold rrem
 rw [List.mem_append]
 constructor
 ·rintro (h1 | h1)
  ·exact ⟨h.mem_uniq hc (.inl h1), e1.2 (.inl h1)⟩
  ·exact ⟨h.mem_uniq hc (.inr h1), e1.2 (.inr (.inr h1))⟩
 ·rintro ⟨hne, hm⟩
  rcases e1.1 hm with h1 | h1 | h1
  ·exact .inl h1
  ·injection h1 with h2 _
   exact absurd h2 hne
  ·exact .inr h1
end Go.Proofs.YthbcdkeammhakaaGreat
namespace Go.Proofs.YthbcdkeammhakaaGreat
open Go.RowKit
theorem antis_is (p : Rec → Bool) (q : List Rec) : antis p q = ((q.filter p).map (·.1)).map (fun e => (e, true)) := by
 unfold antis
 rw [List.map_map]
 rfl
theorem evs_doubt (a : Int) (q : List Rec) : evs (doubt a q) = evs q := by
 unfold evs doubt
 rw [List.map_map]
 apply List.map_congr_left
 intro r _
 simp only [Function.comp]
 split <;> rfl
end Go.Proofs.YthbcdkeammhakaaGreat
