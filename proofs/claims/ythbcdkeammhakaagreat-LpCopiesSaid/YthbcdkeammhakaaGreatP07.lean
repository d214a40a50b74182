/- Chapter 13: PMulti. -/
import Derived.Test.YthbcdkeammhakaaGreatP06
set_option maxRecDepth 100000
set_option maxHeartbeats 16000000
namespace Go.Proofs.YthbcdkeammhakaaGreat
open Go.RowKit
theorem cnt_count (l : List Ev) (x : Ev) : cnt l x = l.count x := by
 unfold cnt List.count
 congr 1
 funext y
 cases h : evB y x
 ·have : y ≠ x := fun e => by rw [(evB_iff y x).2 e] at h; cases h
  simp [this]
 ·simp [(evB_iff y x).1 h]
theorem ins_perm (l : List Ev) (x : Ev) : (ins l x).Perm (x :: l) := by
 unfold ins
 refine List.perm_middle.trans ?_
 rw [List.take_append_drop]
theorem rem_perm {l : List Ev} {x : Ev} (h : has l x = true) : l.Perm (x :: rem l x) := by
 have hl := has_lt h
 have hx : l[pos l x]? = some x := of_decide_eq_true h
 have e : l = l.take (pos l x) ++ x :: l.drop (pos l x + 1) := by
  have h2 : l.drop (pos l x) = l[pos l x] :: l.drop (pos l x + 1) := List.drop_eq_getElem_cons hl
  have h3 : l[pos l x] = x := by rw [List.getElem?_eq_getElem hl] at hx; injection hx
  rw [h3] at h2
  rw [← h2, List.take_append_drop]
 unfold rem
 refine List.Perm.trans (e ▸ List.Perm.refl _) List.perm_middle
theorem has_mem {l : List Ev} (hs : Srt l) (x : Ev) : has l x = true ↔ x ∈ l := by
 constructor
 ·intro h
  exact List.mem_of_getElem? (of_decide_eq_true h)
 ·intro h
  obtain ⟨t, ht⟩ := List.mem_iff_getElem?.1 h
  obtain ⟨h1, h2⟩ := hs.pos_ x
  have htp : pos l x ≤ t := by
   by_cases hlt : t < pos l x
   ·have := h1 t x hlt ht
    rw [evLt_irrefl] at this
    cases this
   ·omega
  have htl := (List.getElem?_eq_some_iff.1 ht).1
  have hpl : pos l x < l.length := by omega
  have hy := List.getElem?_eq_getElem hpl
  have h3 := h2 _ _ (Nat.le_refl _) hy
  have h4 : evLt x (l[pos l x]) = false := by
   cases h5 : evLt x (l[pos l x])
   ·rfl
   ·by_cases hne : pos l x = t
    ·rw [← hne, hy] at ht
     injection ht with ht
     rw [ht, evLt_irrefl] at h5
     cases h5
    ·obtain ⟨h6, h7⟩ := List.getElem?_eq_some_iff.1 ht
     have := List.pairwise_iff_getElem.1 hs (pos l x) t hpl h6 (by omega)
     rw [h7, h5] at this
     cases this
  unfold has
  rw [hy, evLt_total h3 h4]
  simp
theorem has_cnt {l : List Ev} (hs : Srt l) (x : Ev) : has l x = decide (0 < cnt l x) := by
 rw [cnt_count]
 cases h : has l x
 ·have : x ∉ l := fun hm => by rw [(has_mem hs x).2 hm] at h; cases h
  rw [List.count_eq_zero_of_not_mem this]
  rfl
 ·have := (has_mem hs x).1 h
  rw [eq_comm, decide_eq_true_iff]
  exact List.count_pos_iff.2 this
theorem cnt_ins (l : List Ev) (x y : Ev) : cnt (ins l x) y = cnt l y + (if x = y then 1 else 0) := by
 rw [cnt_count, cnt_count, (ins_perm l x).count, List.count_cons]
 simp
theorem cnt_rem {l : List Ev} {x : Ev} (h : has l x = true) (y : Ev) : cnt (rem l x) y + (if x = y then 1 else 0) = cnt l y := by
 rw [cnt_count, cnt_count, (rem_perm h).count, List.count_cons]
 simp
theorem srt_ext {l m : List Ev} (hl : Srt l) (hm : Srt m) (h : ∀ x, cnt l x = cnt m x) : l = m := by
 have hp : l.Perm m := List.perm_iff_count.2 fun x => by rw [← cnt_count, ← cnt_count, h]
 exact List.Perm.eq_of_pairwise (le := fun p q => evLt q p = false) (fun a b _ _ h1 h2 => evLt_total h2 h1) hl hm hp
structure QIs (l m : List Ev) (d : Ev → Int) : Prop where
 s1 : Srt l
 s2 : Srt m
 c1 : ∀ x, (cnt l x : Int) = max 0 (d x)
 c2 : ∀ x, (cnt m x : Int) = max 0 (-d x)
def sg (an : Bool) : Int := if an then -1 else 1
def dput (d : Ev → Int) (x : Ev) (an : Bool) (y : Ev) : Int := d y + (if x = y then sg an else 0)
theorem QIs.put {l m : List Ev} {d : Ev → Int} (h : QIs l m d) (x : Ev) (an : Bool) : QIs (putL l m x an) (putB l m x an) (dput d x an) := by
 have hx1 := h.c1 x
 have hx2 := h.c2 x
 have e1 := has_cnt h.s1 x
 have e2 := has_cnt h.s2 x
 cases an
 ·cases hh : has m x
  ·rw [hh] at e2
   have e3 : cnt m x = 0 := by have := of_decide_eq_false e2.symm; omega
   simp only [putL, putB, hh, Bool.false_eq_true, if_false]
   refine ⟨h.s1.ins_ x, h.s2, fun y => ?_, fun y => ?_⟩
   ·rw [cnt_ins]
    have := h.c1 y
    unfold dput sg
    by_cases hy : x = y
    ·subst hy; simp; omega
    ·simp [hy]; omega
   ·have := h.c2 y
    unfold dput sg
    by_cases hy : x = y
    ·subst hy; simp; omega
    ·simp [hy]; omega
  ·rw [hh] at e2
   have e3 : 0 < cnt m x := of_decide_eq_true e2.symm
   simp only [putL, putB, hh, Bool.false_eq_true, if_false, if_true]
   refine ⟨h.s1, h.s2.rem_ x, fun y => ?_, fun y => ?_⟩
   ·have := h.c1 y
    unfold dput sg
    by_cases hy : x = y
    ·subst hy; simp; omega
    ·simp [hy]; omega
   ·have h3 := cnt_rem hh y
    have := h.c2 y
    unfold dput sg
    by_cases hy : x = y
    ·subst hy; simp at h3 ⊢; omega
    ·simp [hy] at h3 ⊢; omega
 ·cases hh : has l x
  ·rw [hh] at e1
   have e3 : cnt l x = 0 := by have := of_decide_eq_false e1.symm; omega
   simp only [putL, putB, hh, Bool.false_eq_true, if_false, if_true]
   refine ⟨h.s1, h.s2.ins_ x, fun y => ?_, fun y => ?_⟩
   ·have := h.c1 y
    unfold dput sg
    by_cases hy : x = y
    ·subst hy; simp; omega
    ·simp [hy]; omega
   ·rw [cnt_ins]
    have := h.c2 y
    unfold dput sg
    by_cases hy : x = y
    ·subst hy; simp; omega
    ·simp [hy]; omega
  ·rw [hh] at e1
   have e3 : 0 < cnt l x := of_decide_eq_true e1.symm
   simp only [putL, putB, hh, if_true]
   refine ⟨h.s1.rem_ x, h.s2, fun y => ?_, fun y => ?_⟩
   ·have h3 := cnt_rem hh y
    have := h.c1 y
    unfold dput sg
    by_cases hy : x = y
    ·subst hy; simp at h3 ⊢; omega
    ·simp [hy] at h3 ⊢; omega
   ·have := h.c2 y
    unfold dput sg
    by_cases hy : x = y
    ·subst hy; simp; omega
    ·simp [hy]; omega
end Go.Proofs.YthbcdkeammhakaaGreat
