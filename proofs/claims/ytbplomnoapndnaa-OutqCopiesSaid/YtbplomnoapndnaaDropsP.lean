/-
  What Flush and Drop leave, plainly; how long a queue may be behind some calls.
-/
import Derived.Test.YtbplomnoapndnaaOps
namespace Go.Proofs.Ytbplomnoapndnaa
open Go.RowKit

theorem sentQ_len (a : Int) (l : List Ev) (q : List Rec) : (sentQ a l q).length ≤ q.length + l.length := by
  unfold sentQ sentFrom
  split
  · have h := (steps_le (esort l) (stay (sentP a (esort l)) q, antis (sentP a (esort l)) q)).1
    have h2 := stay_le (sentP a (esort l)) q
    rw [esort_len] at h
    simp only at h
    omega
  · omega
theorem ansQ_len (k a : Int) (l : List Ev) (q : List Rec) : (ansQ k a l q).length ≤ q.length + l.length := by
  unfold ansQ
  split
  · exact sentQ_len a l q
  split
  · exact Nat.le_trans (stay_le _ _) (Nat.le_add_right _ _)
  split
  · unfold doubt
    rw [List.length_map]
    exact Nat.le_add_right _ _
  split
  · exact Nat.le_trans (stay_le _ _) (Nat.le_add_right _ _)
  · exact Nat.le_add_right _ _
theorem anti_stay (p : Rec → Bool) (q : List Rec) : (antis p q).length + (stay p q).length = q.length := by
  unfold antis stay
  rw [List.length_map]
  induction q with
  | nil => rfl
  | cons r q ih =>
    cases h : p r
    · rw [List.filter_cons_of_neg (by simp [h]), List.filter_cons_of_pos (by simp [h])]
      simp only [List.length_cons]
      omega
    · rw [List.filter_cons_of_pos (by simp [h]), List.filter_cons_of_neg (by simp [h])]
      simp only [List.length_cons]
      omega
/-- the records from a time on -/
def later (b : Int) (q : List Rec) : List Rec := q.filter (fun r => decide (b ≤ r.1.t))
theorem drop_flush (b : Int) (q : List Rec) : stay (dropP b) (stay (flushP b) q) = later b q := by
  unfold stay later
  rw [List.filter_filter]
  congr 1
  funext r
  unfold dropP flushP
  by_cases h : b ≤ r.1.t
  · have h2 : ¬ r.1.t < b := by omega
    cases r.2 <;> simp [h, h2]
  · have h2 : r.1.t < b := by omega
    cases r.2 <;> simp [h, h2]
theorem drop_count (b : Int) (q : List Rec) : (antis (flushP b) q).length + (antis (dropP b) (stay (flushP b) q)).length + (later b q).length = q.length := by
  have h1 := anti_stay (flushP b) q
  have h2 := anti_stay (dropP b) (stay (flushP b) q)
  rw [drop_flush] at h2
  omega
theorem antis_flush (b : Int) (q : List Rec) (i : Nat) (m : Msg) (h : (antis (flushP b) q)[i]? = some m) : m.2 = true ∧ m.1.t < b := by
  have hm := List.mem_of_getElem? h
  unfold antis at hm
  obtain ⟨r, hr, rfl⟩ := List.mem_map.1 hm
  have := (List.mem_filter.1 hr).2
  unfold flushP at this
  simp at this
  exact ⟨rfl, this.2⟩
theorem later_snoc (b : Int) (l : List Rec) (y : Rec) : later b (l ++ [y]) = later b l ++ (if b ≤ y.1.t then [y] else []) := by
  unfold later
  rw [List.filter_append]
  congr 1
  by_cases h : b ≤ y.1.t <;> simp [List.filter, h]
theorem later_at (b : Int) (q : List Rec) (i : Nat) (y : Rec) (h : q[i]? = some y) (hb : b ≤ y.1.t) : (later b q)[(later b (q.take i)).length]? = some y := by
  have hi := (List.getElem?_eq_some_iff.1 h).1
  have hd : q.drop i = y :: q.drop (i + 1) := by rw [← (List.getElem?_eq_some_iff.1 h).2]; exact List.drop_eq_getElem_cons hi
  have e : later b q = later b (q.take i) ++ later b (q.drop i) := by
    unfold later
    rw [← List.filter_append, List.take_append_drop]
  rw [e, List.getElem?_append_right (Nat.le_refl _), Nat.sub_self, hd]
  unfold later
  rw [List.filter_cons_of_pos (by simp [hb])]
  rfl
theorem later_take (b : Int) (q : List Rec) (i : Nat) (y : Rec) (h : q[i]? = some y) : (later b (q.take (i + 1))).length = (later b (q.take i)).length + (if b ≤ y.1.t then 1 else 0) := by
  rw [List.take_add_one, h, Option.toList_some, later_snoc, List.length_append]
  split <;> rfl
theorem evs_at (q : List Rec) (i : Nat) (y : Rec) (h : q[i]? = some y) : (evs q)[i]? = some y.1 := by
  unfold evs
  rw [List.getElem?_map, h]
  rfl
theorem least_later (b : Int) (q : List Rec) (y : Rec) (h : leastL (later b q) = some y) : b ≤ y.1.t := by
  unfold leastL at h
  have hm := List.mem_of_find?_eq_some h
  unfold later at hm
  simpa using (List.mem_filter.1 hm).2
end Go.Proofs.Ytbplomnoapndnaa
