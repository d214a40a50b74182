/- Chapter 13: LtI. -/
import Derived.Test.YthbcdkeammhakaaGreatP41
import Derived.Test.YthbcdkeammhakaaGreatP45
set_option maxRecDepth 100000
set_option maxHeartbeats 16000000
namespace Go.Proofs.YthbcdkeammhakaaGreat
open Go.RowKit
theorem Sm.nodup_l {R Q : List Rec} (h : Sm R Q) : R.Nodup := by
 have h1 := h.nd
 unfold evs at h1
 exact List.Pairwise.imp (fun hne he => hne (congrArg _ he)) (List.pairwise_map.1 h1)
theorem Sm.perm {R Q : List Rec} (h : Sm R Q) : R.Perm Q := by
 have h1 := h.nodup_l
 have h2 : Q.Nodup := by
  have h3 := nodup_of h.st
  unfold evs at h3
  exact List.Pairwise.imp (fun hne he => hne (congrArg _ he)) (List.pairwise_map.1 h3)
 exact (List.perm_ext_iff_of_nodup h1 h2).2 h.mem
theorem sureL_sorted {q : List Rec} (h : RSrt q) : SrtS (sureL q) := by
 unfold sureL SrtS
 rw [List.pairwise_map]
 have h1 : RSrt (q.filter (·.2)) := List.Pairwise.sublist List.filter_sublist h
 exact List.Pairwise.imp (fun h => sLt_asymm h) h1
theorem unsL_sorted {q : List Rec} (h : RSrt q) : SrtS (unsL q) := by
 unfold unsL SrtS
 rw [List.pairwise_map]
 have h1 : RSrt (q.filter (fun r => !r.2)) := List.Pairwise.sublist List.filter_sublist h
 exact List.Pairwise.imp (fun h => sLt_asymm h) h1
theorem Sm.sort_sure {R Q : List Rec} (h : Sm R Q) {s : List Ev} (hs : SrtS s) (hp : s.Perm (sureL R)) : s = sureL Q := by
 refine List.Perm.eq_of_pairwise (le := fun p q => sLt q p = false) (fun _ _ _ _ h1 h2 => sLt_total h2 h1) hs (sureL_sorted h.st) (hp.trans ?_)
 unfold sureL
 exact List.Perm.map _ (List.Perm.filter _ h.perm)
theorem Sm.sort_uns {R Q : List Rec} (h : Sm R Q) {s : List Ev} (hs : SrtS s) (hp : s.Perm (unsL R)) : s = unsL Q := by
 refine List.Perm.eq_of_pairwise (le := fun p q => sLt q p = false) (fun _ _ _ _ h1 h2 => sLt_total h2 h1) hs (unsL_sorted h.st) (hp.trans ?_)
 unfold unsL
 exact List.Perm.map _ (List.Perm.filter _ h.perm)
theorem sureL_len (q : List Rec) : (sureL q).length = sures q := by
 unfold sureL sures
 rw [List.length_map, List.countP_eq_length_filter]
theorem unsL_len (q : List Rec) : ((unsL q).length : Int) = (q.length : Int) - (sures q : Int) := by
 have h1 := sure_uns q
 have h2 := sureL_len q
 omega
theorem sureL_at {R : List Rec} {i : Nat} {r : Rec} (h : R[i]? = some r) : sureL (R.take (i + 1)) = sureL (R.take i) ++ (if r.2 then [r.1] else []) := by
 rw [List.take_add_one, h, Option.toList_some, sureL_snoc]
theorem unsL_at {R : List Rec} {i : Nat} {r : Rec} (h : R[i]? = some r) : unsL (R.take (i + 1)) = unsL (R.take i) ++ (if r.2 then [] else [r.1]) := by
 rw [List.take_add_one, h, Option.toList_some, unsL_snoc]
theorem sureL_le (R : List Rec) (i : Nat) : (sureL (R.take i)).length ≤ i ∧ (unsL (R.take i)).length ≤ i := by
 have h1 := sure_uns (R.take i)
 have h2 : (R.take i).length ≤ i := by rw [List.length_take]; omega
 omega
structure OtI (w : World) (R : List Rec) (i : Nat) (va vb : Value) (wr : World) : Prop where
 fw : Fresh w wr
 oa : OwnS wr 41 7 va (sureL (R.take i)).length (cells (sureL (R.take i)))
 ob : OwnS wr 41 7 vb (unsL (R.take i)).length (cells (unsL (R.take i)))
 na : ∀ k, va.ownBlock = some k → w.heap.size ≤ k
 nb : ∀ k, vb.ownBlock = some k → w.heap.size ≤ k
 d : ∀ k, va.ownBlock = some k → vb.ownBlock ≠ some k
section
variable {w wr W w' : World} {R : List Rec} {i : Nat} {va vb v' : Value} {r : Rec}
theorem OtI.start (w : World) (R : List Rec) : OtI w R 0 (.slice none 0 0) (.slice none 0 0) w := ⟨Keep.refl _ _, OwnS.nil _ _ _, OwnS.nil _ _ _, by simp [Value.ownBlock], by simp [Value.ownBlock], by simp [Value.ownBlock]⟩
theorem OtI.sure (h : OtI w R i va vb wr) (hx : R[i]? = some r) (ht : r.2 = true) (fW : Fresh wr W) (k : Keep (fun k => va.ownBlock = some k) W w') (o : OwnS w' 41 7 v' ((sureL (R.take i)).length + 1) (cells (sureL (R.take i)) ++ cells [r.1])) (n : ∀ k, v'.ownBlock = some k → va.ownBlock = some k ∨ W.heap.size ≤ k) : OtI w R (i + 1) v' vb w' := by
 have e1 := sureL_at hx
 have e2 := unsL_at hx
 rw [if_pos ht] at e1 e2
 rw [List.append_nil] at e2
 have hs := h.fw.size
 have hs2 := fW.size
 refine ⟨(h.fw.step fW (fun _ _ h => h)).step k (fun q hq e => by have := h.na q e; omega), by rw [e1, List.length_append, cells_append]; exact o, by rw [e2]; exact (h.ob.fresh fW).kept k (fun q hq e => h.d q e hq), fun q hq => ?_, h.nb, fun q hq => ?_⟩
 ·rcases n q hq with h1 | h1
  ·exact h.na q h1
  ·omega
 ·rcases n q hq with h1 | h1
  ·exact h.d q h1
  ·intro h2; have := h.ob.lt h2; omega
theorem OtI.unsure (h : OtI w R i va vb wr) (hx : R[i]? = some r) (ht : r.2 = false) (fW : Fresh wr W) (k : Keep (fun k => vb.ownBlock = some k) W w') (o : OwnS w' 41 7 v' ((unsL (R.take i)).length + 1) (cells (unsL (R.take i)) ++ cells [r.1])) (n : ∀ k, v'.ownBlock = some k → vb.ownBlock = some k ∨ W.heap.size ≤ k) : OtI w R (i + 1) va v' w' := by
 have e1 := sureL_at hx
 have e2 := unsL_at hx
 rw [if_neg (by simp [ht])] at e1 e2
 rw [List.append_nil] at e1
 have hs := h.fw.size
 have hs2 := fW.size
 refine ⟨(h.fw.step fW (fun _ _ h => h)).step k (fun q hq e => by have := h.nb q e; omega), by rw [e1]; exact (h.oa.fresh fW).kept k (fun q hq e => h.d q hq e), by rw [e2, List.length_append, cells_append]; exact o, h.na, fun q hq => ?_, fun q hq h2 => ?_⟩
 ·rcases n q hq with h1 | h1
  ·exact h.nb q h1
  ·omega
 ·rcases n q h2 with h1 | h1
  ·exact h.d q hq h1
  ·have := h.oa.lt hq; omega
end
end Go.Proofs.YthbcdkeammhakaaGreat
