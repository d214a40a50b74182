/- Chapter 13: RegS. -/
import Derived.Test.YthbcdkeammhakaaGreatP01
import Derived.StillTail
import Derived.Deep.RegionHeld
set_option maxRecDepth 100000
set_option maxHeartbeats 16000000
namespace Go.Proofs.YthbcdkeammhakaaGreat
open Go.RowKit
section
variable {P : Program} {md : Region.Mode} {ops : Array Oper} {Q : Exit → Act → World → Prop} {S : World → Prop} {T : List Nat}
def AnyT (P : Program) (md : Region.Mode) (ops : Array Oper) (Q : Exit → Act → World → Prop) (S : World → Prop) (T : List Nat) : Nat → Array Bool → Act → World → Prop
 | 0, listed, a, w => Region.ready md ops listed = [] ∧ Q .normal a w
 | f + 1, listed, a, w => (Region.ready md ops listed = [] → Q .normal a w) ∧
  ∀ i ∈ Region.ready md ops listed, wpOp P ops Q i (fun a' w' => (i ∈ T ∨ S w') ∧ AnyT P md ops Q S T f (listed.setIfInBounds i true) a' w') a w
theorem any_of_T : ∀ (f : Nat) (listed : Array Bool) (a : Act) (w : World), AnyT P md ops Q S T f listed a w → wpAny P md ops Q f listed a w
 | 0, _, _, _, h => h
 | f + 1, _, _, _, h => ⟨h.1, fun i hi => wpOp_mono (fun _ _ h' => any_of_T f _ _ _ h'.2) (h.2 i hi)⟩
theorem not_ready {i j : Nat} {listed : Array Bool} (hw : Region.waitsFor md ops j i = true) (hr : i ∈ Region.ready md ops listed) : j ∉ Region.ready md ops listed := fun hj => by
 obtain ⟨oj, hoj, e, he, hb, heq⟩ := Region.waitsFor_spec hw
 obtain ⟨_, oj', hoj', hall⟩ := mem_ready.1 hj
 rw [hoj] at hoj'
 injection hoj' with hoj'
 subst hoj'
 have h1 := hall e he hb
 have h0 := (mem_ready.1 hr).1
 rw [heq] at h1
 rcases Nat.lt_or_ge i listed.size with h' | h'
 ·simp [h'] at h0 h1; rw [h0] at h1; cases h1
 ·simp [Array.getElem?_eq_none h'] at h1
theorem anyT_first {i : Nat} {oi : Oper} {v : Value} (hi : ops[i]? = some oi) (hsel : ∀ (j : Nat) (o : Oper) cs b, ops[j]? = some o → o.op ≠ .select cs b)
  (hQ : ∀ c a w, Q (.panic c) (a.put oi.dst v) w → Q (.panic c) a w) (hT : ∀ j ∈ T, Region.waitsFor md ops j i = true) :
  ∀ (f : Nat) (listed : Array Bool) (a : Act) (w : World),
   (∀ j oj, ops[j]? = some oj → j ≠ i → listed.getD j true = false → (∀ e ∈ oj.after, Region.binds md e = true → e.on ≠ i) → oi.apart ops oj = true) →
   i ∈ Region.ready md ops listed → YieldsIf P ops S oi v a → S w →
   AnyT P md ops Q S T f (listed.setIfInBounds i true) (a.put oi.dst v) w → AnyT P md ops Q S T (f + 1) listed a w := by
 intro f
 induction f with
 | zero =>
  intro listed a w _ hr hy hS H
  refine ⟨fun h => (by rw [h] at hr; cases hr), fun j hj => ?_⟩
  by_cases hji : j = i
  ·subst hji
   exact hy.wpOp hi hS ⟨.inr hS, H⟩
  ·have := ready_mono hj hji
   rw [H.1] at this
   cases this
 | succ f ih =>
  intro listed a w hfree hr hy hS H
  refine ⟨fun h => (by rw [h] at hr; cases hr), fun j hj => ?_⟩
  by_cases hji : j = i
  ·subst hji
   exact hy.wpOp hi hS ⟨.inr hS, H⟩
  ·have hjT : j ∉ T := fun h => not_ready (hT j h) hr hj
   have h1 := H.2 j (ready_mono hj hji)
   obtain ⟨hjun, oj, hoj, hall⟩ := mem_ready.1 hj
   have hnot : ∀ e ∈ oj.after, Region.binds md e = true → e.on ≠ i := fun e he hb heq => by
    have h1 := hall e he hb
    have h0 := (mem_ready.1 hr).1
    rw [heq] at h1
    rcases Nat.lt_or_ge i listed.size with h' | h'
    ·simp [h'] at h0 h1; rw [h0] at h1; cases h1
    ·simp [Array.getElem?_eq_none h'] at h1
   have h2 := wpOp_putIf hoj (hfree j oj hoj hji hjun hnot) (fun cs b => hsel i oi cs b hi) (fun cs b => hsel j oj cs b hoj) hQ hy h1
   refine wpOp_mono (fun a' w' h3 => ?_) h2
   have hSw : S w' := h3.2.1.resolve_left hjT
   refine ⟨.inr hSw, ih (listed.setIfInBounds j true) a' w' (fun k ok hk hki hun hno => ?_) (ready_mono hr (Ne.symm hji)) h3.1 hSw ?_⟩
   ·refine hfree k ok hk hki ?_ hno
    by_cases hjk : j = k
    ·subst hjk; exact hjun
    ·rw [getD_set_ne true hjk] at hun; exact hun
   ·rw [Array.setIfInBounds_comm _ _ hji]
    exact h3.2.2
theorem anyT_take {i : Nat} {oi : Oper} {v : Value} {f : Nat} {listed : Array Bool} {a : Act} {w : World} (hi : ops[i]? = some oi)
  (hs : Region.noSelect ops = true) (hf : Region.free md ops listed i = true) (hr : (Region.ready md ops listed).contains i = true) (hT : (T.all fun j => Region.waitsFor md ops j i) = true)
  (hQ : ∀ c a w, Q (.panic c) (a.put oi.dst v) w → Q (.panic c) a w) (hy : YieldsIf P ops S oi v a) (hS : S w)
  (h : AnyT P md ops Q S T f (listed.setIfInBounds i true) (a.put oi.dst v) w) : AnyT P md ops Q S T (f + 1) listed a w :=
 anyT_first hi (Region.noSelect_spec hs) hQ (fun j hj => List.all_eq_true.1 hT j hj) f listed a w (Region.free_spec hi hf) (by simpa using hr) hy hS h
theorem anyT_one' {i : Nat} {o : Oper} {f : Nat} {listed : Array Bool} {a : Act} {w : World} (hr : Region.ready md ops listed = [i]) (ho : ops[i]? = some o) (hw : Region.wanted o (yielded ops a.tmps) = true)
  (h : ∀ K : Act → World → Prop, Hid (∀ a' w', S w' → AnyT P md ops Q S T f (listed.setIfInBounds i true) a' w' → K a' w') → o.wp P a w K Q) : AnyT P md ops Q S T (f + 1) listed a w := by
 refine ⟨fun h0 => (by rw [hr] at h0; cases h0), fun j hj => ?_⟩
 rw [hr] at hj
 have hji : j = i := by simpa using hj
 subst hji
 unfold wpOp
 simp only [ho, hw, if_true]
 exact .inl (h _ (fun _ _ h1 h2 => ⟨.inr h1, h2⟩))
theorem anyT_done {f : Nat} {listed : Array Bool} {a : Act} {w : World} (hr : Region.ready md ops listed = []) (h : Q .normal a w) : AnyT P md ops Q S T f listed a w := by
 cases f with
 | zero => exact ⟨hr, h⟩
 | succ f => exact ⟨fun _ => h, fun i hi => by rw [hr] at hi; cases hi⟩
theorem anyT_seq : ∀ (l : List Oper) (k : Nat) (listed : Array Bool) (a : Act) (w : World), (∀ j, l[j]? = ops[k + j]?) → (∀ j, j < l.length → k + j ∈ T) →
  Region.seqB md ops l.length k listed = true → wpList P ops Q l a w → AnyT P md ops Q S T l.length listed a w
 | [], _, _, _, _, _, _, hB, h => ⟨by simpa [Region.seqB] using hB, h⟩
 | o :: l, k, listed, a, w, hl, ht, hB, h => by
  have h0 : ops[k]? = some o := by simpa using (hl 0).symm
  simp only [List.length_cons, Region.seqB, Bool.and_eq_true, decide_eq_true_eq] at hB
  refine ⟨fun h1 => (by rw [hB.1] at h1; cases h1), fun i hi => ?_⟩
  rw [hB.1] at hi
  have hik : i = k := by simpa using hi
  subst hik
  have hw : wpOp P ops Q i (wpList P ops Q l) a w := by unfold wpOp; simp only [h0]; exact h
  exact wpOp_mono (fun a' w' h' => ⟨.inl (by simpa using ht 0 (by simp)), anyT_seq l (i + 1) _ a' w' (fun j => by have := hl (j + 1); simpa [Nat.add_assoc, Nat.add_comm 1 j] using this) (fun j hj => by have := ht (j + 1) (by simpa using hj); simpa [Nat.add_assoc, Nat.add_comm 1 j] using this) hB.2 h'⟩) hw
theorem anyT_tail {f k : Nat} {listed : Array Bool} {a : Act} {w : World} (hf : (ops.toList.drop k).length = f) (hT : ∀ j, j < f → k + j ∈ T) (hB : Region.seqB md ops f k listed = true) (h : wpList P ops Q (ops.toList.drop k) a w) : AnyT P md ops Q S T f listed a w := by
 subst hf
 exact anyT_seq (ops.toList.drop k) k listed a w (fun j => by rw [List.getElem?_drop, Array.getElem?_toList]) hT hB h
theorem region_T {id : Nat} {a : Act} {w : World} (hm : P.follows .mixedOrders = true) (h : AnyT P .any ops Q S T ops.size (Array.replicate ops.size false) a w.drew) : (Code.region id ops true).wp P Q a w :=
 wp_region_any hm (any_of_T _ _ _ _ h)
end
end Go.Proofs.YthbcdkeammhakaaGreat
