/- Chapter 13: ORefP, OSameP, ORefS. -/
import Derived.Test.YthbcdkeammhakaaGreatP43
import Derived.Test.YthbcdkeammhakaaGreatP44
import Derived.Deep.DeepCutAuto
set_option maxRecDepth 100000
set_option maxHeartbeats 16000000
namespace Go.Proofs.YthbcdkeammhakaaGreat
open Go.RowKit
def ssort (l : List Ev) : List Ev := l.mergeSort (fun a b => !sLt b a)
theorem sLt_ntrans {a b c : Ev} (h1 : sLt b a = false) (h2 : sLt c b = false) : sLt c a = false := by
 cases h : sLt c a
 ·rfl
 ·cases h3 : sLt a b
  ·have := sLt_total h3 h1
   subst this
   rw [h2] at h
   cases h
  ·rw [sLt_trans h h3] at h2
   cases h2
theorem ssort_perm (l : List Ev) : (ssort l).Perm l := List.mergeSort_perm l _
theorem ssort_srt (l : List Ev) : SrtS (ssort l) := by
 have h := List.pairwise_mergeSort (le := fun a b => !sLt b a) (fun a b c h1 h2 => by
  simp only [Bool.not_eq_true'] at *
  exact sLt_ntrans h1 h2) (fun a b => by
  cases h1 : sLt b a
  ·simp
  ·simp [sLt_asymm h1]) l
 exact List.Pairwise.imp (fun h => by simpa using h) h
theorem ssort_is {l s : List Ev} (hs : SrtS s) (hp : s.Perm l) : s = ssort l :=
 List.Perm.eq_of_pairwise (le := fun p q => sLt q p = false) (fun _ _ _ _ h1 h2 => sLt_total h2 h1) hs (ssort_srt l) (hp.trans (ssort_perm l).symm)
def rsentP (a : Int) (l : List Ev) (r : Rec) : Bool := r.2 || (decide (a < r.1.t) || (decide (r.1.t = a) && decide (r.1 ∈ l)))
def rstep (st : List Rec × List OMsg) (e : Ev) : List Rec × List OMsg :=
 if e ∈ evs st.1 then (st.1.set ((evs st.1).findIdx (fun x => decide (x = e))) (e, true), st.2) else (st.1 ++ [(e, true)], st.2 ++ [(e, false)])
def rsent0 (a : Int) (l : List Ev) (R : List Rec) : List Rec × List OMsg := (keepR (rsentP a l) R, (ssort (evs (goneR (rsentP a l) R))).map (fun e => (e, true)))
def rsentFrom (a : Int) (l : List Ev) (R : List Rec) : List Rec × List OMsg := (esort l).foldl rstep (rsent0 a l R)
def rsentQ (a : Int) (l : List Ev) (R : List Rec) : List Rec := if wrongE a l R = 0 then (rsentFrom a l R).1 else R
def rsentM (a : Int) (l : List Ev) (R : List Rec) : List OMsg := if wrongE a l R = 0 then (rsentFrom a l R).2 else []
theorem rstep_le (st : List Rec × List OMsg) (e : Ev) : (rstep st e).1.length ≤ st.1.length + 1 ∧ (rstep st e).2.length ≤ st.2.length + 1 := by
 unfold rstep
 split
 ·simp
 ·simp
theorem rsteps_le (s : List Ev) : ∀ (st : List Rec × List OMsg), (s.foldl rstep st).1.length ≤ st.1.length + s.length ∧ (s.foldl rstep st).2.length ≤ st.2.length + s.length := by
 induction s with
 | nil => intro st; exact ⟨Nat.le_refl _, Nat.le_refl _⟩
 | cons e r ih =>
  intro st
  have h1 := ih (rstep st e)
  have h2 := rstep_le st e
  simp only [List.foldl_cons, List.length_cons]
  omega
theorem fold_take (s : List Ev) (st : List Rec × List OMsg) (i : Nat) (x : Ev) (h : s[i]? = some x) : (s.take (i + 1)).foldl rstep st = rstep ((s.take i).foldl rstep st) x := by
 rw [List.take_add_one, h, Option.toList_some, List.foldl_append]
 rfl
theorem rsent0_le (a : Int) (l : List Ev) (R : List Rec) : (rsent0 a l R).1.length ≤ R.length ∧ (rsent0 a l R).2.length ≤ R.length := by
 unfold rsent0
 refine ⟨List.length_filter_le _ _, ?_⟩
 simp only
 rw [List.length_map, (ssort_perm _).length_eq, evs_len]
 exact List.length_filter_le _ _
structure RQ2 (w : World) (g : Nat) (v1 v2 : Value) (L S : List Rec) : Prop where
 blk : Blk w g 108 #[v1, v2]
 o1 : OwnS w 41 7 v1 L.length (cells (evs L))
 o2 : OwnS w 4 1 v2 S.length (bools S)
section
variable {w w' w3 : World} {g : Nat} {v1 v2 v' : Value} {L S R : List Rec} {y : Rec} {T : Nat → Prop}
theorem RQ2.of (h : ORQ w g v1 v2 R) : RQ2 w g v1 v2 R R := ⟨h.blk, h.o1, h.o2⟩
theorem RQ2.is (h : RQ2 w g v1 v2 R R) : ORQ w g v1 v2 R := ⟨h.blk, h.o1, h.o2⟩
theorem RQ2.n1 (h : RQ2 w g v1 v2 L S) : v1.ownBlock ≠ some g := h.o1.ne_blk h.blk (by decide)
theorem RQ2.n2 (h : RQ2 w g v1 v2 L S) : v2.ownBlock ≠ some g := h.o2.ne_blk h.blk (by decide)
theorem RQ2.kept (h : RQ2 w g v1 v2 L S) (k : Keep T w w') (hS : ∀ i, rfoot g v1 v2 i → ¬ T i) : RQ2 w' g v1 v2 L S :=
 ⟨h.blk.keep k (hS g (.inl rfl)), h.o1.kept k (fun i hi => hS i (.inr (.inl hi))), h.o2.kept k (fun i hi => hS i (.inr (.inr hi)))⟩
theorem RQ2.fresh (h : RQ2 w g v1 v2 L S) (k : Fresh w w') : RQ2 w' g v1 v2 L S := h.kept k (fun _ _ h => h)
theorem RQ2.appL (h : RQ2 w g v1 v2 L S) (o : OwnS w3 41 7 v' (L.length + 1) (cells (evs L) ++ cells [y.1])) (k : Keep (fun k => v1.ownBlock = some k) w w3) (n : ∀ i, v'.ownBlock = some i → v1.ownBlock = some i ∨ w.heap.size ≤ i) :
  RQ2 (w3.setCell ⟨g, 0, none⟩ v') g v' v2 (L ++ [y]) S ∧ RTurn w (w3.setCell ⟨g, 0, none⟩ v') g v1 v2 v' v2 := by
 have b3 := h.blk.keep k (fun hs => h.n1 hs)
 have o2 := h.o2.kept k (fun i hi hs => h.o1.ne_own h.o2 (by decide) i hs hi)
 have oo : OwnS w3 41 7 v' (L ++ [y]).length (cells (evs (L ++ [y]))) := by rw [List.length_append, evs_append, cells_append]; exact o
 refine ⟨⟨by simpa using b3.set_ 0 v', oo.far (p := ⟨g, 0, none⟩) (oo.ne_blk b3 (by decide)) v', o2.far (p := ⟨g, 0, none⟩) h.n2 v'⟩, ⟨(k.more (fun i _ hs => .inr (.inl hs))).setCell (p := ⟨g, 0, none⟩) (fun _ => .inl rfl) v', fun i hi => ?_⟩⟩
 rcases hi with rfl | hi | hi
 ·exact .inl (.inl rfl)
 ·rcases n i hi with h1 | h1
  ·exact .inl (.inr (.inl h1))
  ·exact .inr h1
 ·exact .inl (.inr (.inr hi))
theorem RQ2.appS (h : RQ2 w g v1 v2 L S) (o : OwnS w3 4 1 v' (S.length + 1) (bools S ++ bools [y])) (k : Keep (fun k => v2.ownBlock = some k) w w3) (n : ∀ i, v'.ownBlock = some i → v2.ownBlock = some i ∨ w.heap.size ≤ i) :
  RQ2 (w3.setCell ⟨g, 1, none⟩ v') g v1 v' L (S ++ [y]) ∧ RTurn w (w3.setCell ⟨g, 1, none⟩ v') g v1 v2 v1 v' := by
 have b3 := h.blk.keep k (fun hs => h.n2 hs)
 have o1 := h.o1.kept k (fun i hi hs => h.o1.ne_own h.o2 (by decide) i hi hs)
 have oo : OwnS w3 4 1 v' (S ++ [y]).length (bools (S ++ [y])) := by rw [List.length_append, bools_append]; exact o
 refine ⟨⟨by simpa using b3.set_ 1 v', o1.far (p := ⟨g, 1, none⟩) h.n1 v', oo.far (p := ⟨g, 1, none⟩) (oo.ne_blk b3 (by decide)) v'⟩, ⟨(k.more (fun i _ hs => .inr (.inr hs))).setCell (p := ⟨g, 1, none⟩) (fun _ => .inl rfl) v', fun i hi => ?_⟩⟩
 rcases hi with rfl | hi | hi
 ·exact .inl (.inl rfl)
 ·exact .inl (.inr (.inl hi))
 ·rcases n i hi with h1 | h1
  ·exact .inl (.inr (.inr h1))
  ·exact .inr h1
end
structure S4 (w : World) (g : Nat) (v1 v2 : Value) (s : List Ev) (vs : Value) (L S : List Rec) (M : List OMsg) (x1 x2 vo : Value) (W : World) : Prop where
 q : RQ2 W g x1 x2 L S
 t : RTurn w W g v1 v2 x1 x2
 o : OwnS W 43 8 vo M.length (rcells M)
 no : ∀ k, vo.ownBlock = some k → w.heap.size ≤ k
 s : OwnS W 41 7 vs s.length (cells s)
 ns : ∀ k, vs.ownBlock = some k → x1.ownBlock ≠ some k
section
variable {w W w3 W' : World} {g : Nat} {v1 v2 vs x1 x2 vo v' : Value} {s : List Ev} {L S R : List Rec} {M : List OMsg} {y : Rec}
theorem S4.fresh (h : S4 w g v1 v2 s vs L S M x1 x2 vo W) (f : Fresh W W') : S4 w g v1 v2 s vs L S M x1 x2 vo W' :=
 ⟨h.q.fresh f, h.t.two (RTurn.fresh f), h.o.fresh f, h.no, h.s.fresh f, h.ns⟩
theorem S4.appL (h : S4 w g v1 v2 s vs L S M x1 x2 vo W) (o : OwnS w3 41 7 v' (L.length + 1) (cells (evs L) ++ cells [y.1])) (k : Keep (fun k => x1.ownBlock = some k) W w3) (n : ∀ i, v'.ownBlock = some i → x1.ownBlock = some i ∨ W.heap.size ≤ i) :
  S4 w g v1 v2 s vs (L ++ [y]) S M v' x2 vo (w3.setCell ⟨g, 0, none⟩ v') := by
 obtain ⟨q, t⟩ := h.q.appL o k n
 have b3 := h.q.blk.keep k (fun hs => h.q.n1 hs)
 have oo := h.o.kept k (fun i hi hs => h.q.o1.ne_own h.o (by decide) i hs hi)
 have os := h.s.kept k (fun i hi hs => h.ns i hi hs)
 refine ⟨q, h.t.two t, oo.far (p := ⟨g, 0, none⟩) (oo.ne_blk b3 (by decide)) v', h.no, os.far (p := ⟨g, 0, none⟩) (os.ne_blk b3 (by decide)) v', fun i hi hv => ?_⟩
 rcases n i hv with h1 | h1
 ·exact h.ns i hi h1
 ·have := h.s.lt hi; omega
theorem S4.appS (h : S4 w g v1 v2 s vs L S M x1 x2 vo W) (o : OwnS w3 4 1 v' (S.length + 1) (bools S ++ bools [y])) (k : Keep (fun k => x2.ownBlock = some k) W w3) (n : ∀ i, v'.ownBlock = some i → x2.ownBlock = some i ∨ W.heap.size ≤ i) :
  S4 w g v1 v2 s vs L (S ++ [y]) M x1 v' vo (w3.setCell ⟨g, 1, none⟩ v') := by
 obtain ⟨q, t⟩ := h.q.appS o k n
 have b3 := h.q.blk.keep k (fun hs => h.q.n2 hs)
 have oo := h.o.kept k (fun i hi hs => h.q.o2.ne_own h.o (by decide) i hs hi)
 have os := h.s.kept k (fun i hi hs => h.q.o2.ne_own h.s (by decide) i hs hi)
 exact ⟨q, h.t.two t, oo.far (p := ⟨g, 1, none⟩) (oo.ne_blk b3 (by decide)) v', h.no, os.far (p := ⟨g, 1, none⟩) (os.ne_blk b3 (by decide)) v', h.ns⟩
theorem S4.appM (h : S4 w g v1 v2 s vs L S M x1 x2 vo W) {m : OMsg} (o : OwnS w3 43 8 v' (M.length + 1) (rcells (M ++ [m]))) (k : Keep (fun k => vo.ownBlock = some k) W w3) (n : ∀ i, v'.ownBlock = some i → vo.ownBlock = some i ∨ W.heap.size ≤ i) :
  S4 w g v1 v2 s vs L S (M ++ [m]) x1 x2 v' w3 := by
 have q := h.q.kept k (fun i hi hs => by
  rcases hi with rfl | hi | hi
  ·exact h.o.ne_blk h.q.blk (by decide) hs
  ·exact h.o.ne_own h.q.o1 (by decide) i hs hi
  ·exact h.o.ne_own h.q.o2 (by decide) i hs hi)
 have hsz := h.t.keep.size
 refine ⟨q, ⟨h.t.keep.step k (fun i hi hs => by have := h.no i hs; omega), h.t.later⟩, by rw [List.length_append]; exact o, fun i hi => ?_, h.s.kept k (fun i hi hs => h.o.ne_own h.s (by decide) i hs hi), h.ns⟩
 rcases n i hi with h1 | h1
 ·exact h.no i h1
 ·omega
end
end Go.Proofs.YthbcdkeammhakaaGreat
namespace Go.Proofs.YthbcdkeammhakaaGreat
open Go.RowKit
theorem srtS_ext : ∀ {p q : List Ev}, p.Pairwise (fun x y => sLt x y = true) → q.Pairwise (fun x y => sLt x y = true) → (∀ r, r ∈ p ↔ r ∈ q) → p = q
 | [], [], _, _, _ => rfl
 | [], b :: q, _, _, h => by have := (h b).2 (by simp); cases this
 | a :: p, [], _, _, h => by have := (h a).1 (by simp); cases this
 | a :: p, b :: q, hp, hq, h => by
  obtain ⟨p1, p2⟩ := List.pairwise_cons.1 hp
  obtain ⟨q1, q2⟩ := List.pairwise_cons.1 hq
  have hab : a = b := by
   rcases List.mem_cons.1 ((h a).1 (by simp)) with h1 | h1
   ·exact h1
   ·rcases List.mem_cons.1 ((h b).2 (by simp)) with h2 | h2
    ·exact h2.symm
    ·have h3 := p1 b h2
     have h4 := q1 a h1
     rw [sLt_asymm h3] at h4
     cases h4
  subst hab
  rw [srtS_ext p2 q2 (fun r => ?_)]
  constructor
  ·intro hr
   rcases List.mem_cons.1 ((h r).1 (by simp [hr])) with h1 | h1
   ·subst h1
    have := p1 r hr
    rw [sLt_irrefl] at this
    cases this
   ·exact h1
  ·intro hr
   rcases List.mem_cons.1 ((h r).2 (by simp [hr])) with h1 | h1
   ·subst h1
    have := q1 r hr
    rw [sLt_irrefl] at this
    cases this
   ·exact h1
theorem srtS_strict : ∀ {l : List Ev}, SrtS l → l.Nodup → l.Pairwise (fun p q => sLt p q = true)
 | [], _, _ => List.Pairwise.nil
 | a :: r, h, hn => by
  obtain ⟨h1, h2⟩ := List.pairwise_cons.1 h
  obtain ⟨n1, n2⟩ := List.nodup_cons.1 hn
  refine List.pairwise_cons.2 ⟨fun p hp => ?_, srtS_strict h2 n2⟩
  cases hq : sLt a p
  ·have := sLt_total hq (h1 p hp)
   subst this
   exact absurd hp n1
  ·rfl
theorem omem_evs {l : List Rec} {e : Ev} : e ∈ evs l ↔ ∃ b, (e, b) ∈ l := by
 unfold evs
 rw [List.mem_map]
 constructor
 ·rintro ⟨⟨x, b⟩, h, rfl⟩
  exact ⟨b, h⟩
 ·rintro ⟨b, h⟩
  exact ⟨(e, b), h, rfl⟩
structure Sm (R Q : List Rec) : Prop where
 nd : (evs R).Nodup
 st : RSrt Q
 mem : ∀ r, r ∈ R ↔ r ∈ Q
section
variable {R Q : List Rec}
theorem Sm.evs_mem (h : Sm R Q) (e : Ev) : e ∈ evs R ↔ e ∈ evs Q := by
 rw [omem_evs, omem_evs]
 constructor
 ·rintro ⟨b, hb⟩; exact ⟨b, (h.mem _).1 hb⟩
 ·rintro ⟨b, hb⟩; exact ⟨b, (h.mem _).2 hb⟩
theorem evs_strict (h : RSrt Q) : (evs Q).Pairwise (fun p q => sLt p q = true) := by
 unfold evs
 rw [List.pairwise_map]
 exact h
theorem Sm.sort (h : Sm R Q) : ssort (evs R) = evs Q := by
 refine srtS_ext (srtS_strict (ssort_srt _) ((ssort_perm _).nodup_iff.2 h.nd)) (evs_strict h.st) (fun e => ?_)
 rw [(ssort_perm _).mem_iff]
 exact h.evs_mem e
theorem Sm.len (h : Sm R Q) : R.length = Q.length := by
 have := congrArg List.length h.sort
 rw [(ssort_perm _).length_eq, evs_len, evs_len] at this
 exact this
theorem Sm.nil : Sm [] [] := ⟨List.nodup_nil, List.Pairwise.nil, fun _ => Iff.rfl⟩
theorem Sm.filter (h : Sm R Q) (p : Rec → Bool) : Sm (R.filter p) (Q.filter p) :=
 ⟨List.Nodup.sublist (List.Sublist.map _ List.filter_sublist) h.nd, List.Pairwise.sublist List.filter_sublist h.st, fun r => by rw [List.mem_filter, List.mem_filter, h.mem]⟩
theorem Sm.doubt (h : Sm R Q) (a : Int) : Sm (doubt a R) (doubt a Q) := by
 refine ⟨by rw [evs_doubt]; exact h.nd, h.st.doubt a, fun r => ?_⟩
 unfold Go.Proofs.YthbcdkeammhakaaGreat.doubt
 rw [List.mem_map, List.mem_map]
 constructor
 ·rintro ⟨x, hx, rfl⟩; exact ⟨x, (h.mem x).1 hx, rfl⟩
 ·rintro ⟨x, hx, rfl⟩; exact ⟨x, (h.mem x).2 hx, rfl⟩
theorem any_mem {p : Rec → Bool} (h : Sm R Q) : R.any p = Q.any p := by
 rw [Bool.eq_iff_iff, List.any_eq_true, List.any_eq_true]
 constructor
 ·rintro ⟨x, hx, hp⟩; exact ⟨x, (h.mem x).1 hx, hp⟩
 ·rintro ⟨x, hx, hp⟩; exact ⟨x, (h.mem x).2 hx, hp⟩
theorem Sm.wrong (h : Sm R Q) (a : Int) (l : List Ev) : wrongE a l R = wrongE a l Q := by
 unfold wrongE
 rw [any_mem h]
theorem Sm.has (h : Sm R Q) (e : Ev) : e ∈ evs R ↔ rhas Q e = true := by
 rw [omem_evs, rhas_mem h.st]
 constructor
 ·rintro ⟨b, hb⟩; exact ⟨b, (h.mem _).1 hb⟩
 ·rintro ⟨b, hb⟩; exact ⟨b, (h.mem _).2 hb⟩
end
theorem lt_le (a t : Int) : decide (t < a) = !decide (a ≤ t) := by
 by_cases h : a ≤ t
 ·rw [decide_eq_true h, decide_eq_false (by omega)]
  rfl
 ·rw [decide_eq_false h, decide_eq_true (by omega)]
  rfl
theorem away_0 (a : Int) (r : Rec) : awayP 0 a r = !backP a r := by
 unfold awayP backP
 rw [if_pos rfl, lt_le]
theorem away_1 (a : Int) (r : Rec) : awayP 1 a r = !flushP a r := by
 unfold awayP flushP
 rw [if_neg (by decide), lt_le, decide_eq_false (show ¬ (1 : Int) = 2 by decide)]
 cases r.2 <;> cases decide (a ≤ r.1.t) <;> rfl
theorem away_2 (a : Int) (r : Rec) : awayP 2 a r = !dropP a r := by
 unfold awayP dropP
 rw [if_neg (by decide), lt_le, decide_eq_true (show (2 : Int) = 2 from rfl)]
 cases r.2 <;> cases decide (a ≤ r.1.t) <;> rfl
theorem Sm.keep {R Q : List Rec} (h : Sm R Q) {p P : Rec → Bool} (hp : ∀ r, p r = !P r) : Sm (keepR p R) (stay P Q) := by
 have e : p = fun r => !P r := funext hp
 subst e
 exact h.filter _
theorem isNot_iff (x : Ev) (r : Rec) : isNot x r = true ↔ r.1 ≠ x := by
 unfold isNot
 rw [Bool.not_eq_true', ← Bool.not_eq_true, evB_iff]
theorem Sm.ret_has {R Q : List Rec} (h : Sm R Q) (x : Ev) : decide (0 < (goneR (isNot x) R).length) = rhas Q x := by
 rw [Bool.eq_iff_iff, decide_eq_true_eq, ← h.has, omem_evs, List.length_pos_iff_exists_mem]
 unfold goneR
 constructor
 ·rintro ⟨⟨y, b⟩, hy⟩
  rw [List.mem_filter] at hy
  have h2 : ¬ isNot x (y, b) = true := by simpa using hy.2
  rw [isNot_iff] at h2
  have : y = x := Classical.not_not.1 h2
  subst this
  exact ⟨b, hy.1⟩
 ·rintro ⟨b, hb⟩
  refine ⟨(x, b), List.mem_filter.2 ⟨hb, ?_⟩⟩
  have h2 : ¬ isNot x (x, b) = true := by rw [isNot_iff]; simp
  simpa using h2
theorem Sm.ret {R Q : List Rec} (h : Sm R Q) (x : Ev) : Sm (keepR (isNot x) R) (if rhas Q x then rrem Q x else Q) := by
 have hk := h.filter (isNot x)
 refine ⟨hk.nd, ?_, fun r => ?_⟩
 ·split
  ·exact h.st.rem_ x
  ·exact h.st
 ·unfold keepR
  rw [hk.mem, List.mem_filter, isNot_iff]
  obtain ⟨y, b⟩ := r
  split
  ·rename_i hh
   rw [rrem_mem h.st hh]
   exact And.comm
  ·rename_i hh
   constructor
   ·exact fun h1 => h1.1
   ·intro h1
    refine ⟨h1, fun he => hh ?_⟩
    simp only at he
    subst he
    exact (rhas_mem h.st y).2 ⟨b, h1⟩
theorem rstep_idx {st : List Rec × List OMsg} {x : Ev} {k : Nat} (h : atI (evs st.1) x = (k : Int)) (hm : x ∈ evs st.1) : rstep st x = (st.1.set k (x, true), st.2) := by
 have hlt : (evs st.1).findIdx (fun y => decide (y = x)) < (evs st.1).length := List.findIdx_lt_length_of_exists ⟨x, hm, by simp⟩
 unfold atI at h
 rw [if_pos hlt] at h
 have hk : (evs st.1).findIdx (fun y => decide (y = x)) = k := by omega
 unfold rstep
 rw [if_pos hm, hk]
theorem rstep_new {st : List Rec × List OMsg} {x : Ev} (hm : x ∉ evs st.1) : rstep st x = (st.1 ++ [(x, true)], st.2 ++ [(x, false)]) := by
 unfold rstep
 rw [if_neg hm]
theorem evs_set {l : List Rec} {k : Nat} {x : Ev} (b : Bool) (h : (evs l)[k]? = some x) : evs (l.set k (x, b)) = evs l := by
 unfold evs at h ⊢
 rw [List.map_set]
 apply List.ext_getElem?
 intro j
 rw [List.getElem?_set]
 split
 ·rename_i h1
  subst h1
  rw [if_pos (List.getElem?_eq_some_iff.1 h).1, h]
 ·rfl
theorem rstep_nd {st : List Rec × List OMsg} (h : (evs st.1).Nodup) (e : Ev) : (evs (rstep st e).1).Nodup := by
 by_cases hm : e ∈ evs st.1
 ·obtain ⟨k, hk, _, hk3, _⟩ := atI_mem hm
  rw [rstep_idx hk hm, evs_set true hk3]
  exact h
 ·rw [rstep_new hm, evs_append]
  exact List.nodup_append.2 ⟨h, by simp [evs], fun a ha b hb => by
   simp [evs] at hb
   subst hb
   rintro rfl
   exact hm ha⟩
theorem rstep_in {st : List Rec × List OMsg} (h : (evs st.1).Nodup) (e x : Ev) (b : Bool) : (x, b) ∈ (rstep st e).1 ↔ (x = e ∧ b = true) ∨ (x ≠ e ∧ (x, b) ∈ st.1) := by
 by_cases hm : e ∈ evs st.1
 ·obtain ⟨k, hk, hk2, hk3, _⟩ := atI_mem hm
  rw [rstep_idx hk hm]
  rw [evs_len] at hk2
  simp only
  have key : ∀ j y c, st.1[j]? = some (y, c) → (y = e ↔ j = k) := fun j y c hj => by
   have hj' := evs_at' hj
   constructor
   ·rintro rfl
    obtain ⟨h1, h2⟩ := List.getElem?_eq_some_iff.1 hj'
    obtain ⟨h3, h4⟩ := List.getElem?_eq_some_iff.1 hk3
    rcases Nat.lt_trichotomy j k with h5 | h5 | h5
    ·exact absurd (h2.trans h4.symm) (List.pairwise_iff_getElem.1 h j k h1 h3 h5)
    ·exact h5
    ·exact absurd (h4.trans h2.symm) (List.pairwise_iff_getElem.1 h k j h3 h1 h5)
   ·rintro rfl
    rw [hk3] at hj'
    injection hj' with hj'
    exact hj'.symm
  constructor
  ·intro hx
   obtain ⟨j, hj⟩ := List.mem_iff_getElem?.1 hx
   rw [List.getElem?_set] at hj
   split at hj
   ·rename_i h1
    subst h1
    injection hj with hj
    injection hj with h2 h3
    exact .inl ⟨h2.symm, h3.symm⟩
   ·rename_i h1
    exact .inr ⟨fun he => h1 ((key j x b hj).1 he).symm, List.mem_of_getElem? hj⟩
  ·rintro (⟨rfl, rfl⟩ | ⟨h1, h2⟩)
   ·exact List.mem_iff_getElem?.2 ⟨k, by rw [List.getElem?_set, if_pos rfl, if_pos hk2]⟩
   ·obtain ⟨j, hj⟩ := List.mem_iff_getElem?.1 h2
    refine List.mem_iff_getElem?.2 ⟨j, ?_⟩
    rw [List.getElem?_set, if_neg]
    ·exact hj
    ·intro h3
     exact h1 ((key j x b hj).2 h3.symm)
 ·rw [rstep_new hm]
  simp only [List.mem_append, List.mem_singleton, Prod.mk.injEq]
  constructor
  ·rintro (h1 | h1)
   ·exact .inr ⟨fun he => hm (omem_evs.2 ⟨b, he ▸ h1⟩), h1⟩
   ·exact .inl h1
  ·rintro (h1 | ⟨_, h1⟩)
   ·exact .inr h1
   ·exact .inl h1
theorem rsteps_nd (s : List Ev) : ∀ {st : List Rec × List OMsg}, (evs st.1).Nodup → (evs (s.foldl rstep st).1).Nodup := by
 induction s with
 | nil => intro st h; exact h
 | cons e r ih => intro st h; exact ih (rstep_nd h e)
theorem rsteps_in (s : List Ev) : ∀ {st : List Rec × List OMsg}, (evs st.1).Nodup → ∀ (x : Ev) (b : Bool), (x, b) ∈ (s.foldl rstep st).1 ↔ (x ∈ s ∧ b = true) ∨ (x ∉ s ∧ (x, b) ∈ st.1) := by
 induction s with
 | nil => intro st _ x b; simp
 | cons e r ih =>
  intro st h x b
  rw [List.foldl_cons, ih (rstep_nd h e), rstep_in h]
  by_cases hxe : x = e
  ·subst hxe
   by_cases hr : x ∈ r <;> simp [hr]
  ·by_cases hr : x ∈ r <;> simp [hr, hxe]
theorem rstep_evs {st : List Rec × List OMsg} {e x : Ev} (hne : x ≠ e) : x ∈ evs (rstep st e).1 ↔ x ∈ evs st.1 := by
 by_cases hm : e ∈ evs st.1
 ·obtain ⟨k, hk, _, hk3, _⟩ := atI_mem hm
  rw [rstep_idx hk hm, evs_set true hk3]
 ·rw [rstep_new hm, evs_append, List.mem_append]
  simp [evs, hne]
theorem rsteps_msgs (s : List Ev) : ∀ {st : List Rec × List OMsg}, s.Nodup → (s.foldl rstep st).2 = st.2 ++ (s.filter (fun e => !decide (e ∈ evs st.1))).map (fun e => (e, false)) := by
 induction s with
 | nil => intro st _; simp
 | cons e r ih =>
  intro st hn
  obtain ⟨hn1, hn2⟩ := List.nodup_cons.1 hn
  rw [List.foldl_cons, ih hn2]
  have e1 : r.filter (fun x => !decide (x ∈ evs (rstep st e).1)) = r.filter (fun x => !decide (x ∈ evs st.1)) := by
   apply List.filter_congr
   intro x hx
   have := rstep_evs (st := st) (fun (he : x = e) => hn1 (he ▸ hx))
   rw [decide_eq_decide.2 this]
  rw [e1]
  by_cases hm : e ∈ evs st.1
  ·obtain ⟨k, hk, _⟩ := atI_mem hm
   rw [rstep_idx hk hm]
   simp [hm]
  ·rw [rstep_new hm]
   simp [hm]
theorem rsent_stay {a : Int} {l : List Ev} {Q : List Rec} (hz : wrongE a l Q = 0) (r : Rec) (hr : r ∈ Q) : rsentP a l r = !sentP a (esort l) r := by
 have h1 := sentP_iff a l r
 have h2 := (wrong_zero.1 hz).2.2 r hr
 have e : rsentP a l r = true ↔ ¬ sentP a (esort l) r = true := by
  rw [h1]
  unfold rsentP
  simp only [Bool.or_eq_true, Bool.and_eq_true, decide_eq_true_eq]
  constructor
  ·rintro (h3 | h3 | ⟨h3, h4⟩)
   ·rintro (⟨h5, _⟩ | ⟨_, h6⟩)
    ·have := h2 h3; omega
    ·rw [h3] at h6; cases h6
   ·rintro (⟨h5, _⟩ | ⟨h5, _⟩) <;> omega
   ·rintro (⟨_, h5⟩ | ⟨h5, _⟩)
    ·exact h5 h4
    ·omega
  ·intro h3
   by_cases h4 : r.2 = true
   ·exact .inl h4
   ·have h4 : r.2 = false := by simpa using h4
    by_cases h5 : a < r.1.t
    ·exact .inr (.inl h5)
    ·by_cases h6 : r.1.t = a
     ·refine .inr (.inr ⟨h6, ?_⟩)
      exact Classical.byContradiction fun h7 => h3 (.inl ⟨h6, h7⟩)
     ·exact absurd (.inr ⟨by omega, h4⟩) h3
 cases h3 : rsentP a l r <;> cases h4 : sentP a (esort l) r <;> simp_all
theorem Sm.keep_on {R Q : List Rec} (h : Sm R Q) {p P : Rec → Bool} (hp : ∀ r ∈ Q, p r = !P r) : Sm (keepR p R) (stay P Q) := by
 have := h.filter p
 refine ⟨this.nd, h.st.stay P, fun r => ?_⟩
 unfold keepR stay
 rw [this.mem, List.mem_filter, List.mem_filter]
 constructor
 ·rintro ⟨h1, h2⟩; exact ⟨h1, by rw [← hp r h1]; exact h2⟩
 ·rintro ⟨h1, h2⟩; exact ⟨h1, by rw [hp r h1]; exact h2⟩
theorem Sm.gone_on {R Q : List Rec} (h : Sm R Q) {p P : Rec → Bool} (hp : ∀ r ∈ Q, p r = !P r) : (ssort (evs (goneR p R))).map (fun e => (e, true)) = antis P Q := by
 have e : goneR p R = R.filter P := by
  unfold goneR
  apply List.filter_congr
  intro r hr
  rw [hp r ((h.mem r).1 hr), Bool.not_not]
 rw [e, (h.filter P).sort, antis_is]
 rfl
theorem Sm.sent {R Q : List Rec} (h : Sm R Q) (a : Int) (l : List Ev) : Sm (rsentQ a l R) (sentQ a l Q) ∧ rsentM a l R = sentM a l Q := by
 unfold rsentQ rsentM
 rw [h.wrong]
 by_cases hz : wrongE a l Q = 0
 ·rw [if_pos hz, if_pos hz]
  have hk := h.keep_on (rsent_stay hz)
  have hg := h.gone_on (rsent_stay hz)
  constructor
  ·refine ⟨rsteps_nd _ hk.nd, sentQ_srt h.st, fun r => ?_⟩
   obtain ⟨x, b⟩ := r
   unfold rsentFrom
   rw [rsteps_in _ hk.nd]
   unfold sentQ sentFrom
   rw [if_pos hz, steps_mem _ hk.st]
   unfold rsent0
   simp only
   rw [hk.mem]
  ·unfold rsentFrom
   rw [rsteps_msgs _ ((esort_perm l).nodup_iff.2 (wrong_zero.1 hz).2.1), sentM_is h.st hz]
   unfold rsent0
   simp only
   rw [hg]
   congr 2
   apply List.filter_congr
   intro e _
   have := hk.has e
   cases h1 : rhas (stay (sentP a (esort l)) Q) e
   ·rw [h1] at this
    have : e ∉ evs (keepR (rsentP a l) R) := fun hm => by have := this.1 hm; cases this
    simp [this]
   ·have := this.2 h1
    simp [this]
 ·rw [if_neg hz, if_neg hz, sentQ_bad hz, sentM_bad hz]
  exact ⟨h, rfl⟩
end Go.Proofs.YthbcdkeammhakaaGreat
namespace Go.Proofs.YthbcdkeammhakaaGreat
open Go.RowKit
attribute [local go_sem ↓] Go.wp_at_zero Go.wp_at_succ
theorem wrong_1 {a : Int} {l : List Ev} {R : List Rec} {i : Nat} {x : Ev} (h : l[i]? = some x) (ha : x.t ≠ a) : wrongE a l R = 1 := by
 unfold wrongE
 rw [if_pos]
 rw [List.any_eq_true]
 exact ⟨x, List.mem_of_getElem? h, by simpa using ha⟩
theorem wrong_any0 {a : Int} {l : List Ev} (h : ∀ (j : Nat) (y : Ev), l[j]? = some y → y.t = a) : ¬ l.any (fun e => e.t != a) = true := by
 rw [List.any_eq_true]
 rintro ⟨e, he, hx⟩
 obtain ⟨j, hj⟩ := List.mem_iff_getElem?.1 he
 simp [h j e hj] at hx
theorem wrong_13 {a : Int} {l : List Ev} {R : List Rec} {i : Nat} {x : Ev} (h : ∀ (j : Nat) (y : Ev), l[j]? = some y → y.t = a) (hi : l[i]? = some x) (hm : x ∈ l.take i) : wrongE a l R = 13 := by
 unfold wrongE
 rw [if_neg (wrong_any0 h), if_neg]
 intro hn
 obtain ⟨j, hj⟩ := List.mem_iff_getElem?.1 hm
 rw [List.getElem?_take] at hj
 split at hj
 ·obtain ⟨h1, h2⟩ := List.getElem?_eq_some_iff.1 hj
  obtain ⟨h3, h4⟩ := List.getElem?_eq_some_iff.1 hi
  exact absurd (h2.trans h4.symm) (List.pairwise_iff_getElem.1 hn j i h1 h3 ‹_›)
 ·cases hj
theorem onodup_of {l : List Ev} (h : ∀ (j : Nat) (y : Ev), l[j]? = some y → y ∉ l.take j) : l.Nodup := by
 unfold List.Nodup
 rw [List.pairwise_iff_getElem]
 intro i j hi hj hij he
 refine h j l[j] (List.getElem?_eq_getElem hj) ?_
 rw [← he]
 exact List.mem_iff_getElem?.2 ⟨i, by rw [List.getElem?_take, if_pos hij, List.getElem?_eq_getElem hi]⟩
theorem wrong_19 {a : Int} {l : List Ev} {R : List Rec} {i : Nat} {y : Rec} (h : ∀ (j : Nat) (y : Ev), l[j]? = some y → y.t = a) (hn : l.Nodup) (hi : R[i]? = some y) (h1 : y.2 = true) (h2 : a ≤ y.1.t) : wrongE a l R = 19 := by
 unfold wrongE
 rw [if_neg (wrong_any0 h), if_pos hn, if_pos]
 rw [List.any_eq_true]
 exact ⟨y, List.mem_of_getElem? hi, by simp [h1, h2]⟩
theorem wrong_0 {a : Int} {l : List Ev} {R : List Rec} (h : ∀ (j : Nat) (y : Ev), l[j]? = some y → y.t = a) (hn : l.Nodup) (hs : ∀ (j : Nat) (y : Rec), R[j]? = some y → y.2 = true → y.1.t < a) : wrongE a l R = 0 := by
 rw [wrong_zero]
 refine ⟨fun e he => ?_, hn, fun r hr h1 => ?_⟩
 ·obtain ⟨j, hj⟩ := List.mem_iff_getElem?.1 he
  exact h j e hj
 ·obtain ⟨j, hj⟩ := List.mem_iff_getElem?.1 hr
  exact hs j r hj h1
theorem S4.mark {w W : World} {g g4 off4 c : Nat} {v1 v2 vs x1 vo : Value} {s : List Ev} {R : List Rec} {M : List OMsg} {i : Nat} {y : Rec} (h : S4 w g v1 v2 s vs R R M x1 (.slice (some ⟨g4, off4, none⟩) R.length c) vo W) (hy : R[i]? = some y) :
  S4 w g v1 v2 s vs (R.set i (y.1, true)) (R.set i (y.1, true)) M x1 (.slice (some ⟨g4, off4, none⟩) R.length c) vo (W.setCell ⟨g4, off4 + i, none⟩ (.bool true)) := by
 refine ⟨RQ2.of (h.q.is.mark hy true), h.t.two ⟨(Keep.refl _ W).setCell (p := ⟨g4, off4 + i, none⟩) (fun _ => .inr (.inr rfl)) _, fun _ h => .inl h⟩, h.o.far (p := ⟨g4, off4 + i, none⟩) (h.q.o2.ne_own h.o (by decide) g4 rfl) _, h.no, h.s.far (p := ⟨g4, off4 + i, none⟩) (h.q.o2.ne_own h.s (by decide) g4 rfl) _, h.ns⟩
theorem EvAt.kept_g {w w' : World} {u v1 v2 : Value} {l : List Ev} {g : Nat} {t : TypeId} (h : EvAt w u l) (hb : Blk w g t #[v1, v2]) (k : Keep (fun k => k = g) w w') (h1 : ∀ (κ : IntKind) (z : Int), v1 ≠ .int κ z) (h2 : ∀ (κ : IntKind) (z : Int), v2 ≠ .int κ z) : EvAt w' u l := by
 obtain ⟨A, c, rfl, h⟩ := h
 refine ⟨A, c, rfl, fun i x hx => ?_⟩
 obtain ⟨b, off, e, lt, hh⟩ := h i x hx
 have hne : b ≠ g := by
  rintro rfl
  have h0 := hh 0 (.int .i64 x.a) rfl
  rw [hb.cell] at h0
  generalize off + i * 7 + 0 = j at h0
  match j with
  | 0 => simp at h0; exact h1 _ _ h0
  | 1 => simp at h0; exact h2 _ _ h0
  | j + 2 => simp at h0
 exact ⟨b, off, e, Nat.lt_of_lt_of_le lt k.size, fun j u hu => (k.cell (p := ⟨b, off + i * 7 + j, none⟩) lt hne).trans (hh j u hu)⟩
theorem S4.ev {w W : World} {g g3 off3 n c7 i : Nat} {v1 v2 x1 x2 vo : Value} {s : List Ev} {L S : List Rec} {M : List OMsg} {x : Ev} (h : S4 w g v1 v2 s (.slice (some ⟨g3, off3, none⟩) n c7) L S M x1 x2 vo W) (hx : s[i]? = some x) :
  g3 < W.heap.size ∧ W.cell? ⟨g3, off3 + i * 7, none⟩ = some (.int .i64 x.a) ∧ W.cell? ⟨g3, off3 + i * 7 + 1, none⟩ = some (.int .i64 x.s) ∧ W.cell? ⟨g3, off3 + i * 7 + 2, none⟩ = some (.int .i64 x.t) ∧ W.cell? ⟨g3, off3 + i * 7 + 3, none⟩ = some (.int .i64 x.n) ∧ W.cell? ⟨g3, off3 + i * 7 + 4, none⟩ = some (.int .i64 x.d) ∧ W.cell? ⟨g3, off3 + i * 7 + 5, none⟩ = some (.int .i64 x.k) ∧ W.cell? ⟨g3, off3 + i * 7 + 6, none⟩ = some (.int .i64 x.x) := by
 have hi := (List.getElem?_eq_some_iff.1 hx).1
 obtain ⟨g6, off6, _, hv6, hg6, _, _, hcf⟩ := h.s.form (by omega)
 injection hv6 with h1 h2 h3
 injection h1 with h1
 injection h1 with h4 h5 _
 subst h4 h5
 obtain ⟨q0, q1, q2, q3, q4, q5, q6⟩ := cells_at s i x hx
 have q0 := hcf _ _ q0
 have q1 := hcf _ _ q1
 have q2 := hcf _ _ q2
 have q3 := hcf _ _ q3
 have q4 := hcf _ _ q4
 have q5 := hcf _ _ q5
 have q6 := hcf _ _ q6
 rw [← Nat.add_assoc] at q1 q2 q3 q4 q5 q6
 exact ⟨hg6, q0, q1, q2, q3, q4, q5, q6⟩
def RSentP (g : Nat) (v1 v2 : Value) (a : Int) (l : List Ev) (R : List Rec) (w : World) (e : Ending) (w' : World) : Prop :=
 ∃ va v1' v2', e = .returned (.tuple #[va, .int .i64 (wrongE a l R)]) ∧ OwnS w' 43 8 va (rsentM a l R).length (rcells (rsentM a l R)) ∧ ORQ w' g v1' v2' (rsentQ a l R) ∧ RTurn w w' g v1 v2 v1' v2' ∧ ∀ k, va.ownBlock = some k → w.heap.size ≤ k
theorem RSentP.bad {g : Nat} {v1 v2 : Value} {a r : Int} {l : List Ev} {R : List Rec} {w w' : World} (hr : wrongE a l R = r) (h0 : r ≠ 0) (h : ORQ w g v1 v2 R) (f : Fresh w w') : RSentP g v1 v2 a l R w (.returned (.tuple #[.slice none 0 0, .int .i64 r])) w' := by
 subst hr
 refine ⟨_, v1, v2, rfl, ?_, ?_, RTurn.fresh f, by simp [Value.ownBlock]⟩
 ·unfold rsentM
  rw [if_neg h0]
  exact OwnS.nil _ _ _
 ·unfold rsentQ
  rw [if_neg h0]
  exact h.fresh f
theorem rsent_any (g : Nat) (v1 v2 : Value) (a : Int) (u : Value) (l : List Ev) (R : List Rec) (w : World) (h : ORQ w g v1 v2 R) (hu : EvAt w u l) (hcu : ∀ A c, u = .slice A l.length c → l.length ≤ c) (hll : l.length ≤ 1000) (hl : R.length ≤ 50000) :
  Calls Tryz.prog 119 #[.pointer (some ⟨g, 0, none⟩), .int .i64 a, u] w (RSentP g v1 v2 a l R w) := by
 have HU := Lib.hid hu
 obtain ⟨A, c, rfl, hv⟩ := hu
 have HCP := Lib.hid (hcu A c rfl)
 have HV := Lib.hid hv
 have H := Lib.hid h
 obtain ⟨A1, c1, rfl, hc1, hm1⟩ := h.o1.shape
 obtain ⟨A2, c2, rfl, hc2, hm2⟩ := h.o2.shape
 have hm1 : c1 ≤ 9223372036854775807 := by unfold maxLen at hm1; omega
 have hmk := make_bools R.length (by omega)
 clear h hv hcu
 go_enter Tryz.func119, Tryz.ntmps119
 go_wp2_with fail
 go_loopg [8] l.length (fun gk u8 wr => ∃ (i : Nat), i ≤ l.length ∧ gk = l.length - i ∧ u8 = .int .i64 i ∧ Fresh w wr ∧ Hid (∀ (j : Nat) (y : Ev), j < i → l[j]? = some y → y.t = a))
 case atStart => exact ⟨0, by omega, rfl, rfl, Keep.refl _ _, Lib.hid (fun j y h => absurd h (by omega))⟩
 case round =>
  obtain ⟨i, hi', rfl, rfl, hF, HT⟩ := hrel
  have HF := Lib.hid hF
  clear hF
  by_cases hlt : i < l.length
  ·obtain ⟨x, hx⟩ : ∃ x, l[i]? = some x := ⟨_, List.getElem?_eq_getElem hlt⟩
   obtain ⟨b0, off, rfl, lt0, hO⟩ := HV.out i x hx
   have x2 := HF.out.cell_ (hO 2 (.int .i64 x.t) rfl)
   have HX := Lib.hid hx
   clear hO hx
   by_cases ht : x.t = a
   ·have tt : (x.t != a) = false := by simp [ht]
    have HT2 : Hid (∀ (j : Nat) (y : Ev), j < i + 1 → l[j]? = some y → y.t = a) := Lib.hid (fun j y hj hy => by
     by_cases hji : j = i
     ·subst hji
      rw [HX.out] at hy
      injection hy with hy
      rw [← hy]
      exact ht
     ·exact HT.out j y (by omega) hy)
    clear ht
    go_wp2_with fail
    go_roundg (l.length - (i + 1))
    case measure => omega
    case rel => exact ⟨i + 1, by omega, rfl, by go_num, HF.out, HT2⟩
   ·have tt : (x.t != a) = true := by simpa using ht
    have HW : Hid (wrongE a l R = 1) := Lib.hid (wrong_1 HX.out ht)
    clear ht
    go_wp2_with fail
    go_ret2
    exact RSentP.bad HW.out (by decide) H.out HF.out
  ·obtain rfl : i = l.length := by omega
   have HTA : Hid (∀ (j : Nat) (y : Ev), l[j]? = some y → y.t = a) := Lib.hid (fun j y hy => HT.out j y (List.getElem?_eq_some_iff.1 hy).1 hy)
   obtain ⟨wA, hwA⟩ : ∃ wA, wA = wr := ⟨_, rfl⟩
   subst hwA
   have FA := Lib.hid HF.out
   clear HT HF
   go_wp2_with fail
   go_loopg [9] l.length (fun gk u9 wr => ∃ (i : Nat), i ≤ l.length ∧ gk = l.length - i ∧ u9 = .int .i64 i ∧ Fresh w wr ∧ Hid (∀ (j : Nat) (y : Ev), j < i → l[j]? = some y → y ∉ l.take j))
   case atStart => exact ⟨0, by omega, rfl, rfl, FA.out, Lib.hid (fun j y h => absurd h (by omega))⟩
   case round =>
    obtain ⟨i, hi', rfl, rfl, hF, HT⟩ := hrel
    have HF := Lib.hid hF
    clear hF
    by_cases hlt : i < l.length
    ·obtain ⟨x, hx⟩ : ∃ x, l[i]? = some x := ⟨_, List.getElem?_eq_getElem hlt⟩
     obtain ⟨b0, off, rfl, lt0, hO⟩ := HV.out i x hx
     have HX := Lib.hid hx
     have EV : Hid (∀ W, Fresh w W → EvAt W (.slice (some ⟨b0, off, none⟩) i c) (l.take i)) := Lib.hid (fun W f => by
      have e1 : (l.take i).length = i := by rw [List.length_take]; omega
      refine ⟨some ⟨b0, off, none⟩, c, by rw [e1], fun j y hy => ?_⟩
      rw [List.getElem?_take] at hy
      split at hy
      ·obtain ⟨b, o, hA, hlt, hc⟩ := HV.out j y hy
       injection hA with hA
       injection hA with h1 h2 _
       subst h1 h2
       exact ⟨_, _, rfl, Nat.lt_of_lt_of_le hlt f.size, fun k u hu => f.cell_ (hc k u hu)⟩
      ·cases hy)
     have FW : Hid (∀ W, Fresh wr W → Fresh w W) := Lib.hid (fun W f => HF.out.step f (fun _ _ h => h))
     have HAT := Lib.hid (fun (W : World) (f : Fresh wr W) => at_any _ (l.take i) x W (EV.out W (FW.out W f)) (by rw [List.length_take]; omega))
     unfold Ev.val at HAT
     have d0 := fun (W : World) (f : Fresh wr W) => (FW.out W f).cell_ (hO 0 (.int .i64 x.a) rfl)
     have d1 := fun (W : World) (f : Fresh wr W) => (FW.out W f).cell_ (hO 1 (.int .i64 x.s) rfl)
     have d2 := fun (W : World) (f : Fresh wr W) => (FW.out W f).cell_ (hO 2 (.int .i64 x.t) rfl)
     have d3 := fun (W : World) (f : Fresh wr W) => (FW.out W f).cell_ (hO 3 (.int .i64 x.n) rfl)
     have d4 := fun (W : World) (f : Fresh wr W) => (FW.out W f).cell_ (hO 4 (.int .i64 x.d) rfl)
     have d5 := fun (W : World) (f : Fresh wr W) => (FW.out W f).cell_ (hO 5 (.int .i64 x.k) rfl)
     have d6 := fun (W : World) (f : Fresh wr W) => (FW.out W f).cell_ (hO 6 (.int .i64 x.x) rfl)
     simp only [Nat.add_zero] at d0
     have hic : (i : Int) ≤ (c : Int) := by have := HCP.out; omega
     by_cases hm : x ∈ l.take i
     ·have HW : Hid (wrongE a l R = 13) := Lib.hid (wrong_13 HTA.out HX.out hm)
      obtain ⟨k, hk, _⟩ := atI_mem hm
      rw [hk] at HAT
      have tk : decide ((0 : Int) ≤ (k : Int)) = true := decide_eq_true (by omega)
      clear hO hx hm hk
      go_wp2_with fail
      go_region_held3 (fun W' => Fresh wr W') (exact (fun (f : Fresh wr _) => f) (by (repeat (first | (with_reducible exact Keep.refl _ _) | (with_reducible assumption) | (with_reducible refine Keep.drew ?_) | (with_reducible refine Keep.drewN ?_ _) | (with_reducible refine Keep.alloc ?_ _) | (with_reducible refine Keep.setCell ?_ ?_ _) | (with_reducible refine fun _ => rfl))))) ((go_at_call 139; (with_reducible refine (HAT.out _ (by assumption)).mono ?_); rintro en1 w1 ⟨rfl, f1⟩; have f2 := Keep.step (S := fun _ => False) (by assumption : Fresh wr _) f1 (fun _ _ h => h)))
      clear d0 d1 d2 d3 d4 d5 d6
      go_wp2_with fail
      go_ret2
      exact RSentP.bad HW.out (by decide) H.out (FW.out _ f2)
     ·rw [atI_not hm] at HAT
      have HT2 : Hid (∀ (j : Nat) (y : Ev), j < i + 1 → l[j]? = some y → y ∉ l.take j) := Lib.hid (fun j y hj hy => by
       by_cases hji : j = i
       ·subst hji
        rw [HX.out] at hy
        injection hy with hy
        rw [← hy]
        exact hm
       ·exact HT.out j y (by omega) hy)
      clear hO hx hm
      go_wp2_with fail
      go_region_held3 (fun W' => Fresh wr W') (exact (fun (f : Fresh wr _) => f) (by (repeat (first | (with_reducible exact Keep.refl _ _) | (with_reducible assumption) | (with_reducible refine Keep.drew ?_) | (with_reducible refine Keep.drewN ?_ _) | (with_reducible refine Keep.alloc ?_ _) | (with_reducible refine Keep.setCell ?_ ?_ _) | (with_reducible refine fun _ => rfl))))) ((go_at_call 139; (with_reducible refine (HAT.out _ (by assumption)).mono ?_); rintro en1 w1 ⟨rfl, f1⟩; have f2 := Keep.step (S := fun _ => False) (by assumption : Fresh wr _) f1 (fun _ _ h => h)))
      clear d0 d1 d2 d3 d4 d5 d6
      go_wp2_with fail
      go_roundg (l.length - (i + 1))
      case measure => omega
      case rel => exact ⟨i + 1, by omega, rfl, by go_num, FW.out _ f2, HT2⟩
    ·obtain rfl : i = l.length := by omega
     have HN : Hid l.Nodup := Lib.hid (onodup_of (fun j y hy => HT.out j y (List.getElem?_eq_some_iff.1 hy).1 hy))
     obtain ⟨wB, hwB⟩ : ∃ wB, wB = wr := ⟨_, rfl⟩
     subst hwB
     have FB := Lib.hid HF.out
     have cq := (H.out.fresh FB.out).blk.cell
     have lq := (H.out.fresh FB.out).blk.lt
     clear HT HF
     go_wp2_with fail
     go_loopg [11] R.length (fun gk u11 wr => ∃ (i : Nat), i ≤ R.length ∧ gk = R.length - i ∧ u11 = .int .i64 i ∧ StI w (rsentP a l) R i wB.heap.size wr ∧ Hid (∀ (j : Nat) (y : Rec), j < i → R[j]? = some y → y.2 = true → y.1.t < a))
     case atStart => exact ⟨0, by omega, rfl, rfl, StI.new _ FB.out (by omega), Lib.hid (fun j y h => absurd h (by omega))⟩
     case round =>
      obtain ⟨i, hi', rfl, rfl, hI, HS⟩ := hrel
      have HI := Lib.hid hI
      have cQ := (H.out.fresh hI.f).blk.cell
      have lQ := (H.out.fresh hI.f).blk.lt
      clear hI cq lq
      by_cases hlt : i < R.length
      ·obtain ⟨y, hy⟩ : ∃ y, R[i]? = some y := ⟨_, List.getElem?_eq_getElem hlt⟩
       have HY := Lib.hid hy
       obtain ⟨g3, off3, _, hv3, hg3, _, _, hcc⟩ := (H.out.o1.fresh HI.out.f).form (by omega)
       injection hv3 with e1 e2 e3
       subst e1 e3
       obtain ⟨y0, y1, y2, y3, y4, y5, y6⟩ := cells_at (evs R) i y.1 (evs_at' hy)
       have y0 := hcc _ _ y0
       have y1 := hcc _ _ y1
       have y2 := hcc _ _ y2
       have y3 := hcc _ _ y3
       have y4 := hcc _ _ y4
       have y5 := hcc _ _ y5
       have y6 := hcc _ _ y6
       rw [← Nat.add_assoc] at y1 y2 y3 y4 y5 y6
       obtain ⟨g4, off4, _, hv4, hg4, _, _, hcb⟩ := (H.out.o2.fresh HI.out.f).form (by omega)
       injection hv4 with f1 f2 f3
       subst f1 f3
       have z0 := hcb _ _ (bools_at hy)
       obtain ⟨lS, fS, _, _, _⟩ := HI.out.o.at_
       obtain ⟨sv, hsv⟩ : ∃ v, (told (rsentP a l) R i)[i]? = some v := ⟨_, List.getElem?_eq_getElem (by rw [told_len]; exact hlt)⟩
       have cS := HI.out.o.at_.2.2.2.2 i sv hsv
       rw [Nat.zero_add] at cS
       have NX := Lib.hid (HI.out.set hy)
       clear hcc hcb e2 f2 hsv
       have NS : (y.2 = true → y.1.t < a) → Hid (∀ (j : Nat) (z : Rec), j < i + 1 → R[j]? = some z → z.2 = true → z.1.t < a) := fun hh => Lib.hid (fun j z hj hz h1 => by
        by_cases hji : j = i
        ·subst hji
         rw [HY.out] at hz
         injection hz with hz
         subst hz
         exact hh h1
        ·exact HS.out j z (by omega) hz h1)
       have NS := Lib.hid NS
       cases hb : y.2
       ·have NS2 := NS.out (fun h => by rw [hb] at h; cases h)
        rw [hb] at z0
        clear NS
        by_cases h1 : a < y.1.t
        ·have t1 : decide (a < y.1.t) = true := decide_eq_true h1
         have hp : rsentP a l y = true := by unfold rsentP; rw [hb, t1]; rfl
         rw [hp] at NX
         clear hy hb h1 hp
         go_wp2_with fail
         go_roundg (R.length - (i + 1))
         case measure => omega
         case rel => exact ⟨i + 1, by omega, rfl, by go_num, NX.out, NS2⟩
        ·have t1 : decide (a < y.1.t) = false := decide_eq_false h1
         by_cases h2 : y.1.t = a
         ·have t2 : (y.1.t == a) = true := by simpa using h2
          have HAT := Lib.hid (at_any _ l y.1 _ (HU.out.fresh HI.out.f) (by omega))
          unfold Ev.val at HAT
          have NXF := Lib.hid (fun (W : World) (f : Fresh wr W) => (HI.out.fresh f).set hy)
          have CS2 := Lib.hid (fun (W : World) (f : Fresh wr W) => And.intro (f.cell_ cS) (And.intro (Nat.lt_of_lt_of_le lS f.size) ((HI.out.fresh f).o.at_.2.1)))
          by_cases hm : y.1 ∈ l
          ·obtain ⟨k, hk, _⟩ := atI_mem hm
           rw [hk] at HAT
           have tk : decide ((0 : Int) ≤ (k : Int)) = true := decide_eq_true (by omega)
           have hp : rsentP a l y = true := by unfold rsentP; rw [hb, t1, decide_eq_true h2, decide_eq_true hm]; rfl
           rw [hp] at NXF
           clear hy hb h1 h2 hm hp hk NX
           go_wp2_with (go_at_call 139; (with_reducible refine HAT.out.mono ?_); rintro e w5 ⟨rfl, f5⟩; have F5 := Lib.hid f5; have cs5 := (CS2.out _ f5).1; have ls5 := (CS2.out _ f5).2.1; have fs5 := (CS2.out _ f5).2.2; clear f5)
           go_roundg (R.length - (i + 1))
           case measure => omega
           case rel => exact ⟨i + 1, by omega, rfl, by go_num, NXF.out _ F5.out, NS2⟩
          ·rw [atI_not hm] at HAT
           have hp : rsentP a l y = false := by unfold rsentP; rw [hb, t1, decide_eq_true h2, decide_eq_false hm]; rfl
           rw [hp] at NXF
           clear hy hb h1 h2 hm hp NX
           go_wp2_with (go_at_call 139; (with_reducible refine HAT.out.mono ?_); rintro e w5 ⟨rfl, f5⟩; have F5 := Lib.hid f5; have cs5 := (CS2.out _ f5).1; have ls5 := (CS2.out _ f5).2.1; have fs5 := (CS2.out _ f5).2.2; clear f5)
           go_roundg (R.length - (i + 1))
           case measure => omega
           case rel => exact ⟨i + 1, by omega, rfl, by go_num, NXF.out _ F5.out, NS2⟩
         ·have t2 : (y.1.t == a) = false := by simpa using h2
          have hp : rsentP a l y = false := by unfold rsentP; rw [hb, t1, decide_eq_false h2]; rfl
          rw [hp] at NX
          clear hy hb h1 h2 hp
          go_wp2_with fail
          go_roundg (R.length - (i + 1))
          case measure => omega
          case rel => exact ⟨i + 1, by omega, rfl, by go_num, NX.out, NS2⟩
       ·rw [hb] at z0
        by_cases h1 : a ≤ y.1.t
        ·have t1 : decide (a ≤ y.1.t) = true := decide_eq_true h1
         have HW : Hid (wrongE a l R = 19) := Lib.hid (wrong_19 HTA.out HN.out HY.out hb h1)
         clear hy hb h1 NS NX
         go_wp2_with fail
         go_ret2
         exact RSentP.bad HW.out (by decide) H.out HI.out.f
        ·have t1 : decide (a ≤ y.1.t) = false := decide_eq_false h1
         have NS2 := NS.out (fun _ => by omega)
         have hp : rsentP a l y = true := by unfold rsentP; rw [hb]; rfl
         rw [hp] at NX
         clear hy hb h1 hp NS
         go_wp2_with fail
         go_roundg (R.length - (i + 1))
         case measure => omega
         case rel => exact ⟨i + 1, by omega, rfl, by go_num, NX.out, NS2⟩
      ·obtain rfl : i = R.length := by omega
       have HW0 : Hid (wrongE a l R = 0) := Lib.hid (wrong_0 HTA.out HN.out (fun j y hy => HS.out j y (List.getElem?_eq_some_iff.1 hy).1 hy))
       have o := HI.out.o
       rw [told_all] at o
       obtain ⟨wC, hwC⟩ : ∃ wC, wC = wr := ⟨_, rfl⟩
       subst hwC
       have HTK := Lib.hid (ortake_any g _ _ _ (rsentP a l) R wC (H.out.fresh HI.out.f) o (by omega))
       have FC := Lib.hid HI.out.f
       clear o HS HI
       go_wp2_with fail
       refine HTK.out.mono ?_
       rintro e w2 ⟨vg, x1, x2, rfl, og, rq, rt, ng, nf, kg⟩
       have EV2 := Lib.hid ((HU.out.fresh FC.out).kept_g (H.out.fresh FC.out).blk kg (by intro _ _ h; cases h) (by intro _ _ h; cases h))
       rw [← evs_len (goneR (rsentP a l) R)] at og
       have hgl : (goneR (rsentP a l) R).length ≤ R.length := List.length_filter_le _ _
       have HA := Lib.hid (rantis_any vg _ w2 og.evs (by rw [evs_len]; omega))
       obtain ⟨A5, c5, rfl, _, _⟩ := og.shape
       have RR := Lib.hid rq
       have TT := Lib.hid (RTurn.after FC.out rt)
       have NF := Lib.hid nf
       clear og rq rt HTK ng nf kg cQ lQ
       go_wp2_with fail
       refine HA.out.mono ?_
       rintro e w3 ⟨v5, s5, rfl, hs5, hp5, o5, f5, n5⟩
       have hs5 := ssort_is hs5 hp5
       subst hs5
       obtain ⟨A6, c6, rfl, _, _⟩ := o5.shape
       have R3 := Lib.hid (RR.out.fresh f5)
       have T3 := Lib.hid (TT.out.two (RTurn.fresh f5))
       have O3 := Lib.hid o5
       have N3 := Lib.hid (fun q (hq : (Value.slice A6 (ssort (evs (goneR (rsentP a l) R))).length c6).ownBlock = some q) => Nat.le_trans TT.out.keep.size (n5 q hq))
       have F3 := Lib.hid f5
       have EV3 := Lib.hid (EV2.out.fresh f5)
       clear hp5 o5 f5 n5 HA RR TT
       go_wp2_with fail
       refine (sort_any _ l w3 EV3.out (by omega)).mono ?_
       rintro e w4 ⟨v6, s6, rfl, hs6, hp6, o6, f6, n6⟩
       have hs6 := esort_is hp6 hs6
       subst hs6
       obtain ⟨A7, c7, rfl, hc7, hm7⟩ := o6.shape
       have hm7 : c7 ≤ 9223372036854775807 := by unfold maxLen at hm7; omega
       have hel : (esort l).length ≤ 1000 := by rw [(esort_perm l).length_eq]; exact hll
       have hst0 := rsent0_le a l R
       have S0 : Hid (S4 w g (.slice A1 R.length c1) (.slice A2 R.length c2) (esort l) (.slice A7 (esort l).length c7) (rsent0 a l R).1 (rsent0 a l R).1 (rsent0 a l R).2 x1 x2 (.slice A6 (ssort (evs (goneR (rsentP a l) R))).length c6) w4) := Lib.hid ⟨RQ2.of (R3.out.fresh f6), T3.out.two (RTurn.fresh f6), by unfold rsent0; simp only; rw [List.length_map]; exact O3.out.fresh f6, N3.out, o6, fun k hk hx => by
        have h1 := n6 k hk
        have h2 := R3.out.lt k (.inr (.inl hx))
        omega⟩
       clear hp6 o6 f6 n6 R3 T3 O3 N3 F3 FC
       obtain ⟨i0, hi, hz0, hz1, hz2⟩ := info_parts info_ev
       obtain ⟨i1, hi1, hy0, hy1, hy2⟩ := info_parts info_bool
       obtain ⟨i2, hi2, hx0, hx1, hx2⟩ := info_parts info_msg
       have h07 : Hid (0 < 7) := Lib.hid (by omega)
       have h01 : Hid (0 < 1) := Lib.hid (by omega)
       have h08 : Hid (0 < 8) := Lib.hid (by omega)
       obtain ⟨E, hE⟩ : ∃ E, esort l = E := ⟨_, rfl⟩
       have HE := Lib.hid hE
       rw [hE] at S0 hel
       rw [hE]
       clear hE
       obtain ⟨st0, hst⟩ : ∃ st0, rsent0 a l R = st0 := ⟨_, rfl⟩
       have HST := Lib.hid hst
       rw [hst] at S0 hst0
       clear hst
       go_wp2_with fail
       go_loopg [12, 14] E.length (fun gk u12 u14 wr => ∃ (i : Nat) (y1 y2 vo : Value), i ≤ E.length ∧ gk = E.length - i ∧ u12 = vo ∧ u14 = .int .i64 i ∧ S4 w g (.slice A1 R.length c1) (.slice A2 R.length c2) E (.slice A7 E.length c7) ((E.take i).foldl rstep st0).1 ((E.take i).foldl rstep st0).1 ((E.take i).foldl rstep st0).2 y1 y2 vo wr)
       case atStart => exact ⟨0, _, _, _, by omega, rfl, rfl, rfl, S0.out⟩
       case round =>
        obtain ⟨i, y1, y2, vo, hi', rfl, rfl, rfl, hI⟩ := hrel
        have hb1 := rsteps_le (E.take i) st0
        have hti : (E.take i).length ≤ 1000 := by rw [List.length_take]; omega
        obtain ⟨st, hst⟩ : ∃ st, (E.take i).foldl rstep st0 = st := ⟨_, rfl⟩
        rw [hst] at hI hb1
        have HI := Lib.hid hI
        have hst2 := hst
        obtain ⟨A8, c8, rfl, hc8, hm8⟩ := hI.q.o1.shape
        obtain ⟨A9, c9, rfl, hc9, hm9⟩ := hI.q.o2.shape
        obtain ⟨Ao, co, rfl, hco, hmo⟩ := hI.o.shape
        have cQ := hI.q.blk.cell
        have lQ := hI.q.blk.lt
        clear hI
        by_cases hlt : i < E.length
        ·obtain ⟨x, hx⟩ : ∃ x, E[i]? = some x := ⟨_, List.getElem?_eq_getElem hlt⟩
         obtain ⟨g3, off3, _, hv3, hg3, _, _, hcc⟩ := HI.out.s.form (by omega)
         injection hv3 with e1 e2 e3
         subst e1 e3
         obtain ⟨x0, x1', x2', x3, x4, x5, x6⟩ := cells_at E i x hx
         have x0 := hcc _ _ x0
         have x1' := hcc _ _ x1'
         have x2' := hcc _ _ x2'
         have x3 := hcc _ _ x3
         have x4 := hcc _ _ x4
         have x5 := hcc _ _ x5
         have x6 := hcc _ _ x6
         rw [← Nat.add_assoc] at x1' x2' x3 x4 x5 x6
         have HNX := Lib.hid (fold_take E st0 i x hx)
         have HXE := Lib.hid hx
         rw [hst] at HNX
         have o1 := HI.out.q.o1
         rw [← evs_len st.1] at o1
         have HAT := Lib.hid (fun (W : World) (f : Fresh wr W) => at_any _ (evs st.1) x W (o1.fresh f).evs (by rw [evs_len]; omega))
         unfold Ev.val at HAT
         rw [evs_len] at HAT
         have e0' := fun (W : World) (f : Fresh wr W) => f.cell_ x0
         have e1' := fun (W : World) (f : Fresh wr W) => f.cell_ x1'
         have e2' := fun (W : World) (f : Fresh wr W) => f.cell_ x2'
         have e3' := fun (W : World) (f : Fresh wr W) => f.cell_ x3
         have e4' := fun (W : World) (f : Fresh wr W) => f.cell_ x4
         have e5' := fun (W : World) (f : Fresh wr W) => f.cell_ x5
         have e6' := fun (W : World) (f : Fresh wr W) => f.cell_ x6
         have dq := fun (W : World) (f : Fresh wr W) (i : Nat) => (f.blk_ HI.out.q.blk).cell i
         clear hcc e2 hst hst2 hx
         by_cases hm : x ∈ evs st.1
         ·obtain ⟨k, hk, hk2, hk3, _⟩ := atI_mem hm
          have hstep := rstep_idx hk hm
          rw [hk] at HAT
          rw [evs_len] at hk2
          have tk : decide ((0 : Int) ≤ (k : Int)) = true := decide_eq_true (by omega)
          have hy : st.1[k]? = some (x, (st.1[k]'hk2).2) := by
           rw [List.getElem?_eq_getElem hk2]
           have := hk3
           unfold evs at this
           rw [List.getElem?_map, List.getElem?_eq_getElem hk2] at this
           injection this with this
           rw [← this]
          obtain ⟨g4, off4, _, hv4, hg4, _, _, hcb⟩ := HI.out.q.o2.form (by omega)
          injection hv4 with f1 f2 f3
          subst f1 f3
          have HY := Lib.hid hy
          clear hk hk3 hcb f2 hm hy
          go_wp2_with fail
          go_region_held3 (fun W' => Fresh wr W') (exact (fun (f : Fresh wr _) => f) (by (repeat (first | (with_reducible exact Keep.refl _ _) | (with_reducible assumption) | (with_reducible refine Keep.drew ?_) | (with_reducible refine Keep.drewN ?_ _) | (with_reducible refine Keep.alloc ?_ _) | (with_reducible refine Keep.setCell ?_ ?_ _) | (with_reducible refine fun _ => rfl))))) ((go_at_call 139; (with_reducible refine (HAT.out _ (by assumption)).mono ?_); rintro en1 w1 ⟨rfl, f1⟩; have f2 := Keep.step (S := fun _ => False) (by assumption : Fresh wr _) f1 (fun _ _ h => h)))
          clear e0' e1' e2' e3' e4' e5' e6' dq x0 x1' x2' x3 x4 x5 x6 cQ lQ
          have SM := Lib.hid (HI.out.fresh f2)
          have SK := Lib.hid (SM.out.mark HY.out)
          have cQ := SM.out.q.blk.cell
          have lQ := SM.out.q.blk.lt
          have z0 := SM.out.q.o2.at_.2.2.2.2 _ _ (bools_at HY.out)
          have fz := SM.out.q.o2.at_.2.1
          have lz := SM.out.q.o2.at_.1
          go_wp2_with fail
          go_roundg (E.length - (i + 1))
          case measure => omega
          case rel => exact ⟨i + 1, _, _, _, by omega, rfl, rfl, by go_num, by rw [HNX.out, hstep]; have := SK.out; rwa [show st.1.length = (st.1.set k (x, true)).length by rw [List.length_set]] at this⟩
         ·have hstep := rstep_new hm
          rw [atI_not hm] at HAT
          go_wp2_with fail
          go_region_held3 (fun W' => Fresh wr W') (exact (fun (f : Fresh wr _) => f) (by (repeat (first | (with_reducible exact Keep.refl _ _) | (with_reducible assumption) | (with_reducible refine Keep.drew ?_) | (with_reducible refine Keep.drewN ?_ _) | (with_reducible refine Keep.alloc ?_ _) | (with_reducible refine Keep.setCell ?_ ?_ _) | (with_reducible refine fun _ => rfl))))) ((go_at_call 139; (with_reducible refine (HAT.out _ (by assumption)).mono ?_); rintro en1 w1 ⟨rfl, f1⟩; have f2 := Keep.step (S := fun _ => False) (by assumption : Fresh wr _) f1 (fun _ _ h => h)))
          clear e0' e1' e2' e3' e4' e5' e6' dq x0 x1' x2' x3 x4 x5 x6 cQ lQ
          have SM := Lib.hid (HI.out.fresh f2)
          have cQ := SM.out.q.blk.cell
          have lQ := SM.out.q.blk.lt
          obtain ⟨g5, off5, _, hv5, hg5, _, _, hcd⟩ := SM.out.s.form (by omega)
          injection hv5 with h1 h2 h3
          injection h1 with h1
          injection h1 with h4 h5 _
          subst h4 h5
          clear h2 h3
          go_wp2_with fail
          obtain ⟨X, hX⟩ : ∃ X, X = w1 := ⟨_, rfl⟩
          subst hX
          have fD : Fresh X X.drew := (Keep.refl _ X).drew
          have e0 := hcd _ _ (cells_at E i x HXE.out).1
          have e1 := hcd _ _ (cells_at E i x HXE.out).2.1
          have e2 := hcd _ _ (cells_at E i x HXE.out).2.2.1
          have e3 := hcd _ _ (cells_at E i x HXE.out).2.2.2.1
          have e4 := hcd _ _ (cells_at E i x HXE.out).2.2.2.2.1
          have e5 := hcd _ _ (cells_at E i x HXE.out).2.2.2.2.2.1
          have e6 := hcd _ _ (cells_at E i x HXE.out).2.2.2.2.2.2
          rw [← Nat.add_assoc] at e1 e2 e3 e4 e5 e6
          have d0 := fD.cell_ e0
          have d1 := fD.cell_ e1
          have d2 := fD.cell_ e2
          have d3 := fD.cell_ e3
          have d4 := fD.cell_ e4
          have d5 := fD.cell_ e5
          have d6 := fD.cell_ e6
          have cQD := (fD.blk_ SM.out.q.blk).cell
          have lQD := (fD.blk_ SM.out.q.blk).lt
          have SA := Lib.hid (SM.out.fresh (fD.alloc (.cells #[.int .i64 x.a, .int .i64 x.s, .int .i64 x.t, .int .i64 x.n, .int .i64 x.d, .int .i64 x.k, .int .i64 x.x] 41)))
          have h4o : Hid (OwnS (X.drew.alloc (.cells #[.int .i64 x.a, .int .i64 x.s, .int .i64 x.t, .int .i64 x.n, .int .i64 x.d, .int .i64 x.k, .int .i64 x.x] 41)) 41 7 (.slice A8 st.1.length c8) st.1.length (cells (evs st.1))) := Lib.hid SA.out.q.o1
          have HC : Hid (Src (X.drew.alloc (.cells #[.int .i64 x.a, .int .i64 x.s, .int .i64 x.t, .int .i64 x.n, .int .i64 x.d, .int .i64 x.k, .int .i64 x.x] 41)) 7 (.slice (some ⟨X.heap.size, 0, none⟩) 1 1) 1 (cells [x])) := Lib.hid (Src.one_new X.drew 41 7 #[.int .i64 x.a, .int .i64 x.s, .int .i64 x.t, .int .i64 x.n, .int .i64 x.d, .int .i64 x.k, .int .i64 x.x] rfl)
          have hL1 : st.1.length + 1 ≤ maxLen := one_le_maxLen (by omega)
          have hL2 : (st.1.length + 1) * 56 ≤ 140737488355328 := by omega
          have KB : Hid (∀ w4, Keep (fun k => (Value.slice A8 st.1.length c8).ownBlock = some k) (X.drew.alloc (.cells #[.int .i64 x.a, .int .i64 x.s, .int .i64 x.t, .int .i64 x.n, .int .i64 x.d, .int .i64 x.k, .int .i64 x.x] 41)) w4 → Blk w4 g 108 #[(.slice A8 st.1.length c8), (.slice A9 st.1.length c9)]) := Lib.hid fun w4 k4 => SA.out.q.blk.keep k4 SA.out.q.n1
          clear hcd hm
          go_cut [] (fun wx => ∃ v4, S4 w g (.slice A1 R.length c1) (.slice A2 R.length c2) E (.slice (some ⟨g3, off3, none⟩) E.length c7) (st.1 ++ [(x, true)]) st.1 st.2 v4 (.slice A9 st.1.length c9) (.slice Ao st.2.length co) wx)
          case first =>
           go_region_law ((refine step_append_OwnS _ (by rfl) _ _ 24 (by rfl) 41 i0 (.agg #[.int .i64 0, .int .i64 0, .int .i64 0, .int .i64 0, .int .i64 0, .int .i64 0, .int .i64 0]) 7 56 Tryz.underlying24 hi hz0 hz1 hz2 (by rfl) h07.out (.slice A8 st.1.length c8) st.1.length (cells (evs st.1)) (by rfl) h4o.out (.slice (some ⟨X.heap.size, 0, none⟩) 1 1) 1 (cells [x]) (by rfl) HC.out (cells_one _) hL1 hL2 ?_; intro v4 w4 o4 k4 n4; have S5 := Lib.hid (SA.out.appL (y := (x, true)) o4 k4 n4); have b4 := KB.out _ k4; have cb4 := b4.cell; have zb4 := b4.frozen; have lb4 := b4.lt; obtain ⟨A4, cap4, rfl, _, _⟩ := o4.shape; clear o4 k4 n4 b4))
           all_goals go_wp2_with fail
           all_goals go_meet
           all_goals exact ⟨_, by first | exact S5.out | exact S5.out.fresh (Keep.drew (Keep.refl _ _))⟩
          case rest =>
           obtain ⟨v4, hS5⟩ := hcut
           obtain ⟨A4, c4, rfl, hc4, hm4⟩ := hS5.q.o1.shape
           have SM5 := Lib.hid hS5
           obtain ⟨Y, hY⟩ : ∃ Y, Y = wc := ⟨_, rfl⟩
           subst hY
           have cR := SM5.out.q.blk.cell
           have lR := SM5.out.q.blk.lt
           have SB := Lib.hid (SM5.out.fresh ((Keep.refl _ Y).alloc (.cells #[.bool true] 4)))
           have HD : Hid (Src (Y.alloc (.cells #[.bool true] 4)) 1 (.slice (some ⟨Y.heap.size, 0, none⟩) 1 1) 1 (bools [(x, true)])) := Lib.hid (Src.one_new Y 4 1 #[.bool true] rfl)
           have hL3 : (st.1.length + 1) * 1 ≤ 140737488355328 := by omega
           have g1 : st.2.length + 1 ≤ maxLen := one_le_maxLen (by omega)
           have g2 : (st.2.length + 1) * 64 ≤ 140737488355328 := by omega
           have HM : Hid (∀ (wc : World) (n : Nat), n = wc.heap.size → Src (wc.alloc (.cells #[.int .i64 x.a, .int .i64 x.s, .int .i64 x.t, .int .i64 x.n, .int .i64 x.d, .int .i64 x.k, .int .i64 x.x, .bool false] 43)) 8 (.slice (some ⟨n, 0, none⟩) 1 1) 1 (rcells [(x, false)])) := Lib.hid (fun wc n hn => hn ▸ Src.one_new wc 43 8 #[.int .i64 x.a, .int .i64 x.s, .int .i64 x.t, .int .i64 x.n, .int .i64 x.d, .int .i64 x.k, .int .i64 x.x, .bool false] rfl)
           clear hS5
           go_wp2_with (first
            | (at_builtin; refine wpList_append_OwnS _ rfl _ _ 106 rfl 4 i1 (.bool false) 1 1 Tryz.underlying106 hi1 hy0 hy1 hy2 rfl h01.out (.slice A9 st.1.length c9) st.1.length (bools st.1) rfl SB.out.q.o2 (.slice (some ⟨Y.heap.size, 0, none⟩) 1 1) 1 (bools [(x, true)]) rfl HD.out (bools_one _) hL1 hL3 ?_; intro v5 w5 o5 k5 n5; have S6 := Lib.hid (SB.out.appS (y := (x, true)) o5 k5 n5); have b5 := SB.out.q.blk.keep k5 SB.out.q.n2; have cb5 := b5.cell; have zb5 := b5.frozen; have lb5 := b5.lt; obtain ⟨A5, cap5, rfl, _, _⟩ := o5.shape; obtain ⟨lq, q0, q1, q2, q3, q4, q5, q6⟩ := S6.out.ev HXE.out; clear o5 k5 n5 b5)
            | (at_builtin; refine wpList_append_OwnS _ rfl _ _ 35 rfl 43 i2 (.agg #[.int .i64 0, .int .i64 0, .int .i64 0, .int .i64 0, .int .i64 0, .int .i64 0, .int .i64 0, .bool false]) 8 64 Tryz.underlying35 hi2 hx0 hx1 hx2 rfl h08.out (.slice Ao st.2.length co) st.2.length (rcells st.2) rfl (S6.out.o.alloc _) (.slice (some ⟨_, 0, none⟩) 1 1) 1 (rcells [(x, false)]) rfl (HM.out _ _ (by simp)) (rcells_one _) g1 g2 ?_; intro v7 w7 o7 k7 n7; rw [← rcells_append] at o7; have S8 := Lib.hid ((S6.out.fresh ((Keep.refl _ _).alloc _)).appM o7 k7 n7); obtain ⟨A7x, cap7, rfl, _, _⟩ := o7.shape; clear o7 k7 n7))
           go_roundg (E.length - (i + 1))
           case measure => omega
           case rel => exact ⟨i + 1, _, _, _, by omega, rfl, rfl, by go_num, by rw [HNX.out, hstep]; exact S8.out⟩
        ·obtain rfl : i = E.length := by omega
         rw [List.take_length] at hst2
         have EQ : Hid (rsentQ a l R = st.1 ∧ rsentM a l R = st.2) := Lib.hid (by
          unfold rsentQ rsentM
          rw [if_pos HW0.out, if_pos HW0.out]
          unfold rsentFrom
          rw [HST.out, HE.out, hst2]
          exact ⟨rfl, rfl⟩)
         have FIN : Hid (RSentP g (.slice A1 R.length c1) (.slice A2 R.length c2) a l R w (.returned (.tuple #[.slice Ao st.2.length co, .int .i64 0])) wr) := Lib.hid (by
          refine ⟨_, _, _, by rw [HW0.out], ?_, ?_, HI.out.t, HI.out.no⟩
          ·rw [EQ.out.2]
           exact HI.out.o
          ·rw [EQ.out.1]
           exact HI.out.q.is)
         clear hst hst2
         go_wp2_with fail
         go_ret2
         exact FIN.out
end Go.Proofs.YthbcdkeammhakaaGreat
