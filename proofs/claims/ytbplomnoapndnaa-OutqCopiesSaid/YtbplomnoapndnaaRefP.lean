/-
  The document's answer to Sent: plainly; the half-turned queue.
-/
import Derived.Test.YtbplomnoapndnaaRefA
namespace Go.Proofs.Ytbplomnoapndnaa
open Go.RowKit

def ssort (l : List Ev) : List Ev := l.mergeSort (fun a b => !sLt b a)
theorem sLt_ntrans {a b c : Ev} (h1 : sLt b a = false) (h2 : sLt c b = false) : sLt c a = false := by
  cases h : sLt c a
  · rfl
  · cases h3 : sLt a b
    · have := sLt_total h3 h1
      subst this
      rw [h2] at h
      cases h
    · rw [sLt_trans h h3] at h2
      cases h2
theorem ssort_perm (l : List Ev) : (ssort l).Perm l := List.mergeSort_perm l _
theorem ssort_srt (l : List Ev) : SrtS (ssort l) := by
  have h := List.pairwise_mergeSort (le := fun a b => !sLt b a) (fun a b c h1 h2 => by
    simp only [Bool.not_eq_true'] at *
    exact sLt_ntrans h1 h2) (fun a b => by
    cases h1 : sLt b a
    · simp
    · simp [sLt_asymm h1]) l
  exact List.Pairwise.imp (fun h => by simpa using h) h
theorem ssort_is {l s : List Ev} (hs : SrtS s) (hp : s.Perm l) : s = ssort l :=
  List.Perm.eq_of_pairwise (le := fun p q => sLt q p = false) (fun _ _ _ _ h1 h2 => sLt_total h2 h1) hs (ssort_srt l) (hp.trans (ssort_perm l).symm)
/-- does a record stay when l is sent at a? -/
def rsentP (a : Int) (l : List Ev) (r : Rec) : Bool := r.2 || (decide (a < r.1.t) || (decide (r.1.t = a) && decide (r.1 ∈ l)))
def rstep (st : List Rec × List Msg) (e : Ev) : List Rec × List Msg :=
  if e ∈ evs st.1 then (st.1.set ((evs st.1).findIdx (fun x => decide (x = e))) (e, true), st.2) else (st.1 ++ [(e, true)], st.2 ++ [(e, false)])
def rsent0 (a : Int) (l : List Ev) (R : List Rec) : List Rec × List Msg := (keepR (rsentP a l) R, (ssort (evs (goneR (rsentP a l) R))).map (fun e => (e, true)))
def rsentFrom (a : Int) (l : List Ev) (R : List Rec) : List Rec × List Msg := (esort l).foldl rstep (rsent0 a l R)
def rsentQ (a : Int) (l : List Ev) (R : List Rec) : List Rec := if wrongE a l R = 0 then (rsentFrom a l R).1 else R
def rsentM (a : Int) (l : List Ev) (R : List Rec) : List Msg := if wrongE a l R = 0 then (rsentFrom a l R).2 else []
theorem rstep_le (st : List Rec × List Msg) (e : Ev) : (rstep st e).1.length ≤ st.1.length + 1 ∧ (rstep st e).2.length ≤ st.2.length + 1 := by
  unfold rstep
  split
  · simp
  · simp
theorem rsteps_le (s : List Ev) : ∀ (st : List Rec × List Msg), (s.foldl rstep st).1.length ≤ st.1.length + s.length ∧ (s.foldl rstep st).2.length ≤ st.2.length + s.length := by
  induction s with
  | nil => intro st; exact ⟨Nat.le_refl _, Nat.le_refl _⟩
  | cons e r ih =>
    intro st
    have h1 := ih (rstep st e)
    have h2 := rstep_le st e
    simp only [List.foldl_cons, List.length_cons]
    omega
theorem fold_take (s : List Ev) (st : List Rec × List Msg) (i : Nat) (x : Ev) (h : s[i]? = some x) : (s.take (i + 1)).foldl rstep st = rstep ((s.take i).foldl rstep st) x := by
  rw [List.take_add_one, h, Option.toList_some, List.foldl_append]
  rfl
theorem rsent0_le (a : Int) (l : List Ev) (R : List Rec) : (rsent0 a l R).1.length ≤ R.length ∧ (rsent0 a l R).2.length ≤ R.length := by
  unfold rsent0
  refine ⟨List.length_filter_le _ _, ?_⟩
  simp only
  rw [List.length_map, (ssort_perm _).length_eq, evs_len]
  exact List.length_filter_le _ _
/-! ### both lists on their own -/
structure RQ2 (w : World) (g : Nat) (v1 v2 : Value) (L S : List Rec) : Prop where
  blk : Blk w g 59 #[v1, v2]
  o1 : OwnS w 44 7 v1 L.length (cells (evs L))
  o2 : OwnS w 4 1 v2 S.length (bools S)
section
variable {w w' w3 : World} {g : Nat} {v1 v2 v' : Value} {L S R : List Rec} {y : Rec} {T : Nat → Prop}
theorem RQ2.of (h : RQ w g v1 v2 R) : RQ2 w g v1 v2 R R := ⟨h.blk, h.o1, h.o2⟩
theorem RQ2.is (h : RQ2 w g v1 v2 R R) : RQ w g v1 v2 R := ⟨h.blk, h.o1, h.o2⟩
theorem RQ2.n1 (h : RQ2 w g v1 v2 L S) : v1.ownBlock ≠ some g := h.o1.ne_blk h.blk (by decide)
theorem RQ2.n2 (h : RQ2 w g v1 v2 L S) : v2.ownBlock ≠ some g := h.o2.ne_blk h.blk (by decide)
theorem RQ2.kept (h : RQ2 w g v1 v2 L S) (k : Keep T w w') (hS : ∀ i, rfoot g v1 v2 i → ¬ T i) : RQ2 w' g v1 v2 L S :=
  ⟨h.blk.keep k (hS g (.inl rfl)), h.o1.kept k (fun i hi => hS i (.inr (.inl hi))), h.o2.kept k (fun i hi => hS i (.inr (.inr hi)))⟩
theorem RQ2.fresh (h : RQ2 w g v1 v2 L S) (k : Fresh w w') : RQ2 w' g v1 v2 L S := h.kept k (fun _ _ h => h)
theorem RQ2.appL (h : RQ2 w g v1 v2 L S) (o : OwnS w3 44 7 v' (L.length + 1) (cells (evs L) ++ cells [y.1])) (k : Keep (fun k => v1.ownBlock = some k) w w3) (n : ∀ i, v'.ownBlock = some i → v1.ownBlock = some i ∨ w.heap.size ≤ i) :
    RQ2 (w3.setCell ⟨g, 0, none⟩ v') g v' v2 (L ++ [y]) S ∧ RTurn w (w3.setCell ⟨g, 0, none⟩ v') g v1 v2 v' v2 := by
  have b3 := h.blk.keep k (fun hs => h.n1 hs)
  have o2 := h.o2.kept k (fun i hi hs => h.o1.ne_own h.o2 (by decide) i hs hi)
  have oo : OwnS w3 44 7 v' (L ++ [y]).length (cells (evs (L ++ [y]))) := by rw [List.length_append, evs_append, cells_append]; exact o
  refine ⟨⟨by simpa using b3.set_ 0 v', oo.far (p := ⟨g, 0, none⟩) (oo.ne_blk b3 (by decide)) v', o2.far (p := ⟨g, 0, none⟩) h.n2 v'⟩, ⟨(k.more (fun i _ hs => .inr (.inl hs))).setCell (p := ⟨g, 0, none⟩) (fun _ => .inl rfl) v', fun i hi => ?_⟩⟩
  rcases hi with rfl | hi | hi
  · exact .inl (.inl rfl)
  · rcases n i hi with h1 | h1
    · exact .inl (.inr (.inl h1))
    · exact .inr h1
  · exact .inl (.inr (.inr hi))
theorem RQ2.appS (h : RQ2 w g v1 v2 L S) (o : OwnS w3 4 1 v' (S.length + 1) (bools S ++ bools [y])) (k : Keep (fun k => v2.ownBlock = some k) w w3) (n : ∀ i, v'.ownBlock = some i → v2.ownBlock = some i ∨ w.heap.size ≤ i) :
    RQ2 (w3.setCell ⟨g, 1, none⟩ v') g v1 v' L (S ++ [y]) ∧ RTurn w (w3.setCell ⟨g, 1, none⟩ v') g v1 v2 v1 v' := by
  have b3 := h.blk.keep k (fun hs => h.n2 hs)
  have o1 := h.o1.kept k (fun i hi hs => h.o1.ne_own h.o2 (by decide) i hi hs)
  have oo : OwnS w3 4 1 v' (S ++ [y]).length (bools (S ++ [y])) := by rw [List.length_append, bools_append]; exact o
  refine ⟨⟨by simpa using b3.set_ 1 v', o1.far (p := ⟨g, 1, none⟩) h.n1 v', oo.far (p := ⟨g, 1, none⟩) (oo.ne_blk b3 (by decide)) v'⟩, ⟨(k.more (fun i _ hs => .inr (.inr hs))).setCell (p := ⟨g, 1, none⟩) (fun _ => .inl rfl) v', fun i hi => ?_⟩⟩
  rcases hi with rfl | hi | hi
  · exact .inl (.inl rfl)
  · exact .inl (.inr (.inl hi))
  · rcases n i hi with h1 | h1
    · exact .inl (.inr (.inr h1))
    · exact .inr h1
end
/-- in Sent's last loop: the queue, the messages, the events in order -/
structure S4 (w : World) (g : Nat) (v1 v2 : Value) (s : List Ev) (vs : Value) (L S : List Rec) (M : List Msg) (x1 x2 vo : Value) (W : World) : Prop where
  q : RQ2 W g x1 x2 L S
  t : RTurn w W g v1 v2 x1 x2
  o : OwnS W 46 8 vo M.length (rcells M)
  no : ∀ k, vo.ownBlock = some k → w.heap.size ≤ k
  s : OwnS W 44 7 vs s.length (cells s)
  ns : ∀ k, vs.ownBlock = some k → x1.ownBlock ≠ some k
section
variable {w W w3 W' : World} {g : Nat} {v1 v2 vs x1 x2 vo v' : Value} {s : List Ev} {L S R : List Rec} {M : List Msg} {y : Rec}
theorem S4.fresh (h : S4 w g v1 v2 s vs L S M x1 x2 vo W) (f : Fresh W W') : S4 w g v1 v2 s vs L S M x1 x2 vo W' :=
  ⟨h.q.fresh f, h.t.two (RTurn.fresh f), h.o.fresh f, h.no, h.s.fresh f, h.ns⟩
theorem S4.appL (h : S4 w g v1 v2 s vs L S M x1 x2 vo W) (o : OwnS w3 44 7 v' (L.length + 1) (cells (evs L) ++ cells [y.1])) (k : Keep (fun k => x1.ownBlock = some k) W w3) (n : ∀ i, v'.ownBlock = some i → x1.ownBlock = some i ∨ W.heap.size ≤ i) :
    S4 w g v1 v2 s vs (L ++ [y]) S M v' x2 vo (w3.setCell ⟨g, 0, none⟩ v') := by
  obtain ⟨q, t⟩ := h.q.appL o k n
  have b3 := h.q.blk.keep k (fun hs => h.q.n1 hs)
  have oo := h.o.kept k (fun i hi hs => h.q.o1.ne_own h.o (by decide) i hs hi)
  have os := h.s.kept k (fun i hi hs => h.ns i hi hs)
  refine ⟨q, h.t.two t, oo.far (p := ⟨g, 0, none⟩) (oo.ne_blk b3 (by decide)) v', h.no, os.far (p := ⟨g, 0, none⟩) (os.ne_blk b3 (by decide)) v', fun i hi hv => ?_⟩
  rcases n i hv with h1 | h1
  · exact h.ns i hi h1
  · have := h.s.lt hi; omega
theorem S4.appS (h : S4 w g v1 v2 s vs L S M x1 x2 vo W) (o : OwnS w3 4 1 v' (S.length + 1) (bools S ++ bools [y])) (k : Keep (fun k => x2.ownBlock = some k) W w3) (n : ∀ i, v'.ownBlock = some i → x2.ownBlock = some i ∨ W.heap.size ≤ i) :
    S4 w g v1 v2 s vs L (S ++ [y]) M x1 v' vo (w3.setCell ⟨g, 1, none⟩ v') := by
  obtain ⟨q, t⟩ := h.q.appS o k n
  have b3 := h.q.blk.keep k (fun hs => h.q.n2 hs)
  have oo := h.o.kept k (fun i hi hs => h.q.o2.ne_own h.o (by decide) i hs hi)
  have os := h.s.kept k (fun i hi hs => h.q.o2.ne_own h.s (by decide) i hs hi)
  exact ⟨q, h.t.two t, oo.far (p := ⟨g, 1, none⟩) (oo.ne_blk b3 (by decide)) v', h.no, os.far (p := ⟨g, 1, none⟩) (os.ne_blk b3 (by decide)) v', h.ns⟩
theorem S4.appM (h : S4 w g v1 v2 s vs L S M x1 x2 vo W) {m : Msg} (o : OwnS w3 46 8 v' (M.length + 1) (rcells (M ++ [m]))) (k : Keep (fun k => vo.ownBlock = some k) W w3) (n : ∀ i, v'.ownBlock = some i → vo.ownBlock = some i ∨ W.heap.size ≤ i) :
    S4 w g v1 v2 s vs L S (M ++ [m]) x1 x2 v' w3 := by
  have q := h.q.kept k (fun i hi hs => by
    rcases hi with rfl | hi | hi
    · exact h.o.ne_blk h.q.blk (by decide) hs
    · exact h.o.ne_own h.q.o1 (by decide) i hs hi
    · exact h.o.ne_own h.q.o2 (by decide) i hs hi)
  have hsz := h.t.keep.size
  refine ⟨q, ⟨h.t.keep.step k (fun i hi hs => by have := h.no i hs; omega), h.t.later⟩, by rw [List.length_append]; exact o, fun i hi => ?_, h.s.kept k (fun i hi hs => h.o.ne_own h.s (by decide) i hs hi), h.ns⟩
  rcases n i hi with h1 | h1
  · exact h.no i h1
  · omega
end
end Go.Proofs.Ytbplomnoapndnaa
