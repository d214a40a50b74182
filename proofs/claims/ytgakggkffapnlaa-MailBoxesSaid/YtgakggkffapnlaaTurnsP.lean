/-
  Two nets that are taken from by turns.
-/
import Derived.Test.YtgakggkffapnlaaPlayP
namespace Go.Proofs.Ytgakggkffapnlaa
open Go.RowKit R_int

/-- two nets apart, and packets in boxes of their own -/
structure Two (wr : World) (bx nx : Int) (gc : Nat) (vc : Value) (lc : List Pk) (gd : Nat) (vd : Value) (ld : List Pk) (bs : List (Nat × Array Value)) (w : World) : Prop where
  sc : SNet w gc vc bx nx lc
  sd : SNet w gd vd bx nx ld
  ap : ∀ k, foot gc vc k → ¬ foot gd vd k
  fr : Fresh wr w
  nc : ∀ k, foot gc vc k → wr.heap.size ≤ k
  nd : ∀ k, foot gd vd k → wr.heap.size ≤ k
  box : ∀ x ∈ bs, Blk w x.1 41 x.2 ∧ ¬ foot gc vc x.1 ∧ ¬ foot gd vd x.1
section
variable {wr w w' : World} {bx nx : Int} {gc gd : Nat} {vc vd : Value} {lc ld : List Pk} {bs : List (Nat × Array Value)}
theorem Two.fresh (h : Two wr bx nx gc vc lc gd vd ld bs w) (f : Fresh w w') : Two wr bx nx gc vc lc gd vd ld bs w' :=
  ⟨h.sc.fresh f, h.sd.fresh f, h.ap, h.fr.step f (fun _ _ h => h), h.nc, h.nd, fun x hx => ⟨f.blk_ (h.box x hx).1, (h.box x hx).2⟩⟩
theorem Two.alloc (h : Two wr bx nx gc vc lc gd vd ld bs w) (cs : Array Value) : Two wr bx nx gc vc lc gd vd ld ((w.heap.size, cs) :: bs) (w.alloc (.cells cs 41)) := by
  have h2 := h.fresh ((Keep.refl _ _).alloc (.cells cs 41))
  refine ⟨h2.sc, h2.sd, h2.ap, h2.fr, h2.nc, h2.nd, fun x hx => ?_⟩
  rcases List.mem_cons.1 hx with rfl | hx
  · exact ⟨Blk.new _ _ _, fun e => by have := h.sc.lt _ e; simp at this, fun e => by have := h.sd.lt _ e; simp at this⟩
  · exact h2.box x hx
theorem Two.swap (h : Two wr bx nx gc vc lc gd vd ld bs w) : Two wr bx nx gd vd ld gc vc lc bs w :=
  ⟨h.sd, h.sc, fun k a b => h.ap k b a, h.fr, h.nd, h.nc, fun x hx => ⟨(h.box x hx).1, (h.box x hx).2.2, (h.box x hx).2.1⟩⟩
theorem Two.took {vc' : Value} {lc' : List Pk} (h : Two wr bx nx gc vc lc gd vd ld bs w) (s : SNet w' gc vc' bx nx lc') (k : Keep (foot gc vc) w w') (l : Later w vc vc') : Two wr bx nx gc vc' lc' gd vd ld bs w' := by
  have hl : ∀ i, foot gc vc' i → foot gc vc i ∨ w.heap.size ≤ i := by
    rintro i (rfl | hi)
    · exact .inl (.inl rfl)
    · exact (l i hi).imp .inr id
  refine ⟨s, h.sd.kept k (fun e => h.ap _ e (.inl rfl)) (fun i hi e => h.ap _ e (.inr hi)), fun i hi e => ?_, h.fr.step k (fun i hi e => by have := h.nc i e; omega), fun i hi => ?_, h.nd, fun x hx => ?_⟩
  · rcases hl i hi with a | a
    · exact h.ap i a e
    · have := h.sd.lt i e; omega
  · rcases hl i hi with a | a
    · exact h.nc i a
    · have := h.fr.size; omega
  · obtain ⟨a, b, c⟩ := h.box x hx
    refine ⟨a.keep k b, fun e => ?_, c⟩
    rcases hl _ e with e | e
    · exact b e
    · have := a.lt; omega
end
theorem rm_len (l : List Pk) (a b : Int) : (rm (rm l a) b).length = (rm (rm l b) a).length := by
  unfold rm
  rw [List.filter_filter, List.filter_filter]
  congr 1
  apply List.filter_congr
  intro x _
  rw [Bool.and_comm]
theorem byNo_rm (l : List Pk) {a b : Int} (h : a ≠ b) : byNo (rm l b) a = byNo l a := by
  unfold byNo rm
  rw [List.filter_filter]
  congr 1
  apply List.filter_congr
  intro x _
  cases hx : (x.no == a)
  · simp
  · have : x.no = a := by simpa using hx
    simp [this]
    exact h
theorem rm_good {bx nx : Int} {l : List Pk} (h : Good bx nx l) (a : Int) : Good bx nx (rm l a) := h.rm a
/-- Take by its plain post -/
theorem take_norm (g : Nat) (v : Value) (bx nx no : Int) (l : List Pk) (w : World) (h : SNet w g v bx nx l) (hG : Good bx nx l) (hl : l.length ≤ 10000) :
    Calls Try.prog 16 #[.pointer (some ⟨g, 0, none⟩), .int .i64 no] w (TookN g v bx nx (byNo l no) (rm l no) w) :=
  (take_any g v bx nx no l w h (by omega)).mono fun e w' p => TakeP.norm h hG p
theorem run_neq_pk (a b c x : Int) (w : World) : (binOp .neq 41 (.agg #[.int .i64 a, .int .i64 b, .int .i64 c, .int .i64 x]) (.agg #[.int .i64 a, .int .i64 b, .int .i64 c, .int .i64 x])).run Try.prog w = .ok (.bool false) w := by
  go_simp
end Go.Proofs.Ytgakggkffapnlaa
