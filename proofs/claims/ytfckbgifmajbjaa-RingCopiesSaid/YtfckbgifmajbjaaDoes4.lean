/-
  The law's does: a call of a ring, and of the document's.
-/
import Derived.Test.YtfckbgifmajbjaaCalls4
namespace Go.Proofs.Ytfckbgifmajbjaa
open Go.RowKit
theorem run_max (P : Program) (w : World) (ts : Array TypeId) (t : TypeId) (k : IntKind) (x y : Int) : (Builtin.max_ ts t #[.int k x, .int k y]).run P w = .ok (.int k (max x y)) w := by
  simp [Builtin.max_, Builtin.max2]
  split <;> omega
theorem run_min (P : Program) (w : World) (ts : Array TypeId) (t : TypeId) (k : IntKind) (x y : Int) : (Builtin.min_ ts t #[.int k x, .int k y]).run P w = .ok (.int k (min x y)) w := by
  simp [Builtin.min_, Builtin.min2]
  split <;> omega
attribute [local go_sem ↓] Go.wp_at_zero Go.wp_at_succ run_min run_max

structure ROp where
  ask : Int
  t : Int
  x : Int
def ROp.arr (o : ROp) : Array Value := #[.int .i64 o.ask, .int .i64 o.t, .int .i64 o.x]
/-- the list behind a call -/
def doesL (L : List (Int × Int)) (room : Nat) (o : ROp) : List (Int × Int) := if o.ask = 0 then (pushL L room (o.t, o.x)).2 else if o.ask = 1 then L.take (lows L o.t) else if o.ask = 2 then L.drop (lows L o.t) else L
theorem doesL_len (L : List (Int × Int)) (room : Nat) (o : ROp) : (doesL L room o).length ≤ L.length + 1 := by
  unfold doesL pushL
  split
  · split
    · simp
    · split <;> simp
  · split
    · rw [List.length_take]; omega
    · split
      · rw [List.length_drop]; omega
      · omega
/-- what a call leaves of both -/
structure DPost (g gs off cap gr : Nat) (v : Value) (room : Nat) (L : List (Int × Int)) (w w' : World) : Prop where
  sw : Held g gs off cap room L w'
  ex : ∃ v', RRing w' gr v' room L ∧ Later w gr v v'
  kp : Keep (fun k => k = g ∨ k = gs ∨ foot gr v k) w w'

section
variable {w w1 w2 : World} {g gs off cap gr room : Nat} {v : Value} {L L2 L' : List (Int × Int)}
theorem apart (h : Held g gs off cap room L w) (h2 : RRing w gr v room L2) : ¬ foot gr v g ∧ ¬ foot gr v gs := by
  obtain ⟨c, first, h⟩ := h
  constructor
  · rintro (e | e)
    · subst e
      have e1 := h.s.blk
      have e2 := h2.blk
      unfold Blk at e1 e2
      rw [e1] at e2
      injection e2 with e2
      injection e2 with _ e2
      exact absurd e2 (by decide)
    · exact h2.own.ne_blk h.s.blk (by decide) e
  · rintro (e | e)
    · exact h.s.own.ne_blk h2.blk (by decide) (by simp [Value.ownBlock]; exact e)
    · exact h.s.own.ne_own h2.own (by decide) gs (by simp [Value.ownBlock]) e
theorem RRing.off_ (h : Held g gs off cap room L w) (h2 : RRing w gr v room L2) {S : Nat → Prop} (k1 : Keep S w w1) (hS : ∀ k, S k → k = g ∨ k = gs) : RRing w1 gr v room L2 :=
  h2.kept k1 (fun k hk e => by
    obtain ⟨n1, n2⟩ := apart h h2
    rcases hS k e with rfl | rfl
    · exact n1 hk
    · exact n2 hk)
/-- a call of the ring, then one of the document's -/
theorem DPost.two (h : Held g gs off cap room L w) (h2 : RRing w gr v room L) (a1 : Held g gs off cap room L' w1) (k1 : Keep (fun k => k = g ∨ k = gs) w w1) {W : World} (f : Fresh w1 W) (p2 : RPost gr v room L' W w2) : DPost g gs off cap gr v room L' w w2 := by
  obtain ⟨v', r2, k2, l2⟩ := p2
  obtain ⟨n1, n2⟩ := apart h h2
  have kf : Keep (fun k => k = g ∨ k = gs) w W := k1.step f (fun _ _ h => h.elim)
  refine ⟨(a1.fresh f).kept k2 n1 n2, ⟨v', r2, fun k hk => (l2 k hk).imp id (fun h => Nat.le_trans kf.size h)⟩, ?_⟩
  exact (kf.more (fun k _ hk => by rcases hk with e | e <;> simp [e])).step k2 (fun i _ hi => .inr (.inr hi))
theorem DPost.stay (h : Held g gs off cap room L w) (h2 : RRing w gr v room L) (f : Fresh w w2) : DPost g gs off cap gr v room L w w2 :=
  ⟨h.fresh f, ⟨v, h2.fresh f, fun k hk => .inl hk⟩, f.more (fun _ _ h => h.elim)⟩
theorem DPost.after {w0 : World} (f0 : Fresh w0 w) (p : DPost g gs off cap gr v room L w w2) : DPost g gs off cap gr v room L w0 w2 := by
  obtain ⟨p1, ⟨v', p2, p3⟩, p4⟩ := p
  exact ⟨p1, ⟨v', p2, fun k hk => (p3 k hk).imp id (fun h => Nat.le_trans f0.size h)⟩, (f0.more (fun _ _ h => h.elim)).trans p4⟩
theorem DPost.more (p : DPost g gs off cap gr v room L w w1) (f : Fresh w1 w2) : DPost g gs off cap gr v room L w w2 := by
  obtain ⟨p1, ⟨v', p2, p3⟩, p4⟩ := p
  exact ⟨p1.fresh f, ⟨v', p2.fresh f, p3⟩, p4.step f (fun _ _ h => h.elim)⟩
end

/-- a part taken from both: both answers are the same numbers -/
theorem both_parts {w w1 w2 : World} {g gs off cap gr room : Nat} {v va vb : Value} {L L' : List (Int × Int)} {out : List Int} (h : Held g gs off cap room L w) (h2 : RRing w gr v room L) (ga : Given w w1 va out) (p2 : RPost gr v room L' w1 w2) (gb : Given w1 w2 vb out) (f1 : w.heap.size ≤ w1.heap.size) :
    ∃ A B c c', va = .slice A out.length c ∧ vb = .slice B out.length c' ∧ c ≤ 9223372036854775807 ∧ c' ≤ 9223372036854775807 ∧ IntsAt w2 A out ∧ IntsAt w2 B out := by
  obtain ⟨v', r2, k2, l2⟩ := p2
  have ga2 : OwnS w2 3 1 va out.length (ints out) := ga.1.kept k2 (fun k hk e => by
    have := ga.2 k hk
    have := h2.lt k e
    omega)
  obtain ⟨A, c, rfl, _, m1⟩ := ga2.shape
  obtain ⟨B, c', e, _, m2⟩ := gb.1.shape
  subst e
  have m1 : c ≤ 9223372036854775807 := by unfold maxLen at m1; omega
  have m2 : c' ≤ 9223372036854775807 := by unfold maxLen at m2; omega
  exact ⟨A, B, c, c', rfl, rfl, m1, m2, IntsAt.own ga2, IntsAt.own gb.1⟩
end Go.Proofs.Ytfckbgifmajbjaa
