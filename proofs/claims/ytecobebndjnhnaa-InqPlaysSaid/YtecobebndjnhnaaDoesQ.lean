/-
  The law's does: a call of a queue, and of the document's.
-/
import Derived.Test.YtecobebndjnhnaaOpsQ
import Derived.Test.YtecobebndjnhnaaRDrop
import Derived.Test.YtecobebndjnhnaaLate
namespace Go.Proofs.Ytecobebndjnhnaa
open Go.RowKit
theorem run_max (P : Program) (w : World) (ts : Array TypeId) (t : TypeId) (k : IntKind) (x y : Int) : (Builtin.max_ ts t #[.int k x, .int k y]).run P w = .ok (.int k (max x y)) w := by
  simp [Builtin.max_, Builtin.max2]
  split <;> omega
attribute [local go_sem ↓] Go.wp_at_zero Go.wp_at_succ run_max

/-- both, made behind w -/
structure P0 (w : World) (g : Nat) (v1 v2 : Value) (l m : List Ev) (gr : Nat) (u1 u2 : Value) (L B : List Ev) (wr : World) : Prop where
  q : AQ w g v1 v2 l m wr
  r : RQ wr gr u1 u2 L B
  rn : ∀ k, foot gr u1 u2 k → w.heap.size ≤ k
  dis : ∀ k, foot g v1 v2 k → ¬ foot gr u1 u2 k
section
variable {w wr w2 : World} {g gr : Nat} {v1 v2 u1 u2 v1' v2' u1' u2' : Value} {l m L B l' m' L' B' : List Ev}
theorem P0.fresh (h : P0 w g v1 v2 l m gr u1 u2 L B wr) (f : Fresh wr w2) : P0 w g v1 v2 l m gr u1 u2 L B w2 := ⟨h.q.fresh f, h.r.fresh f, h.rn, h.dis⟩
theorem P0.nextQ (h : P0 w g v1 v2 l m gr u1 u2 L B wr) (s : SQ w2 g v1' v2' l' m') (t : Turn wr w2 g v1 v2 v1' v2') : P0 w g v1' v2' l' m' gr u1 u2 L B w2 := by
  refine ⟨h.q.next s t, h.r.kept t.keep (fun k hb h2 => h.dis k h2 hb), h.rn, fun k hk hb => ?_⟩
  rcases t.later k hk with h1 | h1
  · exact h.dis k h1 hb
  · have := h.r.lt k hb; omega
theorem P0.nextR (h : P0 w g v1 v2 l m gr u1 u2 L B wr) (s : RQ w2 gr u1' u2' L' B') (t : Turn wr w2 gr u1 u2 u1' u2') : P0 w g v1 v2 l m gr u1' u2' L' B' w2 := by
  refine ⟨⟨h.q.q.kept t.keep (fun k hb h2 => h.dis k hb h2), h.q.fr.step t.keep (fun i hi e => by have := h.rn i e; omega), h.q.ng⟩, s, fun k hk => ?_, fun k hk hb => ?_⟩
  · rcases t.later k hk with h1 | h1
    · exact h.rn k h1
    · have := h.q.fr.size; omega
  · rcases t.later k hb with h1 | h1
    · exact h.dis k hk h1
    · have := h.q.q.lt k hk; omega
end
/-- both behind k calls -/
structure PQ (w : World) (k : Nat) (g : Nat) (v1 v2 : Value) (l m : List Ev) (gr : Nat) (u1 u2 : Value) (L B : List Ev) (wr : World) : Prop where
  p : P0 w g v1 v2 l m gr u1 u2 L B wr
  pl : L.Perm l
  pm : B.Perm m
  ok : ∀ x ∈ l, 0 ≤ x.a
  few : l.length ≤ k ∧ m.length ≤ k
theorem PQ.more {w wr : World} {k g gr : Nat} {v1 v2 u1 u2 : Value} {l m L B : List Ev} (h : PQ w k g v1 v2 l m gr u1 u2 L B wr) : PQ w (k + 1) g v1 v2 l m gr u1 u2 L B wr := ⟨h.p, h.pl, h.pm, h.ok, by have := h.few; omega⟩
theorem PQ.fresh {w wr w2 : World} {k g gr : Nat} {v1 v2 u1 u2 : Value} {l m L B : List Ev} (h : PQ w k g v1 v2 l m gr u1 u2 L B wr) (f : Fresh wr w2) : PQ w k g v1 v2 l m gr u1 u2 L B w2 := ⟨h.p.fresh f, h.pl, h.pm, h.ok, h.few⟩
def DoesP (w : World) (k g gr : Nat) (e : Ending) (w' : World) : Prop :=
  e = .returned (.bool true) ∧ ∃ v1 v2 l m u1 u2 L B, PQ w k g v1 v2 l m gr u1 u2 L B w'
set_option maxHeartbeats 4000000 in
set_option maxRecDepth 100000 in
theorem does_put (w : World) (k g : Nat) (v1 v2 : Value) (l m : List Ev) (gr : Nat) (u1 u2 : Value) (L B : List Ev) (wr : World) (x : Ev) (an : Bool) (n : Int) (h : PQ w k g v1 v2 l m gr u1 u2 L B wr) (hk : k ≤ 1000) :
    Calls Try.prog 27 #[.pointer (some ⟨g, 0, none⟩), .pointer (some ⟨gr, 0, none⟩), .agg (QOp.mk 0 (x, an) n).arr] wr (DoesP w (k + 1) g gr) := by
  simp only [QOp.arr]
  have F0 : Hid (Fresh wr (wr.alloc (.cells #[.int .i64 0, .int .i64 x.a, .int .i64 x.s, .int .i64 x.t, .int .i64 x.n, .int .i64 x.d, .int .i64 x.k, .int .i64 x.x, .bool an, .int .i64 n] 50))) := Lib.hid ((Keep.refl _ _).alloc _)
  have B0 := Lib.hid (Blk.new wr 50 #[.int .i64 0, .int .i64 x.a, .int .i64 x.s, .int .i64 x.t, .int .i64 x.n, .int .i64 x.d, .int .i64 x.k, .int .i64 x.x, .bool an, .int .i64 n])
  have H := Lib.hid h
  have hfew := h.few
  have hL : L.length ≤ 1000 := by rw [h.pl.length_eq]; omega
  have hB : B.length ≤ 1000 := by rw [h.pm.length_eq]; omega
  have NF := Lib.hid (show ¬ foot g v1 v2 wr.heap.size from fun hf => by have := h.p.q.q.lt _ hf; omega)
  clear h
  go_enter Try.func27, Try.ntmps27
  go_wp2_with fail
  obtain ⟨w0, hw0⟩ : ∃ w0, wr.alloc (.cells #[.int .i64 0, .int .i64 x.a, .int .i64 x.s, .int .i64 x.t, .int .i64 x.n, .int .i64 x.d, .int .i64 x.k, .int .i64 x.x, .bool an, .int .i64 n] 50) = w0 := ⟨_, rfl⟩
  rw [hw0] at F0 B0 ⊢
  clear hw0
  have H0 := Lib.hid (H.out.fresh F0.out)
  have cB := B0.out.cell
  clear H
  by_cases hok : okE x = true
  · have hx := of_decide_eq_true hok
    have P1 := Lib.hid (put_any g v1 v2 l m x an w0 H0.out.p.q.q (by omega) (by omega) hx)
    have P2 : Hid (∀ (w3 : World) (v1' v2' : Value), P0 w g v1' v2' (putL l m x an) (putB l m x an) gr u1 u2 L B w3 → Calls Try.prog 43 #[.pointer (some ⟨gr, 0, none⟩), x.msg an] w3 (RPutP gr u1 u2 l m x an w3)) := Lib.hid fun w3 v1' v2' hp => rput_any gr u1 u2 L B l m x an w3 hp.r H0.out.p.q.q.s1 H0.out.p.q.q.s2 H0.out.pl H0.out.pm (by omega) (by omega) hx
    have hpl := put_len l m x an
    have OKN := Lib.hid (put_ok (m := m) an H0.out.ok hx.1)
    unfold Ev.msg at P1 P2
    have LEN := Lib.hid (show (putL l m x an).length ≤ k + 1 ∧ (putB l m x an).length ≤ k + 1 by omega)
    have FIN : Hid (∀ (w4 : World) (v1' v2' u1' u2' : Value) (L' B' : List Ev), L'.Perm (putL l m x an) → B'.Perm (putB l m x an) → P0 w g v1' v2' (putL l m x an) (putB l m x an) gr u1' u2' L' B' w4 → DoesP w (k + 1) g gr (.returned (.bool true)) w4) := Lib.hid fun w4 v1' v2' u1' u2' L' B' hl hb hp => ⟨rfl, v1', v2', _, _, u1', u2', L', B', hp, hl, hb, OKN.out, LEN.out⟩
    obtain ⟨mt, hmt⟩ : ∃ mt, putMet l m x an = mt := ⟨_, rfl⟩
    have HM := Lib.hid hmt
    rw [hmt] at P1
    clear hmt hpl hx hok
    go_wp2_with fail
    refine P1.out.mono ?_
    rintro e w3 ⟨rfl, v1', v2', q3, t3⟩
    have H3 := Lib.hid (H0.out.p.nextQ q3 t3)
    have B3 := Lib.hid (B0.out.keep t3.keep NF.out)
    have c3 := B3.out.cell
    clear q3 t3 cB
    go_wp2_with fail
    refine (P2.out _ _ _ H3.out).mono ?_
    rintro e w4 ⟨he, u1', u2', L', B', r4, pl4, pm4, t4⟩
    rw [HM.out] at he
    obtain rfl := he
    have FF := Lib.hid (FIN.out _ _ _ _ _ _ _ pl4 pm4 (H3.out.nextR r4 t4))
    clear r4 pl4 pm4 t4 c3
    go_wp2_with fail
    go_ret
    exact FF.out
  · have hx : x.a < 0 ∨ 1073741824 < x.a := by
      have : ¬ (0 ≤ x.a ∧ x.a ≤ 1073741824) := fun hh => hok (decide_eq_true hh)
      omega
    have P1 := Lib.hid (fun W => put_out g x an W hx)
    have P2 := Lib.hid (fun W => rput_out gr x an W hx)
    unfold Ev.msg at P1 P2
    clear hx hok
    go_wp2_with fail
    refine (P1.out _).mono ?_
    rintro e w3 ⟨rfl, f3⟩
    have F3 := Lib.hid f3
    have B3 := Lib.hid (f3.blk_ B0.out)
    have c3 := B3.out.cell
    clear f3 cB
    go_wp2_with fail
    refine (P2.out _).mono ?_
    rintro e w4 ⟨rfl, f4⟩
    have F4 := Lib.hid (F3.out.step f4 (fun _ _ h => h))
    clear f4 c3
    go_wp2_with fail
    go_ret
    exact ⟨rfl, _, _, _, _, _, _, _, _, (H0.out.fresh F4.out).more⟩
end Go.Proofs.Ytecobebndjnhnaa
