/-
  The laws' arguments: calls in a list; what Upto tells of an ascending list; both rings behind some calls.
-/
import Derived.Test.YtfckbgifmajbjaaAwake
namespace Go.Proofs.Ytfckbgifmajbjaa
open Go.RowKit Go.ChangeShapes Go.WideShapes Go.ChangeAt

/-- calls where they lie -/
def Ops (W : World) (A : Option Addr) (os : List ROp) : Prop := ∀ (i : Nat) (o : ROp), os[i]? = some o → ∃ b off, A = some ⟨b, off, none⟩ ∧ b < W.heap.size ∧ ∀ j u, o.arr[j]? = some u → W.cell? ⟨b, off + i * 3 + j, none⟩ = some u
theorem Ops.fresh {w w' : World} {A : Option Addr} {os : List ROp} (h : Ops w A os) (f : Fresh w w') : Ops w' A os := fun i o ho => by
  obtain ⟨b, off, e, lt, hh⟩ := h i o ho
  exact ⟨b, off, e, Nat.lt_of_lt_of_le lt f.size, fun j u hu => f.cell_ (hh j u hu)⟩
theorem ops_arg {H : Type} {enc : TypeId × Value → H} {W : World} {A : Option Addr} {rows : List (List Value)} (h : ∀ r ∈ rows, All2 (Leaf enc Try.prog W) [3, 3, 3] r) (ha : SliceAt W A 3 rows) : ∃ os : List ROp, os.length = rows.length ∧ Ops W A os := by
  obtain ⟨os, hl, _⟩ := decode (fun o : ROp => [Value.int .i64 o.ask, .int .i64 o.t, .int .i64 o.x]) (fun _ => True) (fun r h => by
    obtain ⟨a, l0, e0, _, h0⟩ := all2_int Try.underlying3 h
    obtain ⟨b, l1, e1, _, h1⟩ := all2_int Try.underlying3 h0
    obtain ⟨c, l2, e2, _, h2⟩ := all2_int Try.underlying3 h1
    have := all2_nil h2
    subst this e2 e1 e0
    exact ⟨⟨a, b, c⟩, rfl, trivial⟩) rows h
  subst hl
  refine ⟨os, by simp, fun i o ho => ?_⟩
  obtain ⟨b, off, rfl, lt, hc⟩ := ha i (by simpa using (List.getElem?_eq_some_iff.1 ho).1)
  refine ⟨b, off, rfl, lt, fun j u hu => hc j u ?_⟩
  rw [List.getD_eq_getElem?_getD, List.getElem?_map, ho]
  rw [← Array.getElem?_toList] at hu
  exact hu

theorem ups_iff {L : List (Int × Int)} (h : Asc L) (t : Int) {q : Nat} (hq : q < L.length) {x : Int × Int} (hx : L[q]? = some x) : x.1 ≤ t ↔ q < ups L t := by
  have e : ups L t = lows L (t + 1) := by
    unfold ups lows
    apply List.countP_congr
    intro s _
    simp
    omega
  rw [e]
  have := lows_drop h (t + 1) hq hx
  omega
theorem upto_of {L : List (Int × Int)} (h : Asc L) {x y : Int × Int} (hx : L[0]? = some x) (hy : L[L.length - 1]? = some y) (t : Int) :
    (t < x.1 ∧ uptoL L t = none) ∨ (x.1 ≤ t ∧ ∃ u, uptoL L t = some u ∧ L[ups L t - 1]? = some u ∧ 0 < ups L t ∧ u.1 ≤ t ∧ x.1 ≤ u.1 ∧ u.1 ≤ y.1 ∧ (y.1 ≤ t → u = y)) := by
  have h0 := (List.getElem?_eq_some_iff.1 hx).1
  have hle : ups L t ≤ L.length := List.countP_le_length
  have i0 := ups_iff h t h0 hx
  have i1 := ups_iff h t (by omega) hy
  unfold uptoL
  by_cases hp : 0 < ups L t
  · rw [if_pos hp]
    obtain ⟨u, hu⟩ : ∃ u, L[ups L t - 1]? = some u := ⟨_, List.getElem?_eq_getElem (by omega)⟩
    have iu := ups_iff h t (by omega) hu
    refine .inr ⟨i0.2 hp, u, hu, hu, hp, iu.2 (by omega), h.le hx hu (by omega), h.le hu hy (by omega), fun hyt => ?_⟩
    have := i1.1 hyt
    rw [show ups L t - 1 = L.length - 1 by omega, hy] at hu
    injection hu with hu
    exact hu.symm
  · rw [if_neg hp]
    exact .inl ⟨by omega, rfl⟩
theorem ups_mono (L : List (Int × Int)) {s t : Int} (h : s ≤ t) : ups L s ≤ ups L t := by
  unfold ups
  apply List.countP_mono_left
  intro x _ hx
  have := of_decide_eq_true hx
  exact decide_eq_true (by omega)

/-- both rings behind some calls -/
structure RInv (w : World) (k g gs off cap gr : Nat) (v : Value) (room : Nat) (L : List (Int × Int)) (wr : World) : Prop where
  hd : Held g gs off cap room L wr
  rr : RRing wr gr v room L
  fr : Fresh w wr
  ng : w.heap.size ≤ g
  ns : w.heap.size ≤ gs
  nr : ∀ i, foot gr v i → w.heap.size ≤ i
  le : L.length ≤ k
theorem RInv.fresh {w wr w1 : World} {k g gs off cap gr room : Nat} {v : Value} {L : List (Int × Int)} (h : RInv w k g gs off cap gr v room L wr) (f : Fresh wr w1) : RInv w k g gs off cap gr v room L w1 :=
  ⟨h.hd.fresh f, h.rr.fresh f, h.fr.step f (fun _ _ h => h), h.ng, h.ns, h.nr, h.le⟩
theorem RInv.does {w wr w1 : World} {k g gs off cap gr room : Nat} {v : Value} {L : List (Int × Int)} {o : ROp} (h : RInv w k g gs off cap gr v room L wr) (p : DPost g gs off cap gr v room (doesL L room o) wr w1) :
    ∃ v' L', RInv w (k + 1) g gs off cap gr v' room L' w1 := by
  obtain ⟨p1, ⟨v', p2, p3⟩, p4⟩ := p
  refine ⟨v', _, p1, p2, h.fr.step p4 (fun i hi e => ?_), h.ng, h.ns, fun i hi => ?_, ?_⟩
  · rcases e with rfl | rfl | e
    · have := h.ng; omega
    · have := h.ns; omega
    · have := h.nr i e; omega
  · rcases p3 i hi with e | e
    · exact h.nr i e
    · have := h.fr.size; omega
  · have := doesL_len L room o
    have := h.le
    omega
theorem RInv.start {w w0 : World} {g gs off cap room : Nat} (h : Held g gs off cap room [] w0) (f : Fresh w w0) (n1 : w.heap.size ≤ g) (n2 : w.heap.size ≤ gs) : RInv w 0 g gs off cap w0.heap.size (.slice none 0 0) room [] (w0.alloc (.cells #[.int .i64 room, .slice none 0 0] 33)) := by
  have f0 : Fresh w0 (w0.alloc (.cells #[.int .i64 room, .slice none 0 0] 33)) := (Keep.refl _ _).alloc _
  refine ⟨h.fresh f0, ⟨Blk.new _ _ _, OwnS.nil _ _ _⟩, f.step f0 (fun _ _ h => h), n1, n2, ?_, by simp⟩
  rintro i (rfl | e)
  · exact f.size
  · simp [Value.ownBlock] at e
end Go.Proofs.Ytfckbgifmajbjaa
