/-
  The laws' arguments: messages in a list; the queue behind some of them.
-/
import Derived.Test.YtecobebndjnhnaaMore
import Derived.Test.YtecobebndjnhnaaMulti
namespace Go.Proofs.Ytecobebndjnhnaa
open Go.RowKit Go.ChangeShapes Go.WideShapes Go.ChangeAt

abbrev Msg := Ev × Bool
def Msg.arr (x : Msg) : Array Value := #[.int .i64 x.1.a, .int .i64 x.1.s, .int .i64 x.1.t, .int .i64 x.1.n, .int .i64 x.1.d, .int .i64 x.1.k, .int .i64 x.1.x, .bool x.2]
/-- messages where they lie -/
def Msgs (W : World) (A : Option Addr) (ms : List Msg) : Prop := ∀ (i : Nat) (o : Msg), ms[i]? = some o → ∃ b off, A = some ⟨b, off, none⟩ ∧ b < W.heap.size ∧ ∀ j u, o.arr[j]? = some u → W.cell? ⟨b, off + i * 8 + j, none⟩ = some u
theorem Msgs.fresh {w w' : World} {A : Option Addr} {ms : List Msg} (h : Msgs w A ms) (f : Fresh w w') : Msgs w' A ms := fun i o ho => by
  obtain ⟨b, off, e, lt, hh⟩ := h i o ho
  exact ⟨b, off, e, Nat.lt_of_lt_of_le lt f.size, fun j u hu => f.cell_ (hh j u hu)⟩
theorem msgs_arg {H : Type} {enc : TypeId × Value → H} {W : World} {A : Option Addr} {rows : List (List Value)} (h : ∀ r ∈ rows, All2 (Leaf enc Try.prog W) [3, 3, 3, 3, 3, 3, 3, 4] r) (ha : SliceAt W A 8 rows) : ∃ ms : List Msg, ms.length = rows.length ∧ Msgs W A ms := by
  obtain ⟨os, hl, _⟩ := decode (fun o : Msg => o.arr.toList) (fun _ => True) (fun r h => by
    obtain ⟨a, l0, e0, _, h0⟩ := all2_int Try.underlying3 h
    obtain ⟨s, l1, e1, _, h1⟩ := all2_int Try.underlying3 h0
    obtain ⟨t, l2, e2, _, h2⟩ := all2_int Try.underlying3 h1
    obtain ⟨n, l3, e3, _, h3⟩ := all2_int Try.underlying3 h2
    obtain ⟨d, l4, e4, _, h4⟩ := all2_int Try.underlying3 h3
    obtain ⟨k, l5, e5, _, h5⟩ := all2_int Try.underlying3 h4
    obtain ⟨x, l6, e6, _, h6⟩ := all2_int Try.underlying3 h5
    obtain ⟨b, l7, e7, h7⟩ := all2_bool Try.underlying4 h6
    have := all2_nil h7
    subst this e7 e6 e5 e4 e3 e2 e1 e0
    exact ⟨(⟨a, s, t, n, d, k, x⟩, b), rfl, trivial⟩) rows h
  subst hl
  refine ⟨os, by simp, fun i o ho => ?_⟩
  obtain ⟨b, off, rfl, lt, hc⟩ := ha i (by simpa using (List.getElem?_eq_some_iff.1 ho).1)
  refine ⟨b, off, rfl, lt, fun j u hu => hc j u ?_⟩
  rw [List.getD_eq_getElem?_getD, List.getElem?_map, ho]
  rw [← Array.getElem?_toList] at hu
  exact hu
/-- may the message come? -/
def okE (x : Ev) : Bool := decide (0 ≤ x.a ∧ x.a ≤ 1073741824)
/-- what a message adds, if it may come -/
def dmsg (d : Ev → Int) (x : Msg) : Ev → Int := if okE x.1 then dput d x.1 x.2 else d
def stepL (l m : List Ev) (x : Msg) : List Ev := if okE x.1 then putL l m x.1 x.2 else l
def stepB (l m : List Ev) (x : Msg) : List Ev := if okE x.1 then putB l m x.1 x.2 else m
theorem QIs.step {l m : List Ev} {d : Ev → Int} (h : QIs l m d) (x : Msg) : QIs (stepL l m x) (stepB l m x) (dmsg d x) := by
  unfold stepL stepB dmsg
  cases okE x.1
  · exact h
  · exact h.put x.1 x.2
theorem step_len (l m : List Ev) (x : Msg) : (stepL l m x).length ≤ l.length + 1 ∧ (stepB l m x).length ≤ m.length + 1 := by
  unfold stepL stepB
  cases okE x.1
  · simp
  · have := put_len l m x.1 x.2
    exact this.2
/-- Put at whatever message -/
theorem AQ.msg {w wr : World} {g : Nat} {v1 v2 : Value} {l m : List Ev} (h : AQ w g v1 v2 l m wr) (x : Msg) (hl : l.length ≤ 100000) (hm : m.length ≤ 100000) :
    Calls Try.prog 14 #[.pointer (some ⟨g, 0, none⟩), .agg x.arr] wr fun e w' => e = .returned (.tuple #[.bool (okE x.1 && putMet l m x.1 x.2), .int .i64 (if okE x.1 then 0 else 10)]) ∧ ∃ v1' v2', AQ w g v1' v2' (stepL l m x) (stepB l m x) w' := by
  cases ho : okE x.1
  · unfold stepL stepB
    rw [ho]
    have : ¬ (0 ≤ x.1.a ∧ x.1.a ≤ 1073741824) := of_decide_eq_false ho
    exact (put_out g x.1 x.2 wr (by omega)).mono fun _ _ ⟨h1, h2⟩ => ⟨h1, _, _, h.fresh h2⟩
  · unfold stepL stepB
    rw [ho]
    exact (h.put x.1 x.2 hl hm (of_decide_eq_true ho)).mono fun _ _ ⟨h1, h2⟩ => ⟨by rw [h1]; rfl, h2⟩
end Go.Proofs.Ytecobebndjnhnaa
