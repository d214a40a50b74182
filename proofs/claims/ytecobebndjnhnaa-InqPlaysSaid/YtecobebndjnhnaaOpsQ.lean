/-
  The laws' calls in a list; a queue behind some of them; two queues that are alike.
-/
import Derived.Test.YtecobebndjnhnaaTwo
import Derived.Test.YtecobebndjnhnaaBatch
import Derived.Test.YtecobebndjnhnaaEvsE
namespace Go.Proofs.Ytecobebndjnhnaa
open Go.RowKit Go.ChangeShapes Go.WideShapes Go.ChangeAt
attribute [local go_sem ↓] Go.wp_at_zero Go.wp_at_succ

structure QOp where
  ask : Int
  m : Msg
  n : Int
def QOp.arr (o : QOp) : Array Value := #[.int .i64 o.ask, .int .i64 o.m.1.a, .int .i64 o.m.1.s, .int .i64 o.m.1.t, .int .i64 o.m.1.n, .int .i64 o.m.1.d, .int .i64 o.m.1.k, .int .i64 o.m.1.x, .bool o.m.2, .int .i64 o.n]
/-- calls where they lie -/
def Ops (W : World) (A : Option Addr) (os : List QOp) : Prop := ∀ (i : Nat) (o : QOp), os[i]? = some o → ∃ b off, A = some ⟨b, off, none⟩ ∧ b < W.heap.size ∧ ∀ j u, o.arr[j]? = some u → W.cell? ⟨b, off + i * 10 + j, none⟩ = some u
theorem Ops.fresh {w w' : World} {A : Option Addr} {os : List QOp} (h : Ops w A os) (f : Fresh w w') : Ops w' A os := fun i o ho => by
  obtain ⟨b, off, e, lt, hh⟩ := h i o ho
  exact ⟨b, off, e, Nat.lt_of_lt_of_le lt f.size, fun j u hu => f.cell_ (hh j u hu)⟩
theorem ops_arg {H : Type} {enc : TypeId × Value → H} {W : World} {A : Option Addr} {rows : List (List Value)} (h : ∀ r ∈ rows, All2 (Leaf enc Try.prog W) [3, 3, 3, 3, 3, 3, 3, 3, 4, 3] r) (ha : SliceAt W A 10 rows) : ∃ os : List QOp, os.length = rows.length ∧ Ops W A os := by
  obtain ⟨os, hl, _⟩ := decode (fun o : QOp => o.arr.toList) (fun _ => True) (fun r h => by
    obtain ⟨q, l, e, _, h⟩ := all2_int Try.underlying3 h
    obtain ⟨a, l0, e0, _, h0⟩ := all2_int Try.underlying3 h
    obtain ⟨s, l1, e1, _, h1⟩ := all2_int Try.underlying3 h0
    obtain ⟨t, l2, e2, _, h2⟩ := all2_int Try.underlying3 h1
    obtain ⟨n, l3, e3, _, h3⟩ := all2_int Try.underlying3 h2
    obtain ⟨d, l4, e4, _, h4⟩ := all2_int Try.underlying3 h3
    obtain ⟨k, l5, e5, _, h5⟩ := all2_int Try.underlying3 h4
    obtain ⟨x, l6, e6, _, h6⟩ := all2_int Try.underlying3 h5
    obtain ⟨b, l7, e7, h7⟩ := all2_bool Try.underlying4 h6
    obtain ⟨z, l8, e8, _, h8⟩ := all2_int Try.underlying3 h7
    have := all2_nil h8
    subst this e8 e7 e6 e5 e4 e3 e2 e1 e0 e
    exact ⟨⟨q, (⟨a, s, t, n, d, k, x⟩, b), z⟩, rfl, trivial⟩) rows h
  subst hl
  refine ⟨os, by simp, fun i o ho => ?_⟩
  obtain ⟨b, off, rfl, lt, hc⟩ := ha i (by simpa using (List.getElem?_eq_some_iff.1 ho).1)
  refine ⟨b, off, rfl, lt, fun j u hu => hc j u ?_⟩
  rw [List.getD_eq_getElem?_getD, List.getElem?_map, ho]
  rw [← Array.getElem?_toList] at hu
  exact hu

/-- Drop at a queue -/
theorem AQ.drop {w wr : World} {g : Nat} {v1 v2 : Value} {l m : List Ev} (h : AQ w g v1 v2 l m wr) (b0 : Int) (hl : l.length ≤ 100000) :
    Calls Try.prog 20 #[.pointer (some ⟨g, 0, none⟩), .int .i64 b0] wr fun e w' => ∃ v' v1', e = .returned v' ∧ OwnS w' 25 7 v' (l.filter (fun y => decide (y.a < b0))).length (cells (l.filter (fun y => decide (y.a < b0)))) ∧ AQ w g v1' v2 (l.drop (l.filter (fun y => decide (y.a < b0))).length) m w' ∧ ∀ k, v'.ownBlock = some k → wr.heap.size ≤ k :=
  (drop_any g v1 v2 l m b0 wr h.q hl).mono fun _ _ ⟨v', v1', h1, h2, h3, h4, h5⟩ => ⟨v', v1', h1, h2, h.next h3 h4, h5⟩
theorem QIs.drop {l m : List Ev} {d : Ev → Int} (h : QIs l m d) (n : Nat) : ∃ d', QIs (l.drop n) m d' := by
  refine ⟨fun x => (cnt (l.drop n) x : Int) - cnt m x, List.Pairwise.sublist (List.drop_sublist _ _) h.s1, h.s2, fun x => ?_, fun x => ?_⟩
  · have h1 := h.c1 x
    have h2 := h.c2 x
    have h3 : cnt (l.drop n) x ≤ cnt l x := (List.drop_sublist n l).countP_le
    omega
  · have h1 := h.c1 x
    have h2 := h.c2 x
    have h3 : cnt (l.drop n) x ≤ cnt l x := (List.drop_sublist n l).countP_le
    omega

/-- what is gone through, of both -/
theorem alike_any (ga : Nat) (a1 a2 : Value) (gb : Nat) (b1 b2 : Value) (l m : List Ev) (w : World) (ha : SQ w ga a1 a2 l m) (hb : SQ w gb b1 b2 l m) (hl : l.length ≤ 300) (hm : m.length ≤ 300) :
    Calls Try.prog 22 #[.pointer (some ⟨ga, 0, none⟩), .pointer (some ⟨gb, 0, none⟩)] w fun e w' => e = .returned (.bool true) ∧ Fresh w w' := by
  have HA := Lib.hid ha
  have HB := Lib.hid hb
  clear ha hb
  go_enter Try.func22, Try.ntmps22
  go_wp2_with fail
  refine (all_any ga a1 a2 l m w HA.out (by omega)).mono ?_
  rintro e w1 ⟨b1', v1', rfl, k1, o1, f1⟩
  have F1 := Lib.hid f1
  have HL := Lib.hid (listed_any b1' v1' l w1 k1 o1 hl)
  clear f1 k1 o1
  go_wp2_with fail
  refine HL.out.mono ?_
  rintro e w2 ⟨v2', rfl, o2, f2, n2⟩
  have F2 := Lib.hid (F1.out.step f2 (fun _ _ h => h))
  have O2 := Lib.hid o2.evs
  clear f2 o2 n2 HL
  go_wp2_with fail
  refine (all_any gb b1 b2 l m w2 (HB.out.fresh F2.out) (by omega)).mono ?_
  rintro e w3 ⟨b3, v3, rfl, k3, o3, f3⟩
  have F3 := Lib.hid (F2.out.step f3 (fun _ _ h => h))
  have O3 := Lib.hid (O2.out.fresh f3)
  have HL := Lib.hid (listed_any b3 v3 l w3 k3 o3 hl)
  clear f3 k3 o3 O2
  go_wp2_with fail
  refine HL.out.mono ?_
  rintro e w4 ⟨v4, rfl, o4, f4, n4⟩
  have F4 := Lib.hid (F3.out.step f4 (fun _ _ h => h))
  have O4 := Lib.hid (O3.out.fresh f4)
  have HE := Lib.hid (events_any v2' v4 l l w4 (O3.out.fresh f4) o4.evs (by omega) (by omega))
  have e1 : decide (l = l) = true := decide_eq_true rfl
  rw [e1] at HE
  clear f4 o4 n4 O3 O4 HL e1
  go_wp2_with fail
  refine HE.out.mono ?_
  rintro e w5 ⟨rfl, f5⟩
  have F5 := Lib.hid (F4.out.step f5 (fun _ _ h => h))
  clear f5 HE
  go_wp2_with fail
  refine (antis_any ga a1 a2 l m w5 (HA.out.fresh F5.out) (by omega)).mono ?_
  rintro e w6 ⟨b6, v6, rfl, k6, o6, f6⟩
  have F6 := Lib.hid (F5.out.step f6 (fun _ _ h => h))
  have HL := Lib.hid (listed_any b6 v6 m w6 k6 o6 hm)
  clear f6 k6 o6
  go_wp2_with fail
  refine HL.out.mono ?_
  rintro e w7 ⟨v7, rfl, o7, f7, n7⟩
  have F7 := Lib.hid (F6.out.step f7 (fun _ _ h => h))
  have O7 := Lib.hid o7.evs
  clear f7 o7 n7 HL
  go_wp2_with fail
  refine (antis_any gb b1 b2 l m w7 (HB.out.fresh F7.out) (by omega)).mono ?_
  rintro e w8 ⟨b8, v8, rfl, k8, o8, f8⟩
  have F8 := Lib.hid (F7.out.step f8 (fun _ _ h => h))
  have O8 := Lib.hid (O7.out.fresh f8)
  have HL := Lib.hid (listed_any b8 v8 m w8 k8 o8 hm)
  clear f8 k8 o8 O7
  go_wp2_with fail
  refine HL.out.mono ?_
  rintro e w9 ⟨v9, rfl, o9, f9, n9⟩
  have F9 := Lib.hid (F8.out.step f9 (fun _ _ h => h))
  have HE := Lib.hid (events_any v7 v9 m m w9 (O8.out.fresh f9) o9.evs (by omega) (by omega))
  have e1 : decide (m = m) = true := decide_eq_true rfl
  rw [e1] at HE
  clear f9 o9 n9 O8 HL e1
  go_wp2_with fail
  refine HE.out.mono ?_
  rintro e w10 ⟨rfl, f10⟩
  have F10 := Lib.hid (F9.out.step f10 (fun _ _ h => h))
  clear f10 HE
  go_wp2_with fail
  go_ret
  exact ⟨rfl, F10.out⟩

/-- a copy beside -/
theorem A2.copied {w w1 w2 : World} {g g' : Nat} {v1 v2 v1' v2' : Value} {l m : List Ev} (h : AQ w g v1 v2 l m w1) (hs : SQ w2 g' v1' v2' l m) (f : Fresh w1 w2) (hn : ∀ k, foot g' v1' v2' k → w1.heap.size ≤ k) : A2 w g v1 v2 l m g' v1' v2' l m w2 :=
  ⟨h.fresh f, ⟨hs, h.fr.step f (fun _ _ h => h), fun k hk => by have := hn k hk; have := h.fr.size; omega⟩, fun k hk hk' => by have := hn k hk'; have := h.q.lt k hk; omega⟩
def flip (x : Msg) : Msg := (x.1, !x.2)
theorem tot_flip (ms : List Msg) (e : Ev) : tot (ms.map flip) e = - tot ms e := by
  induction ms with
  | nil => rfl
  | cons x r ih =>
    simp only [List.map_cons, tot, ih, flip]
    by_cases hx : x.1 = e
    · by_cases ho : okE x.1 = true
      · cases hb : x.2 <;> simp_all [sg] <;> omega
      · simp_all
    · simp_all
def addD (d t : Ev → Int) : Ev → Int := fun e => d e + t e
theorem dmsg_add (d t : Ev → Int) (x : Msg) : dmsg (addD d t) x = addD d (dmsg t x) := by
  unfold dmsg addD dput
  split
  · funext y; simp only; omega
  · rfl
theorem QIs.snocD {l m : List Ev} {d : Ev → Int} {ms : List Msg} {q : Nat} {x : Msg} (h : QIs l m (addD d (tot (ms.take q)))) (hx : ms[q]? = some x) : QIs (stepL l m x) (stepB l m x) (addD d (tot (ms.take (q + 1)))) := by
  rw [List.take_add_one, hx, Option.toList_some, tot_snoc, ← dmsg_add]
  exact h.step x
theorem tot_back (ms : List Msg) : tot (ms ++ ms.map flip) = fun _ => 0 := by
  funext e
  rw [tot_append, tot_flip]
  omega
end Go.Proofs.Ytecobebndjnhnaa
