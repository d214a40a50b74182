/-
  inq.Queue: Puts.
-/
import Derived.Test.YtecobebndjnhnaaOpsQ
namespace Go.Proofs.Ytecobebndjnhnaa
open Go.RowKit
attribute [local go_sem ↓] Go.wp_at_zero Go.wp_at_succ

/-- a queue behind k messages of which n met -/
structure PI (w : World) (k n g : Nat) (v1 v2 : Value) (l m : List Ev) (wr : World) : Prop where
  aq : AQ w g v1 v2 l m wr
  is : ∃ d, QIs l m d
  len : l.length + m.length + 2 * n = k
  ok : ∀ x ∈ l, 0 ≤ x.a
theorem put_ok {l m : List Ev} {x : Ev} (an : Bool) (h : ∀ y ∈ l, 0 ≤ y.a) (hx : 0 ≤ x.a) : ∀ y ∈ putL l m x an, 0 ≤ y.a := by
  intro y hy
  cases an
  · cases hh : has m x
    · simp only [putL, hh, Bool.false_eq_true, if_false] at hy
      rcases List.mem_cons.1 ((ins_perm l x).mem_iff.1 hy) with rfl | h1
      · exact hx
      · exact h y h1
    · simp only [putL, hh, Bool.false_eq_true, if_false, if_true] at hy
      exact h y hy
  · cases hh : has l x
    · simp only [putL, hh, Bool.false_eq_true, if_false, if_true] at hy
      exact h y hy
    · simp only [putL, hh, if_true] at hy
      exact h y ((rem_perm hh).mem_iff.2 (List.mem_cons_of_mem _ hy))
def PutsP (w : World) (k g : Nat) (e : Ending) (w' : World) : Prop :=
  ∃ (n : Nat) (en : Int) (v1 v2 : Value) (l m : List Ev), e = .returned (.tuple #[.int .i64 n, .int .i64 en]) ∧ n ≤ k ∧ ((en = 10 ∧ Fresh w w') ∨ (en = 0 ∧ PI w k n g v1 v2 l m w'))
theorem put_len2 (l m : List Ev) (x : Ev) (an : Bool) : (putL l m x an).length + (putB l m x an).length + (if putMet l m x an then 2 else 0) = l.length + m.length + 1 := by
  cases an
  · cases hh : has m x
    · simp only [putL, putB, putMet, hh, Bool.false_eq_true, if_false]
      have := ins_len l x
      omega
    · simp only [putL, putB, putMet, hh, Bool.false_eq_true, if_false, if_true]
      have := rem_len hh
      omega
  · cases hh : has l x
    · simp only [putL, putB, putMet, hh, Bool.false_eq_true, if_false, if_true]
      have := ins_len m x
      omega
    · simp only [putL, putB, putMet, hh, if_true]
      have := rem_len hh
      omega
set_option maxHeartbeats 2000000 in
set_option maxRecDepth 100000 in
theorem puts_any (A : Option Addr) (c : Nat) (ms : List Msg) (w w0 : World) (g : Nat) (v1 v2 : Value) (hm : Msgs w A ms) (hn : ms.length ≤ 1000) (h0 : PI w 0 0 g v1 v2 [] [] w0) :
    Calls Try.prog 23 #[.pointer (some ⟨g, 0, none⟩), .slice A ms.length c] w0 (PutsP w ms.length g) := by
  have HM := Lib.hid hm
  have START := Lib.hid h0
  clear hm h0
  go_enter Try.func23, Try.ntmps23
  go_wp2_with fail
  go_loopg [6, 15] ms.length (fun gk u6 u15 wr => ∃ (q n : Nat) (v1 v2 : Value) (l m : List Ev), q ≤ ms.length ∧ gk = ms.length - q ∧ u6 = .int .i64 n ∧ u15 = .int .i64 q ∧ PI w q n g v1 v2 l m wr)
  case atStart => exact ⟨0, 0, _, _, _, _, by omega, rfl, rfl, rfl, START.out⟩
  case round =>
    clear START
    obtain ⟨q, n, v1, v2, l, m, hq, rfl, rfl, rfl, hI⟩ := hrel
    have HI := Lib.hid hI
    clear hI
    have hlen := HI.out.len
    by_cases hlt : q < ms.length
    · obtain ⟨o, ho⟩ : ∃ o, ms[q]? = some o := ⟨_, List.getElem?_eq_getElem hlt⟩
      obtain ⟨b0, off, rfl, lt0, hO⟩ := HM.out q o ho
      have fw := HI.out.aq.fr
      have lb0 : b0 < wr.heap.size := Nat.lt_of_lt_of_le lt0 fw.size
      have PP := Lib.hid (fun W (f : Fresh wr W) => (HI.out.aq.fresh f).msg o (by omega) (by omega))
      obtain ⟨d, hd⟩ := HI.out.is
      have HD := Lib.hid (hd.step o)
      obtain ⟨x, an⟩ := o
      have hpl := put_len2 l m x an
      have OK1 := Lib.hid (fun hx => put_ok (m := m) (x := x) an HI.out.ok hx)
      have OK2 := Lib.hid (fun (h : okE x = true) => (of_decide_eq_true h).1)
      have c0 := fw.cell_ (hO 0 (.int .i64 x.a) rfl)
      have c1 := fw.cell_ (hO 1 (.int .i64 x.s) rfl)
      have c2 := fw.cell_ (hO 2 (.int .i64 x.t) rfl)
      have c3 := fw.cell_ (hO 3 (.int .i64 x.n) rfl)
      have c4 := fw.cell_ (hO 4 (.int .i64 x.d) rfl)
      have c5 := fw.cell_ (hO 5 (.int .i64 x.k) rfl)
      have c6 := fw.cell_ (hO 6 (.int .i64 x.x) rfl)
      have c7 := fw.cell_ (hO 7 (.bool an) rfl)
      rw [Nat.add_zero] at c0
      unfold stepL stepB at PP HD
      simp only [Msg.arr] at PP HD
      clear hO ho lt0 hd
      cases hok : okE x
      · rw [hok] at PP
        simp only [Bool.false_and, Bool.false_eq_true, if_false] at PP
        clear hok hpl HD OK1 OK2
        have FW := Lib.hid fw
        clear fw
        go_wp2_with fail
        refine (PP.out _ ((Keep.refl _ _).alloc _)).mono ?_
        rintro e w3 ⟨rfl, v1', v2', a3⟩
        have F3 := Lib.hid a3.fr
        clear a3
        go_wp2_with fail
        go_ret2
        exact ⟨n, 10, v1, v2, l, m, rfl, by omega, .inl ⟨rfl, F3.out⟩⟩
      · rw [hok] at PP HD
        simp only [Bool.true_and, if_true] at PP HD
        have OK3 := Lib.hid (OK1.out (OK2.out hok))
        clear hok fw OK1 OK2
        obtain ⟨l', hl'⟩ : ∃ l', putL l m x an = l' := ⟨_, rfl⟩
        obtain ⟨m', hm'⟩ : ∃ m', putB l m x an = m' := ⟨_, rfl⟩
        rw [hl', hm'] at PP hpl HD
        rw [hl'] at OK3
        clear hl' hm'
        cases hmt : putMet l m x an
        · rw [hmt] at PP hpl
          simp only [Bool.false_eq_true, if_false] at hpl
          clear hmt
          have HP := Lib.hid hpl
          have HL := Lib.hid hlen
          clear hpl hlen
          go_wp2_with fail
          refine (PP.out _ ((Keep.refl _ _).alloc _)).mono ?_
          rintro e w3 ⟨rfl, v1', v2', a3⟩
          have NX : Hid (PI w (q + 1) n g v1' v2' l' m' w3) := Lib.hid ⟨a3, ⟨_, HD.out⟩, by have := HP.out; have := HL.out; omega, OK3.out⟩
          clear a3
          go_wp2_with fail
          go_roundg (ms.length - (q + 1))
          case measure => omega
          case rel => exact ⟨q + 1, n, _, _, _, _, by omega, rfl, rfl, by go_num, NX.out⟩
        · rw [hmt] at PP hpl
          simp only [if_true] at hpl
          clear hmt
          have hwn : IntKind.i64.wrap ((n : Int) + 1) = (n : Int) + 1 := IntWalk.i64_in _ (by omega)
          have HP := Lib.hid hpl
          have HL := Lib.hid hlen
          clear hpl hlen
          go_wp2_with fail
          refine (PP.out _ ((Keep.refl _ _).alloc _)).mono ?_
          rintro e w3 ⟨rfl, v1', v2', a3⟩
          have NX : Hid (PI w (q + 1) (n + 1) g v1' v2' l' m' w3) := Lib.hid ⟨a3, ⟨_, HD.out⟩, by have := HP.out; have := HL.out; omega, OK3.out⟩
          clear a3
          go_wp2_with fail
          go_roundg (ms.length - (q + 1))
          case measure => omega
          case rel => exact ⟨q + 1, n + 1, _, _, _, _, by omega, rfl, by go_num, by go_num, NX.out⟩
    · obtain rfl : q = ms.length := by omega
      have HL := Lib.hid hlen
      have hn : n ≤ ms.length := by omega
      clear hlen
      go_wp2_with fail
      go_ret2
      exact ⟨n, 0, v1, v2, l, m, rfl, hn, .inr ⟨rfl, HI.out⟩⟩
end Go.Proofs.Ytecobebndjnhnaa
