/-
  The laws' calls where they lie; few.
-/
import Derived.Test.YtbplomnoapndnaaAnswers
namespace Go.Proofs.Ytbplomnoapndnaa
open Go.RowKit Go.ChangeShapes Go.WideShapes Go.ChangeAt
attribute [local go_sem ↓] Go.wp_at_zero Go.wp_at_succ

structure OOp where
  k : Int
  a : Int
  v : Value
  l : List Ev
/-- a call's own facts -/
structure OpIs (w : World) (o : OOp) : Prop where
  ev : EvAt w o.v o.l
  len : o.l.length ≤ 9223372036854775807
theorem OpIs.fresh {w w' : World} {o : OOp} (h : OpIs w o) (f : Fresh w w') : OpIs w' o := ⟨h.ev.fresh f, h.len⟩
/-- calls where they lie -/
def Ops (W : World) (A : Option Addr) (os : List OOp) : Prop := ∀ (i : Nat) (o : OOp), os[i]? = some o → ∃ b off, A = some ⟨b, off, none⟩ ∧ b < W.heap.size ∧ (W.cell? ⟨b, off + i * 3, none⟩ = some (.int .i64 o.k) ∧ W.cell? ⟨b, off + i * 3 + 1, none⟩ = some (.int .i64 o.a) ∧ W.cell? ⟨b, off + i * 3 + 2, none⟩ = some o.v) ∧ OpIs W o
theorem Ops.fresh {w w' : World} {A : Option Addr} {os : List OOp} (h : Ops w A os) (f : Fresh w w') : Ops w' A os := fun i o ho => by
  obtain ⟨b, off, e, lt, ⟨h1, h2, h3⟩, h4⟩ := h i o ho
  exact ⟨b, off, e, Nat.lt_of_lt_of_le lt f.size, ⟨f.cell_ h1, f.cell_ h2, f.cell_ h3⟩, h4.fresh f⟩
theorem opIs_arg {H : Type} {enc : TypeId × Value → H} {W : World} {rows : List (List Value)} (h : ∀ r ∈ rows, All2 (Leaf enc Try.prog W) [3, 3, 28] r) : ∃ os : List OOp, os.length = rows.length ∧ ∀ (i : Nat) (r : List Value), rows[i]? = some r → ∃ o : OOp, os[i]? = some o ∧ r = [.int .i64 o.k, .int .i64 o.a, o.v] ∧ OpIs W o := by
  induction rows with
  | nil => exact ⟨[], rfl, by simp⟩
  | cons r rows ih =>
    obtain ⟨os, hl, ho⟩ := ih (fun r hr => h r (by simp [hr]))
    obtain ⟨k, l0, e0, _, h0⟩ := all2_int Try.underlying3 (h r (by simp))
    obtain ⟨a, l1, e1, _, h1⟩ := all2_int Try.underlying3 h0
    obtain ⟨v, l4, e4, h4, h5⟩ := all2_cons h1
    have e5 := all2_nil h5
    obtain ⟨A, n, cap, rs, e6, hn, hc, hm, hr, hat⟩ := leaf_slice (n := 6) Try.underlying28 (by kernel_rfl) (by kernel_rfl) (by rw [show Try.prog.cellsOf 44 = 7 by kernel_rfl]; decide) h4
    rw [show flat Try.prog 6 44 = [3, 3, 3, 3, 3, 3, 3] by kernel_rfl] at hr
    rw [show Try.prog.cellsOf 44 = 7 by kernel_rfl] at hat
    obtain ⟨es, hes, hev⟩ := evs_arg hr hat
    refine ⟨⟨k, a, v, es⟩ :: os, by simp [hl], ?_⟩
    intro i r' hi
    cases i with
    | zero =>
      simp at hi
      subst hi e5 e6 e4 e1 e0
      refine ⟨_, rfl, rfl, ⟨A, cap, by rw [hes, hn], hev⟩, ?_⟩
      unfold maxLen at hm
      simp only
      omega
    | succ i => exact ho i r' (by simpa using hi)
theorem ops_arg {H : Type} {enc : TypeId × Value → H} {W : World} {A : Option Addr} {rows : List (List Value)} (h : ∀ r ∈ rows, All2 (Leaf enc Try.prog W) [3, 3, 28] r) (ha : SliceAt W A 3 rows) : ∃ os : List OOp, os.length = rows.length ∧ Ops W A os := by
  obtain ⟨os, hl, ho⟩ := opIs_arg h
  refine ⟨os, hl, fun i o hi => ?_⟩
  have hlt := (List.getElem?_eq_some_iff.1 hi).1
  obtain ⟨r, hr⟩ : ∃ r, rows[i]? = some r := ⟨_, List.getElem?_eq_getElem (by omega)⟩
  obtain ⟨o', h1, h2, h3⟩ := ho i r hr
  rw [hi] at h1
  injection h1 with h1
  subst h1
  obtain ⟨b, off, rfl, lt, hc⟩ := ha i (by omega)
  have e : rows.getD i [] = [.int .i64 o.k, .int .i64 o.a, o.v] := by rw [List.getD_eq_getElem?_getD, hr, Option.getD_some, h2]
  refine ⟨b, off, rfl, lt, ⟨?_, hc 1 _ (by rw [e]; rfl), hc 2 _ (by rw [e]; rfl)⟩, h3⟩
  have := hc 0 (.int .i64 o.k) (by rw [e]; rfl)
  simpa using this
def badB (o : OOp) : Bool := decide (20 < o.l.length) || (decide (549755813888 < o.a) || decide (o.a < -549755813888))
def fewB (os : List OOp) : Bool := !os.any badB && decide (os.length ≤ 40)
theorem fewB_bad {os : List OOp} {i : Nat} {o : OOp} (h : os[i]? = some o) (hb : badB o = true) : fewB os = false := by
  unfold fewB
  rw [List.any_eq_true.2 ⟨o, List.mem_of_getElem? h, hb⟩]
  rfl
theorem fewB_end {os : List OOp} (h : ∀ (j : Nat) (o : OOp), os[j]? = some o → badB o = false) : fewB os = decide (os.length ≤ 40) := by
  unfold fewB
  rw [List.any_eq_false.2 (fun o ho => by
    obtain ⟨j, hj⟩ := List.mem_iff_getElem?.1 ho
    simp [h j o hj])]
  rfl
def FewP (os : List OOp) (w : World) (e : Ending) (w' : World) : Prop := e = .returned (.bool (fewB os)) ∧ Fresh w w'
theorem FewP.is {os : List OOp} {w w' : World} {b : Bool} (h : fewB os = b) (f : Fresh w w') : FewP os w (.returned (.bool b)) w' := by
  subst h
  exact ⟨rfl, f⟩
set_option maxHeartbeats 2000000 in
theorem few_any (A : Option Addr) (c : Nat) (os : List OOp) (w : World) (h : Ops w A os) (hn : os.length ≤ 9223372036854775807) : Calls Try.prog 12 #[.slice A os.length c] w (FewP os w) := by
  have H := Lib.hid h
  clear h
  go_enter Try.func12, Try.ntmps12
  go_wp2_with fail
  go_loopg [3] os.length (fun gk u wr => ∃ q : Nat, q ≤ os.length ∧ gk = os.length - q ∧ u = .int .i64 q ∧ Fresh w wr ∧ Hid (∀ j o, j < q → os[j]? = some o → badB o = false))
  case atStart => exact ⟨0, by omega, rfl, rfl, Keep.refl _ _, Lib.hid (fun j o h => absurd h (by omega))⟩
  case round =>
    obtain ⟨q, hq, rfl, rfl, hF, HA⟩ := hrel
    have HFr := Lib.hid hF
    clear hF
    by_cases hlt : q < os.length
    · obtain ⟨o, ho⟩ : ∃ o, os[q]? = some o := ⟨_, List.getElem?_eq_getElem hlt⟩
      obtain ⟨b, off, rfl, lt, ⟨c0, c1, c2⟩, ⟨⟨Ao, co, hv, _⟩, hln⟩⟩ := H.out.fresh HFr.out q o ho
      rw [hv] at c2
      have NX : badB o = false → Hid (∀ j o, j < q + 1 → os[j]? = some o → badB o = false) := fun hb => Lib.hid fun j o' hj hj' => by
        by_cases hji : j = q
        · subst hji
          rw [ho] at hj'
          injection hj' with hj'
          subst hj'
          exact hb
        · exact HA.out j o' (by omega) hj'
      have BX : badB o = true → Hid (fewB os = false) := fun hb => Lib.hid (fewB_bad ho hb)
      have NX := Lib.hid NX
      have BX := Lib.hid BX
      clear ho hv
      by_cases h20 : 20 < o.l.length
      · have t : decide ((20 : Int) < (o.l.length : Int)) = true := decide_eq_true (by omega)
        have E := BX.out (by unfold badB; simp [h20])
        clear h20
        go_wp2_with fail
        go_ret
        exact FewP.is E.out HFr.out
      · have t : decide ((20 : Int) < (o.l.length : Int)) = false := decide_eq_false (by omega)
        by_cases h1 : 549755813888 < o.a
        · have t1 : decide ((549755813888 : Int) < o.a) = true := decide_eq_true h1
          have E := BX.out (by unfold badB; simp [h1])
          clear h20 h1
          go_wp2_with fail
          go_ret
          exact FewP.is E.out HFr.out
        · have t1 : decide ((549755813888 : Int) < o.a) = false := decide_eq_false h1
          by_cases h2 : o.a < -549755813888
          · have t2 : decide (o.a < -549755813888) = true := decide_eq_true h2
            have E := BX.out (by unfold badB; simp [h2])
            clear h20 h1 h2
            go_wp2_with fail
            go_ret
            exact FewP.is E.out HFr.out
          · have t2 : decide (o.a < -549755813888) = false := decide_eq_false h2
            have E := NX.out (by unfold badB; simp [h20, h1, h2])
            clear h20 h1 h2
            go_wp2_with fail
            go_roundg (os.length - (q + 1))
            case measure => omega
            case rel => exact ⟨q + 1, by omega, rfl, by go_num, HFr.out, E⟩
    · obtain rfl : q = os.length := by omega
      have E := Lib.hid (fewB_end (fun j o hj => HA.out j o (List.getElem?_eq_some_iff.1 hj).1 hj))
      by_cases h40 : os.length ≤ 40
      · have t : decide ((os.length : Int) ≤ 40) = true := decide_eq_true (by omega)
        have E2 := Lib.hid (E.out.trans (decide_eq_true h40))
        clear h40
        go_wp2_with fail
        go_ret
        exact FewP.is E2.out HFr.out
      · have t : decide ((os.length : Int) ≤ 40) = false := decide_eq_false (by omega)
        have E2 := Lib.hid (E.out.trans (decide_eq_false h40))
        clear h40
        go_wp2_with fail
        go_ret
        exact FewP.is E2.out HFr.out
end Go.Proofs.Ytbplomnoapndnaa
