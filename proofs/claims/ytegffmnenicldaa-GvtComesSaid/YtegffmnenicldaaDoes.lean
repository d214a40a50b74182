/-
  The law's calls: few, does.
-/
import Derived.Test.YtegffmnenicldaaRef4
namespace Go.Proofs.Ytegffmnenicldaa
open Go.RowKit Go.Maps Go.ChangeShapes Go.WideShapes Go.ChangeAt
attribute [local go_sem ↓] Go.wp_at_zero Go.wp_at_succ run_min

structure GOp where
  ask : Int
  a : Int
  b : Int
  c : Int
  A : Option Addr
  cap : Nat
  l : List Int
def GOp.arr (o : GOp) : Array Value := #[.int .i64 o.ask, .int .i64 o.a, .int .i64 o.b, .int .i64 o.c, .slice o.A o.l.length o.cap]
def OpIs (w : World) (o : GOp) (r : List Value) : Prop := r = [.int .i64 o.ask, .int .i64 o.a, .int .i64 o.b, .int .i64 o.c, .slice o.A o.l.length o.cap] ∧ IntsAt w o.A o.l ∧ (Lit.int .i64 o.a).wf = true ∧ o.l.length ≤ 9223372036854775807 ∧ o.cap ≤ 9223372036854775807

theorem sliceAt_ints {w : World} {A : Option Addr} {l : List Int} (h : SliceAt w A 1 (l.map fun x => [.int .i64 x])) : IntsAt w A l := fun i u hu => by
  have hi := (List.getElem?_eq_some_iff.1 hu).1
  obtain ⟨b, off, rfl, lt, hc⟩ := h i (by simpa using hi)
  refine ⟨b, off, rfl, lt, ?_⟩
  have := hc 0 (.int .i64 u) (by simp [List.getD_eq_getElem?_getD, hu])
  simpa using this
theorem opIs_arg {H : Type} {enc : TypeId × Value → H} {W : World} {rows : List (List Value)} (h : ∀ r ∈ rows, All2 (Leaf enc Try.prog W) [3, 3, 3, 3, 28] r) : ∃ os : List GOp, os.length = rows.length ∧ ∀ (i : Nat) (r : List Value), rows[i]? = some r → ∃ o : GOp, os[i]? = some o ∧ OpIs W o r := by
  induction rows with
  | nil => exact ⟨[], rfl, by simp⟩
  | cons r rows ih =>
    obtain ⟨os, hl, ho⟩ := ih (fun r hr => h r (by simp [hr]))
    obtain ⟨ask, l0, e0, _, h0⟩ := all2_int Try.underlying3 (h r (by simp))
    obtain ⟨a, l1, e1, wa, h1⟩ := all2_int Try.underlying3 h0
    obtain ⟨b, l2, e2, _, h2⟩ := all2_int Try.underlying3 h1
    obtain ⟨c, l3, e3, _, h3⟩ := all2_int Try.underlying3 h2
    obtain ⟨v, l4, e4, h4, h5⟩ := all2_cons h3
    have e5 := all2_nil h5
    obtain ⟨A, n, cap, rs, e6, hn, hc, hm, hr, hat⟩ := leaf_slice (n := 6) Try.underlying28 (by kernel_rfl) (by kernel_rfl) (by rw [show Try.prog.cellsOf 3 = 1 by kernel_rfl]; decide) h4
    rw [show flat Try.prog 6 3 = [3] by kernel_rfl] at hr
    rw [show Try.prog.cellsOf 3 = 1 by kernel_rfl] at hat
    obtain ⟨l, hl2, _⟩ := decode (fun x : Int => [Value.int .i64 x]) (fun _ => True) (fun r h => by
      obtain ⟨x, l0, e0, _, h0⟩ := all2_int Try.underlying3 h
      have := all2_nil h0
      subst this e0
      exact ⟨x, rfl, trivial⟩) rs hr
    subst hl2
    have hm' : cap ≤ 9223372036854775807 := by unfold maxLen at hm; omega
    refine ⟨⟨ask, a, b, c, A, cap, l⟩ :: os, by simp [hl], ?_⟩
    intro i r' hi
    cases i with
    | zero =>
      simp at hi
      subst hi e5 e6 e4 e3 e2 e1 e0
      exact ⟨_, rfl, by simp at hn; simp [hn], sliceAt_ints hat, wa, by simp at hn; simp only; omega, hm'⟩
    | succ i => exact ho i r' (by simpa using hi)
/-- an argument's call, where it lies -/
def OpAt (W : World) (b p : Nat) (o : GOp) : Prop := (∀ j u, o.arr[j]? = some u → W.cell? ⟨b, p + j, none⟩ = some u) ∧ IntsAt W o.A o.l
structure Ops (W : World) (A : Option Addr) (os : List GOp) : Prop where
  at_ : ∀ (i : Nat) (o : GOp), os[i]? = some o → ∃ b off, A = some ⟨b, off, none⟩ ∧ b < W.heap.size ∧ OpAt W b (off + i * 5) o
  ok : ∀ o ∈ os, (Lit.int .i64 o.a).wf = true ∧ o.l.length ≤ 9223372036854775807 ∧ o.cap ≤ 9223372036854775807
theorem OpAt.fresh {w w' : World} {b p : Nat} {o : GOp} (h : OpAt w b p o) (f : Fresh w w') : OpAt w' b p o := ⟨fun j u hu => f.cell_ (h.1 j u hu), h.2.fresh f⟩
theorem Ops.fresh {w w' : World} {A : Option Addr} {os : List GOp} (h : Ops w A os) (f : Fresh w w') : Ops w' A os := ⟨fun i o ho => by
  obtain ⟨b, off, e, lt, hh⟩ := h.at_ i o ho
  exact ⟨b, off, e, Nat.lt_of_lt_of_le lt f.size, hh.fresh f⟩, h.ok⟩
theorem ops_arg {H : Type} {enc : TypeId × Value → H} {W : World} {A : Option Addr} {rows : List (List Value)} (h : ∀ r ∈ rows, All2 (Leaf enc Try.prog W) [3, 3, 3, 3, 28] r) (ha : SliceAt W A 5 rows) : ∃ os : List GOp, os.length = rows.length ∧ Ops W A os := by
  obtain ⟨os, hl, ho⟩ := opIs_arg h
  have hget : ∀ (i : Nat) (o : GOp), os[i]? = some o → ∃ r : List Value, rows[i]? = some r ∧ OpIs W o r := fun i o hi => by
    have hlt := (List.getElem?_eq_some_iff.1 hi).1
    obtain ⟨r, hr⟩ : ∃ r, rows[i]? = some r := ⟨_, List.getElem?_eq_getElem (by omega)⟩
    obtain ⟨o', h1, h2⟩ := ho i r hr
    rw [hi] at h1
    injection h1 with h1
    subst h1
    exact ⟨r, hr, h2⟩
  refine ⟨os, hl, ⟨fun i o hi => ?_, fun o hm => ?_⟩⟩
  · obtain ⟨r, hr, h1, h2, _⟩ := hget i o hi
    obtain ⟨b, off, rfl, lt, hc⟩ := ha i (List.getElem?_eq_some_iff.1 hr).1
    refine ⟨b, off, rfl, lt, fun j u hu => hc j u ?_, h2⟩
    rw [List.getD_eq_getElem?_getD, hr, Option.getD_some, h1]
    rw [← Array.getElem?_toList] at hu
    exact hu
  · obtain ⟨i, hi, rfl⟩ := List.mem_iff_getElem.1 hm
    obtain ⟨r, hr, h1, h2, h3⟩ := hget i _ (List.getElem?_eq_getElem hi)
    exact h3

def fewB (os : List GOp) : Bool := os.all (fun o => decide (o.l.length ≤ 20)) && decide (os.length ≤ 60)
set_option maxHeartbeats 1000000 in
theorem few_any (A : Option Addr) (c : Nat) (os : List GOp) (w : World) (h : Ops w A os) (hn : os.length ≤ 9223372036854775807) : Calls Try.prog 10 #[.slice A os.length c] w fun e w' => e = .returned (.bool (fewB os)) ∧ Fresh w w' := by
  have H := Lib.hid h
  clear h
  have hcase : fewB os = false ∨ fewB os = true := by cases fewB os <;> simp
  rcases hcase with hf | hf
  · rw [hf]
    have HF := Lib.hid hf
    clear hf
    go_enter Try.func10, Try.ntmps10
    go_wp2_with fail
    go_loopg [3] os.length (fun gk u wr => ∃ q : Nat, q ≤ os.length ∧ gk = os.length - q ∧ u = .int .i64 q ∧ Fresh w wr ∧ Hid (∀ o ∈ os.take q, o.l.length ≤ 20))
    case atStart => exact ⟨0, by omega, rfl, rfl, Keep.refl _ _, Lib.hid (by simp)⟩
    case round =>
      obtain ⟨q, hq, rfl, rfl, hF, HA⟩ := hrel
      have HFr := Lib.hid hF
      clear hF
      by_cases hlt : q < os.length
      · obtain ⟨o, ho⟩ : ∃ o, os[q]? = some o := ⟨_, List.getElem?_eq_getElem hlt⟩
        obtain ⟨b, off, rfl, lt, hc⟩ := (H.out.fresh HFr.out).at_ q o ho
        have c4 := hc.1 4 (.slice o.A o.l.length o.cap) rfl
        have hA2 : o.l.length ≤ 20 → ∀ o ∈ os.take (q + 1), o.l.length ≤ 20 := fun hl o' ho' => by
          rw [List.take_add_one, ho] at ho'
          rcases List.mem_append.1 ho' with h | h
          · exact HA.out o' h
          · simp at h; subst h; exact hl
        have HA2 := Lib.hid hA2
        clear hc ho hA2
        by_cases h20 : 20 < o.l.length
        · have t : decide ((20 : Int) < (o.l.length : Int)) = true := decide_eq_true (by omega)
          have t' : decide (20 < o.l.length) = true := decide_eq_true h20
          go_wp2_with fail
          go_ret
          exact ⟨rfl, HFr.out⟩
        · have t : decide ((20 : Int) < (o.l.length : Int)) = false := decide_eq_false (by omega)
          have t' : decide (20 < o.l.length) = false := decide_eq_false h20
          have HA3 := Lib.hid (HA2.out (by omega))
          clear h20
          go_wp2_with fail
          go_roundg (os.length - (q + 1))
          case measure => omega
          case rel => exact ⟨q + 1, by omega, rfl, by go_num, HFr.out, HA3⟩
      · obtain rfl : q = os.length := by omega
        have hl : ¬ os.length ≤ 60 := by
          intro hl
          have h1 := HF.out
          have h2 := HA.out
          rw [List.take_length] at h2
          unfold fewB at h1
          rw [decide_eq_true hl, Bool.and_true] at h1
          rw [List.all_eq_true.2 (fun o ho => decide_eq_true (h2 o ho))] at h1
          cases h1
        have t : decide ((os.length : Int) ≤ 60) = false := decide_eq_false (by omega)
        have t' : decide (os.length ≤ 60) = false := decide_eq_false hl
        clear hl
        go_wp2_with fail
        go_ret
        exact ⟨rfl, HFr.out⟩
  · rw [hf]
    have hall : (∀ o ∈ os, o.l.length ≤ 20) ∧ os.length ≤ 60 := by
      unfold fewB at hf
      rw [Bool.and_eq_true, List.all_eq_true] at hf
      exact ⟨fun o ho => of_decide_eq_true (hf.1 o ho), of_decide_eq_true hf.2⟩
    have HA := Lib.hid hall.1
    have h60 := hall.2
    have t : decide ((os.length : Int) ≤ 60) = true := decide_eq_true (by omega)
    have t' : decide (os.length ≤ 60) = true := decide_eq_true h60
    clear hf hall
    go_enter Try.func10, Try.ntmps10
    go_wp2_with fail
    go_loopg [3] os.length (fun gk u wr => ∃ q : Nat, q ≤ os.length ∧ gk = os.length - q ∧ u = .int .i64 q ∧ Fresh w wr)
    case atStart => exact ⟨0, by omega, rfl, rfl, Keep.refl _ _⟩
    case round =>
      obtain ⟨q, hq, rfl, rfl, hF⟩ := hrel
      have HFr := Lib.hid hF
      clear hF
      by_cases hlt : q < os.length
      · obtain ⟨o, ho⟩ : ∃ o, os[q]? = some o := ⟨_, List.getElem?_eq_getElem hlt⟩
        obtain ⟨b, off, rfl, lt, hc⟩ := (H.out.fresh HFr.out).at_ q o ho
        have c4 := hc.1 4 (.slice o.A o.l.length o.cap) rfl
        have h20 := HA.out o (List.mem_of_getElem? ho)
        have t : decide ((20 : Int) < (o.l.length : Int)) = false := decide_eq_false (by omega)
        have t2 : decide (20 < o.l.length) = false := decide_eq_false (by omega)
        clear hc ho
        go_wp2_with fail
        go_roundg (os.length - (q + 1))
        case measure => omega
        case rel => exact ⟨q + 1, by omega, rfl, by go_num, HFr.out⟩
      · obtain rfl : q = os.length := by omega
        go_wp2_with fail
        go_ret
        exact ⟨rfl, HFr.out⟩
end Go.Proofs.Ytegffmnenicldaa
