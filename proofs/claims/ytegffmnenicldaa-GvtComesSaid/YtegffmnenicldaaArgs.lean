/-
  The worlds' laws: what is handed in (open times, picks); small.
-/
import Derived.Test.YtegffmnenicldaaDoes
namespace Go.Proofs.Ytegffmnenicldaa
open Go.RowKit
attribute [local go_sem ↓] Go.wp_at_zero Go.wp_at_succ run_min

/-- a list of numbers, where it lies -/
structure LA where
  A : Option Addr
  cap : Nat
  l : List Int
def LaIs (w : World) (o : LA) (r : List Value) : Prop := r = [.slice o.A o.l.length o.cap] ∧ IntsAt w o.A o.l ∧ o.l.length ≤ 9223372036854775807 ∧ o.cap ≤ 9223372036854775807
structure Las (W : World) (A : Option Addr) (os : List LA) : Prop where
  at_ : ∀ (i : Nat) (o : LA), os[i]? = some o → ∃ b off, A = some ⟨b, off, none⟩ ∧ b < W.heap.size ∧ W.cell? ⟨b, off + i, none⟩ = some (.slice o.A o.l.length o.cap) ∧ IntsAt W o.A o.l
  ok : ∀ o ∈ os, o.l.length ≤ 9223372036854775807 ∧ o.cap ≤ 9223372036854775807
theorem Las.fresh {w w' : World} {A : Option Addr} {os : List LA} (h : Las w A os) (f : Fresh w w') : Las w' A os := ⟨fun i o ho => by
  obtain ⟨b, off, e, lt, h1, h2⟩ := h.at_ i o ho
  exact ⟨b, off, e, Nat.lt_of_lt_of_le lt f.size, f.cell_ h1, h2.fresh f⟩, h.ok⟩
/-- a pick, where it lies -/
structure PA where
  do_ : Int
  a : Int
  b : Int
  A : Option Addr
  cap : Nat
  l : List Int
def PA.arr (o : PA) : Array Value := #[.int .i64 o.do_, .int .i64 o.a, .int .i64 o.b, .slice o.A o.l.length o.cap]
def PaIs (w : World) (o : PA) (r : List Value) : Prop := r = [.int .i64 o.do_, .int .i64 o.a, .int .i64 o.b, .slice o.A o.l.length o.cap] ∧ IntsAt w o.A o.l ∧ o.l.length ≤ 9223372036854775807 ∧ o.cap ≤ 9223372036854775807
structure Pas (W : World) (A : Option Addr) (os : List PA) : Prop where
  at_ : ∀ (i : Nat) (o : PA), os[i]? = some o → ∃ b off, A = some ⟨b, off, none⟩ ∧ b < W.heap.size ∧ (∀ j u, o.arr[j]? = some u → W.cell? ⟨b, off + i * 4 + j, none⟩ = some u) ∧ IntsAt W o.A o.l
  ok : ∀ o ∈ os, o.l.length ≤ 9223372036854775807 ∧ o.cap ≤ 9223372036854775807
theorem Pas.fresh {w w' : World} {A : Option Addr} {os : List PA} (h : Pas w A os) (f : Fresh w w') : Pas w' A os := ⟨fun i o ho => by
  obtain ⟨b, off, e, lt, h1, h2⟩ := h.at_ i o ho
  exact ⟨b, off, e, Nat.lt_of_lt_of_le lt f.size, fun j u hu => f.cell_ (h1 j u hu), h2.fresh f⟩, h.ok⟩
theorem la_leaf {H : Type} {enc : TypeId × Value → H} {W : World} {v : Value} (h : Leaf enc Try.prog W 28 v) : ∃ o : LA, v = .slice o.A o.l.length o.cap ∧ IntsAt W o.A o.l ∧ o.l.length ≤ 9223372036854775807 ∧ o.cap ≤ 9223372036854775807 := by
  obtain ⟨A, n, cap, rs, e6, hn, hc, hm, hr, hat⟩ := leaf_slice (n := 6) Try.underlying28 (by kernel_rfl) (by kernel_rfl) (by rw [show Try.prog.cellsOf 3 = 1 by kernel_rfl]; decide) h
  rw [show flat Try.prog 6 3 = [3] by kernel_rfl] at hr
  rw [show Try.prog.cellsOf 3 = 1 by kernel_rfl] at hat
  obtain ⟨l, hl2, _⟩ := decode (fun x : Int => [Value.int .i64 x]) (fun _ => True) (fun r h => by
    obtain ⟨x, l0, e0, _, h0⟩ := all2_int Try.underlying3 h
    have := all2_nil h0
    subst this e0
    exact ⟨x, rfl, trivial⟩) rs hr
  subst hl2
  have hm' : cap ≤ 9223372036854775807 := by unfold maxLen at hm; omega
  subst e6
  exact ⟨⟨A, cap, l⟩, by simp at hn; simp [hn], sliceAt_ints hat, by simp at hn; simp only; omega, hm'⟩
theorem las_arg {H : Type} {enc : TypeId × Value → H} {W : World} {A : Option Addr} {rows : List (List Value)} (h : ∀ r ∈ rows, All2 (Leaf enc Try.prog W) [28] r) (ha : SliceAt W A 1 rows) : ∃ os : List LA, os.length = rows.length ∧ Las W A os := by
  have hall : ∀ rows : List (List Value), (∀ r ∈ rows, All2 (Leaf enc Try.prog W) [28] r) → ∃ os : List LA, os.length = rows.length ∧ ∀ (i : Nat) o, os[i]? = some o → ∃ r : List Value, rows[i]? = some r ∧ LaIs W o r := by
    intro rows
    induction rows with
    | nil => intro _; exact ⟨[], rfl, by simp⟩
    | cons r rows ih =>
      intro h
      obtain ⟨os, hl, ho⟩ := ih (fun r hr => h r (by simp [hr]))
      obtain ⟨v, l4, e4, h4, h5⟩ := all2_cons (h r (by simp))
      have e5 := all2_nil h5
      obtain ⟨o, h6, h7⟩ := la_leaf h4
      refine ⟨o :: os, by simp [hl], fun i o' hi => ?_⟩
      cases i with
      | zero =>
        simp at hi
        subst hi e5 e4
        exact ⟨_, rfl, by rw [h6], h7⟩
      | succ i => exact ho i o' (by simpa using hi)
  obtain ⟨os, hl, hget⟩ := hall rows h
  refine ⟨os, hl, ⟨fun i o hi => ?_, fun o hm => ?_⟩⟩
  · obtain ⟨r, hr, h1, h2, _⟩ := hget i o hi
    obtain ⟨b, off, rfl, lt, hc⟩ := ha i (List.getElem?_eq_some_iff.1 hr).1
    refine ⟨b, off, rfl, lt, ?_, h2⟩
    have := hc 0 (.slice o.A o.l.length o.cap) (by rw [List.getD_eq_getElem?_getD, hr, Option.getD_some, h1]; rfl)
    simpa using this
  · obtain ⟨i, hi, rfl⟩ := List.mem_iff_getElem.1 hm
    obtain ⟨r, hr, h1, h2, h3⟩ := hget i _ (List.getElem?_eq_getElem hi)
    exact h3
theorem pas_arg {H : Type} {enc : TypeId × Value → H} {W : World} {A : Option Addr} {rows : List (List Value)} (h : ∀ r ∈ rows, All2 (Leaf enc Try.prog W) [3, 3, 3, 28] r) (ha : SliceAt W A 4 rows) : ∃ os : List PA, os.length = rows.length ∧ Pas W A os := by
  have hall : ∀ rows : List (List Value), (∀ r ∈ rows, All2 (Leaf enc Try.prog W) [3, 3, 3, 28] r) → ∃ os : List PA, os.length = rows.length ∧ ∀ (i : Nat) o, os[i]? = some o → ∃ r : List Value, rows[i]? = some r ∧ PaIs W o r := by
    intro rows
    induction rows with
    | nil => intro _; exact ⟨[], rfl, by simp⟩
    | cons r rows ih =>
      intro h
      obtain ⟨os, hl, ho⟩ := ih (fun r hr => h r (by simp [hr]))
      obtain ⟨d, l0, e0, _, h0⟩ := all2_int Try.underlying3 (h r (by simp))
      obtain ⟨a, l1, e1, _, h1⟩ := all2_int Try.underlying3 h0
      obtain ⟨b, l2, e2, _, h2⟩ := all2_int Try.underlying3 h1
      obtain ⟨v, l4, e4, h4, h5⟩ := all2_cons h2
      have e5 := all2_nil h5
      obtain ⟨o, h6, h7⟩ := la_leaf h4
      refine ⟨⟨d, a, b, o.A, o.cap, o.l⟩ :: os, by simp [hl], fun i o' hi => ?_⟩
      cases i with
      | zero =>
        simp at hi
        subst hi e5 e4 e2 e1 e0
        exact ⟨_, rfl, by rw [h6], h7⟩
      | succ i => exact ho i o' (by simpa using hi)
  obtain ⟨os, hl, hget⟩ := hall rows h
  refine ⟨os, hl, ⟨fun i o hi => ?_, fun o hm => ?_⟩⟩
  · obtain ⟨r, hr, h1, h2, _⟩ := hget i o hi
    obtain ⟨b, off, rfl, lt, hc⟩ := ha i (List.getElem?_eq_some_iff.1 hr).1
    refine ⟨b, off, rfl, lt, fun j u hu => hc j u ?_, h2⟩
    rw [List.getD_eq_getElem?_getD, hr, Option.getD_some, h1]
    rw [← Array.getElem?_toList] at hu
    exact hu
  · obtain ⟨i, hi, rfl⟩ := List.mem_iff_getElem.1 hm
    obtain ⟨r, hr, h1, h2, h3⟩ := hget i _ (List.getElem?_eq_getElem hi)
    exact h3

def smallB (os : List LA) (ps : List PA) : Bool := os.all (fun o => decide (o.l.length ≤ 20)) && ps.all (fun o => decide (o.l.length ≤ 5)) && decide (1 ≤ os.length ∧ os.length ≤ 8 ∧ ps.length ≤ 200)
set_option maxHeartbeats 2000000 in
theorem small_any (A B : Option Addr) (c d : Nat) (os : List LA) (ps : List PA) (w : World) (h : Las w A os) (hp : Pas w B ps) (hn : os.length ≤ 9223372036854775807) (hm : ps.length ≤ 9223372036854775807) : Calls Try.prog 18 #[.slice A os.length c, .slice B ps.length d] w fun e w' => e = .returned (.bool (smallB os ps)) ∧ Fresh w w' := by
  have H := Lib.hid h
  have HP := Lib.hid hp
  obtain ⟨r, hr⟩ : ∃ r, smallB os ps = r := ⟨_, rfl⟩
  have HR := Lib.hid hr
  rw [hr]
  clear h hp hr
  go_enter Try.func18, Try.ntmps18
  go_wp2_with fail
  go_loopg [5] os.length (fun gk u wr => ∃ q : Nat, q ≤ os.length ∧ gk = os.length - q ∧ u = .int .i64 q ∧ Fresh w wr ∧ Hid (∀ o ∈ os.take q, o.l.length ≤ 20))
  case atStart => exact ⟨0, by omega, rfl, rfl, Keep.refl _ _, Lib.hid (by simp)⟩
  case round =>
    obtain ⟨q, hq, rfl, rfl, hF, HA⟩ := hrel
    have HFr := Lib.hid hF
    clear hF
    by_cases hlt : q < os.length
    · obtain ⟨o, ho⟩ : ∃ o, os[q]? = some o := ⟨_, List.getElem?_eq_getElem hlt⟩
      obtain ⟨b, off, rfl, lt, c4, _⟩ := (H.out.fresh HFr.out).at_ q o ho
      have HO := Lib.hid (List.mem_of_getElem? ho)
      have hA2 : o.l.length ≤ 20 → ∀ o ∈ os.take (q + 1), o.l.length ≤ 20 := fun hl o' ho' => by
        rw [List.take_add_one, ho] at ho'
        rcases List.mem_append.1 ho' with h | h
        · exact HA.out o' h
        · simp at h; subst h; exact hl
      have HA2 := Lib.hid hA2
      clear ho hA2
      by_cases h20 : 20 < o.l.length
      · have t : decide ((20 : Int) < (o.l.length : Int)) = true := decide_eq_true (by omega)
        have t' : decide (20 < o.l.length) = true := decide_eq_true h20
        have hr0 : r = false := by
          rw [← HR.out]
          unfold smallB
          rw [List.all_eq_false.2 ⟨o, HO.out, by simp; omega⟩]
          rfl
        subst hr0
        clear h20
        go_wp2_with fail
        go_ret
        exact ⟨rfl, HFr.out⟩
      · have t : decide ((20 : Int) < (o.l.length : Int)) = false := decide_eq_false (by omega)
        have t' : decide (20 < o.l.length) = false := decide_eq_false h20
        have HA3 := Lib.hid (HA2.out (by omega))
        clear h20
        go_wp2_with fail
        go_roundg (os.length - (q + 1))
        case measure => omega
        case rel => exact ⟨q + 1, by omega, rfl, by go_num, HFr.out, HA3⟩
    · obtain rfl : q = os.length := by omega
      rw [List.take_length] at HA
      have HAll : Hid (os.all (fun o => decide (o.l.length ≤ 20)) = true) := Lib.hid (List.all_eq_true.2 fun o ho => decide_eq_true (HA.out o ho))
      go_wp2_with fail
      rename World => wB
      go_loopg [6] ps.length (fun gk u wr => ∃ q : Nat, q ≤ ps.length ∧ gk = ps.length - q ∧ u = .int .i64 q ∧ Fresh w wr ∧ Hid (∀ o ∈ ps.take q, o.l.length ≤ 5))
      case atStart => exact ⟨0, by omega, rfl, rfl, HFr.out, Lib.hid (by simp)⟩
      case round =>
        obtain ⟨q, hq, rfl, rfl, hF, HA⟩ := hrel
        have HF2 := Lib.hid hF
        clear hF
        by_cases hlt : q < ps.length
        · obtain ⟨o, ho⟩ : ∃ o, ps[q]? = some o := ⟨_, List.getElem?_eq_getElem hlt⟩
          obtain ⟨b, off, rfl, lt, hc4, _⟩ := (HP.out.fresh HF2.out).at_ q o ho
          have c4 := hc4 3 (.slice o.A o.l.length o.cap) rfl
          have HO := Lib.hid (List.mem_of_getElem? ho)
          have hA2 : o.l.length ≤ 5 → ∀ o ∈ ps.take (q + 1), o.l.length ≤ 5 := fun hl o' ho' => by
            rw [List.take_add_one, ho] at ho'
            rcases List.mem_append.1 ho' with h | h
            · exact HA.out o' h
            · simp at h; subst h; exact hl
          have HA2 := Lib.hid hA2
          clear ho hA2 hc4
          by_cases h20 : 5 < o.l.length
          · have t : decide ((5 : Int) < (o.l.length : Int)) = true := decide_eq_true (by omega)
            have t' : decide (5 < o.l.length) = true := decide_eq_true h20
            have hr0 : r = false := by
              rw [← HR.out]
              unfold smallB
              have : ps.all (fun o => decide (o.l.length ≤ 5)) = false := List.all_eq_false.2 ⟨o, HO.out, by simp; omega⟩
              rw [this]
              simp
            subst hr0
            clear h20
            go_wp2_with fail
            go_ret
            exact ⟨rfl, HF2.out⟩
          · have t : decide ((5 : Int) < (o.l.length : Int)) = false := decide_eq_false (by omega)
            have t' : decide (5 < o.l.length) = false := decide_eq_false h20
            have HA3 := Lib.hid (HA2.out (by omega))
            clear h20
            go_wp2_with fail
            go_roundg (ps.length - (q + 1))
            case measure => omega
            case rel => exact ⟨q + 1, by omega, rfl, by go_num, HF2.out, HA3⟩
        · obtain rfl : q = ps.length := by omega
          rw [List.take_length] at HA
          have hr1 : decide (1 ≤ os.length ∧ os.length ≤ 8 ∧ ps.length ≤ 200) = r := by
            rw [← HR.out]
            unfold smallB
            rw [HAll.out, List.all_eq_true.2 fun o ho => decide_eq_true (HA.out o ho)]
            simp
          have HR1 := Lib.hid hr1
          clear hr1
          by_cases k1 : 1 ≤ os.length
          · have t1 : decide ((1 : Int) ≤ (os.length : Int)) = true := decide_eq_true (by omega)
            have t1' : decide (1 ≤ os.length) = true := decide_eq_true k1
            by_cases k2 : os.length ≤ 8
            · have t2 : decide ((os.length : Int) ≤ 8) = true := decide_eq_true (by omega)
              have t2' : decide (os.length ≤ 8) = true := decide_eq_true k2
              by_cases k3 : ps.length ≤ 200
              · have t3 : decide ((ps.length : Int) ≤ 200) = true := decide_eq_true (by omega)
                have t3' : decide (ps.length ≤ 200) = true := decide_eq_true k3
                obtain rfl : r = true := by rw [← HR1.out]; exact decide_eq_true ⟨k1, k2, k3⟩
                clear k1 k2 k3
                go_wp2_with fail
                go_ret
                exact ⟨rfl, HF2.out⟩
              · have t3 : decide ((ps.length : Int) ≤ 200) = false := decide_eq_false (by omega)
                have t3' : decide (ps.length ≤ 200) = false := decide_eq_false k3
                obtain rfl : r = false := by rw [← HR1.out]; exact decide_eq_false (fun h => k3 h.2.2)
                clear k1 k2 k3
                go_wp2_with fail
                go_ret
                exact ⟨rfl, HF2.out⟩
            · have t2 : decide ((os.length : Int) ≤ 8) = false := decide_eq_false (by omega)
              have t2' : decide (os.length ≤ 8) = false := decide_eq_false k2
              obtain rfl : r = false := by rw [← HR1.out]; exact decide_eq_false (fun h => k2 h.2.1)
              clear k1 k2
              go_wp2_with fail
              go_ret
              exact ⟨rfl, HF2.out⟩
          · have t1 : decide ((1 : Int) ≤ (os.length : Int)) = false := decide_eq_false (by omega)
            have t1' : decide (1 ≤ os.length) = false := decide_eq_false k1
            obtain rfl : r = false := by rw [← HR1.out]; exact decide_eq_false (fun h => k1 h.1)
            clear k1
            go_wp2_with fail
            go_ret
            exact ⟨rfl, HF2.out⟩
end Go.Proofs.Ytegffmnenicldaa
