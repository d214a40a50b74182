/-
  code.Sends, code.Check.
-/
import Derived.Test.YtkhlldmnnakoaaaDoorTabs
namespace Go.Proofs.YtkhlldmnnakoaaaDoor
open Go.RowKit
attribute [local go_sem ↓] Go.wp_at_zero Go.wp_at_succ

theorem Prg.five {w : World} {A : Option Addr} {P : List Ins} (h : Prg w A P) {q : Nat} {op a b c d : Int} (hx : P[q]? = some ⟨op, a, b, c, d⟩) : ∃ g off, A = some ⟨g, off, none⟩ ∧ g < w.heap.size ∧ w.cell? ⟨g, off + q * 5, none⟩ = some (.int .i64 op) ∧ w.cell? ⟨g, off + q * 5 + 1, none⟩ = some (.int .i64 a) ∧ w.cell? ⟨g, off + q * 5 + 2, none⟩ = some (.int .i64 b) ∧ w.cell? ⟨g, off + q * 5 + 3, none⟩ = some (.int .i64 c) ∧ w.cell? ⟨g, off + q * 5 + 4, none⟩ = some (.int .i64 d) := by
  obtain ⟨g, off, hA, lt, hc⟩ := h q _ hx
  exact ⟨g, off, hA, lt, by have := hc 0 _ rfl; simpa using this, hc 1 _ rfl, hc 2 _ rfl, hc 3 _ rfl, hc 4 _ rfl⟩
def sendsP : List Ins → Nat
  | [] => 0
  | x :: p => (if x.op = 14 then 1 else 0) + sendsP p
theorem sendsP_app (p q : List Ins) : sendsP (p ++ q) = sendsP p + sendsP q := by
  induction p with
  | nil => simp [sendsP]
  | cons x p ih => simp only [List.cons_append, sendsP, ih]; omega
theorem sendsP_succ {P : List Ins} {q : Nat} {x : Ins} (h : P[q]? = some x) : sendsP (P.take (q + 1)) = sendsP (P.take q) + (if x.op = 14 then 1 else 0) := by
  rw [List.take_add_one, h, Option.toList_some, sendsP_app]
  simp [sendsP]
theorem sendsP_le (P : List Ins) : sendsP P ≤ P.length := by
  induction P with
  | nil => simp [sendsP]
  | cons x p ih => simp only [sendsP, List.length_cons]; split <;> omega
set_option maxHeartbeats 1000000 in
theorem sends_any (A : Option Addr) (P : List Ins) (c : Nat) (w : World) (h : Prg w A P) (hn : P.length ≤ 1000000) : Calls Tryd.prog 20 #[.slice A P.length c] w fun e w' => e = .returned (.int .i64 (sendsP P : Nat)) ∧ Fresh w w' := by
  have HP := Lib.hid h
  clear h
  go_enter Tryd.func20, Tryd.ntmps20
  go_wp2_with fail
  go_loopg [3, 8] P.length (fun gk a u wr => ∃ q : Nat, q ≤ P.length ∧ gk = P.length - q ∧ a = .int .i64 (sendsP (P.take q) : Nat) ∧ u = .int .i64 q ∧ Fresh w wr)
  case atStart => exact ⟨0, by omega, rfl, rfl, rfl, Keep.refl _ _⟩
  case round =>
    obtain ⟨q, hq, rfl, rfl, rfl, hF⟩ := hrel
    have HF := Lib.hid hF
    by_cases hlt : q < P.length
    · obtain ⟨⟨op, a, b, c', d⟩, hx⟩ : ∃ x, P[q]? = some x := ⟨_, List.getElem?_eq_getElem hlt⟩
      obtain ⟨g, off, rfl, lt, c0, c1, c2, c3, c4⟩ := (HP.out.fresh hF).five hx
      have HS := Lib.hid (sendsP_succ hx)
      have hle := sendsP_le (P.take q)
      rw [List.length_take] at hle
      obtain ⟨N, hN⟩ : ∃ N, sendsP (P.take q) = N := ⟨_, rfl⟩
      rw [hN] at HS hle ⊢
      simp only at HS
      have t1 : decide ((q : Int) < (P.length : Int)) = true := decide_eq_true (by omega)
      have t1' : decide (q < P.length) = true := decide_eq_true hlt
      have q1 : (q : Int) < (P.length : Int) := by omega
      have hN1 : N ≤ 1000000 := by omega
      clear hF hx hN hle
      by_cases he : op = 14
      · have t2 : (op == 14) = true := by simp [he]
        have HE := Lib.hid he
        clear he
        go_wp2_with fail
        go_roundg (P.length - (q + 1))
        case measure => omega
        case rel => exact ⟨q + 1, by omega, rfl, by rw [HS.out, if_pos HE.out]; go_num, by go_num, by have := HF.out; (repeat (first | (with_reducible exact Keep.refl _ _) | (with_reducible assumption) | (with_reducible refine Keep.drew ?_) | (with_reducible refine Keep.drewN ?_ _) | (with_reducible refine Keep.alloc ?_ _) | (with_reducible refine Keep.setCell ?_ ?_ _) | (with_reducible refine fun _ => rfl)))⟩
      · have t2 : (op == 14) = false := by simp [he]
        have HE := Lib.hid he
        clear he
        go_wp2_with fail
        go_roundg (P.length - (q + 1))
        case measure => omega
        case rel => exact ⟨q + 1, by omega, rfl, by rw [HS.out, if_neg HE.out]; rfl, by go_num, by have := HF.out; (repeat (first | (with_reducible exact Keep.refl _ _) | (with_reducible assumption) | (with_reducible refine Keep.drew ?_) | (with_reducible refine Keep.drewN ?_ _) | (with_reducible refine Keep.alloc ?_ _) | (with_reducible refine Keep.setCell ?_ ?_ _) | (with_reducible refine fun _ => rfl)))⟩
    · obtain rfl : q = P.length := by omega
      rw [List.take_length]
      have t1 : decide ((P.length : Int) < (P.length : Int)) = false := decide_eq_false (by omega)
      clear hF
      obtain ⟨N, hN⟩ : ∃ N, sendsP P = N := ⟨_, rfl⟩
      rw [hN]
      have HNN := Lib.hid hN
      clear hN
      go_wp2_with fail
      go_ret
      exact ⟨by rw [HNN.out]; rfl, HF.out⟩
set_option maxHeartbeats 1000000 in
theorem check_any (A : Option Addr) (P : List Ins) (c : Nat) (w : World) (h : Prg w A P) (hn : P.length ≤ 9223372036854775807) (hT : Tab w) : Calls Tryd.prog 18 #[.slice A P.length c] w fun e w' => e = .returned (.tuple #[.int .i64 ((checkP P).1 : Nat), .int .i64 (checkP P).2]) ∧ Fresh w w' := by
  have HP := Lib.hid h
  have HT := Lib.hid hT
  clear h hT
  by_cases h64 : 64 < P.length
  · have t1 : decide ((64 : Int) < (P.length : Int)) = true := decide_eq_true (by omega)
    have t1' : decide (64 < P.length) = true := decide_eq_true h64
    have e1 : checkP P = (0, 11) := by unfold checkP; rw [if_pos h64]
    rw [e1]
    clear e1 h64
    go_enter Tryd.func18, Tryd.ntmps18
    go_wp2_with fail
    go_returns
    exact ⟨rfl, by (repeat (first | (with_reducible exact Keep.refl _ _) | (with_reducible assumption) | (with_reducible refine Keep.drew ?_) | (with_reducible refine Keep.drewN ?_ _) | (with_reducible refine Keep.alloc ?_ _) | (with_reducible refine Keep.setCell ?_ ?_ _) | (with_reducible refine fun _ => rfl)))⟩
  · have t1 : decide ((64 : Int) < (P.length : Int)) = false := decide_eq_false (by omega)
    have t1' : decide (64 < P.length) = false := decide_eq_false h64
    obtain ⟨R1, R2, hR⟩ : ∃ R1 R2, checkP P = (R1, R2) := ⟨_, _, rfl⟩
    rw [hR]
    have HR : Hid (checkFrom P.length 0 P = (R1, R2)) := Lib.hid (by
      rw [← hR]; unfold checkP; rw [if_neg h64])
    have hle : P.length ≤ 64 := by omega
    clear h64 hR
    go_enter Tryd.func18, Tryd.ntmps18
    go_wp2_with fail
    clear t1 t1'
    go_loopg [12] P.length (fun gk u wr => ∃ q : Nat, q ≤ P.length ∧ gk = P.length - q ∧ u = .int .i64 q ∧ Fresh w wr ∧ Hid (checkFrom P.length q (P.drop q) = (R1, R2)))
    case atStart => exact ⟨0, by omega, rfl, rfl, by (repeat (first | (with_reducible exact Keep.refl _ _) | (with_reducible assumption) | (with_reducible refine Keep.drew ?_) | (with_reducible refine Keep.drewN ?_ _) | (with_reducible refine Keep.alloc ?_ _) | (with_reducible refine Keep.setCell ?_ ?_ _) | (with_reducible refine fun _ => rfl))), Lib.hid (by rw [List.drop_zero]; exact HR.out)⟩
    case round =>
      obtain ⟨q, hq, rfl, rfl, hF, HN⟩ := hrel
      have HF := Lib.hid hF
      by_cases hlt : q < P.length
      · obtain ⟨⟨op, a, b, c', d⟩, hx⟩ : ∃ x, P[q]? = some x := ⟨_, List.getElem?_eq_getElem hlt⟩
        obtain ⟨g, off, rfl, lt, c0, c1, c2, c3, c4⟩ := (HP.out.fresh hF).five hx
        have hd : P.drop q = ⟨op, a, b, c', d⟩ :: P.drop (q + 1) := by
          rw [List.drop_eq_getElem_cons hlt]
          congr 1
          rw [List.getElem?_eq_getElem hlt] at hx
          injection hx
        have HD := Lib.hid hd
        have HM : Hid (∀ W, Fresh w W → Calls Tryd.prog 16 #[.agg #[.int .i64 op, .int .i64 a, .int .i64 b, .int .i64 c', .int .i64 d], .int .i64 P.length] W fun e w' => e = .returned (.int .i64 (mayE ⟨op, a, b, c', d⟩ P.length)) ∧ Fresh W w') := Lib.hid fun W f => may_any ⟨op, a, b, c', d⟩ P.length (by omega) W (HT.out.fresh f)
        obtain ⟨E, hE⟩ : ∃ E, mayE ⟨op, a, b, c', d⟩ P.length = E := ⟨_, rfl⟩
        have HE := Lib.hid hE
        rw [hE] at HM
        have t1 : decide ((q : Int) < (P.length : Int)) = true := decide_eq_true (by omega)
        have t1' : decide (q < P.length) = true := decide_eq_true hlt
        have q1 : (q : Int) < (P.length : Int) := by omega
        clear hF hx hd hE
        by_cases he : E = 0
        · have HN2 : Hid (checkFrom P.length (q + 1) (P.drop (q + 1)) = (R1, R2)) := Lib.hid (by
            rw [← HN.out, HD.out]
            show _ = checkFrom P.length q (⟨op, a, b, c', d⟩ :: P.drop (q + 1))
            unfold checkFrom
            rw [if_neg (by rw [HE.out, he]; simp)]
            cases P.drop (q + 1) <;> rfl)
          subst he
          go_wp2_with (go_at_call 16; (with_reducible refine (HM.out _ (by have := HF.out; (repeat (first | (with_reducible exact Keep.refl _ _) | (with_reducible assumption) | (with_reducible refine Keep.drew ?_) | (with_reducible refine Keep.drewN ?_ _) | (with_reducible refine Keep.alloc ?_ _) | (with_reducible refine Keep.setCell ?_ ?_ _) | (with_reducible refine fun _ => rfl))))).mono ?_); rintro e w3 ⟨rfl, f3⟩; have F3 := Lib.hid f3; clear f3)
          go_roundg (P.length - (q + 1))
          case measure => omega
          case rel => exact ⟨q + 1, by omega, rfl, by go_num, HF.out.step (Keep.step (S := fun _ => False) ((Keep.refl _ wr).alloc _) F3.out (fun _ _ h => h)) (fun _ _ h => h), HN2⟩
        · have t2 : (E == 0) = false := by simpa using he
          have hRE : R1 = q + 1 ∧ R2 = E := by
            have := HN.out
            rw [HD.out] at this
            unfold checkFrom at this
            rw [if_pos (by rw [HE.out]; exact he), HE.out] at this
            simp only [Prod.mk.injEq] at this
            exact ⟨this.1.symm, this.2.symm⟩
          obtain ⟨rfl, rfl⟩ := hRE
          have he' := he
          clear he HN HR HE
          go_wp2_with (go_at_call 16; (with_reducible refine (HM.out _ (by have := HF.out; (repeat (first | (with_reducible exact Keep.refl _ _) | (with_reducible assumption) | (with_reducible refine Keep.drew ?_) | (with_reducible refine Keep.drewN ?_ _) | (with_reducible refine Keep.alloc ?_ _) | (with_reducible refine Keep.setCell ?_ ?_ _) | (with_reducible refine fun _ => rfl))))).mono ?_); rintro e w3 ⟨rfl, f3⟩; have F3 := Lib.hid f3; clear f3)
          go_returns
          exact ⟨by go_num, HF.out.step (Keep.step (S := fun _ => False) ((Keep.refl _ wr).alloc _) F3.out (fun _ _ h => h)) (fun _ _ h => h)⟩
      · obtain rfl : q = P.length := by omega
        have hRE : R1 = 0 ∧ R2 = 0 := by
          have := HN.out
          rw [List.drop_length] at this
          simp only [checkFrom, Prod.mk.injEq] at this
          exact ⟨this.1.symm, this.2.symm⟩
        obtain ⟨rfl, rfl⟩ := hRE
        have t1 : decide ((P.length : Int) < (P.length : Int)) = false := decide_eq_false (by omega)
        clear hF
        go_wp2_with fail
        go_returns
        exact ⟨rfl, HF.out⟩
end Go.Proofs.YtkhlldmnnakoaaaDoor
