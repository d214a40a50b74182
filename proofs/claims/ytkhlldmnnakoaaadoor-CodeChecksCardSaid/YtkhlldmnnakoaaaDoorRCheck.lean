/-
  The document's answer: what is wrong with a program, and where.
-/
import Derived.Test.YtkhlldmnnakoaaaDoorRMay
import Derived.Test.YtkhlldmnnakoaaaDoorChecks
namespace Go.Proofs.YtkhlldmnnakoaaaDoor
open Go.RowKit
attribute [local go_sem ↓] Go.wp_at_zero Go.wp_at_succ
set_option maxHeartbeats 1000000 in
theorem rcheck_any (A : Option Addr) (P : List Ins) (c : Nat) (w : World) (h : Prg w A P) (hn : P.length ≤ 9223372036854775807) : Calls Tryd.prog 19 #[.slice A P.length c] w fun e w' => e = .returned (.tuple #[.int .i64 ((checkP P).1 : Nat), .int .i64 (checkP P).2]) ∧ Fresh w w' := by
  have HP := Lib.hid h
  clear h
  by_cases h64 : 64 < P.length
  · have t1 : decide ((64 : Int) < (P.length : Int)) = true := decide_eq_true (by omega)
    have t1' : decide (64 < P.length) = true := decide_eq_true h64
    have e1 : checkP P = (0, 11) := by unfold checkP; rw [if_pos h64]
    rw [e1]
    clear e1 h64
    go_enter Tryd.func19, Tryd.ntmps19
    go_wp2_with fail
    go_returns
    exact ⟨rfl, by (repeat (first | (with_reducible exact Keep.refl _ _) | (with_reducible assumption) | (with_reducible refine Keep.drew ?_) | (with_reducible refine Keep.drewN ?_ _) | (with_reducible refine Keep.alloc ?_ _) | (with_reducible refine Keep.setCell ?_ ?_ _) | (with_reducible refine fun _ => rfl)))⟩
  · have t1 : decide ((64 : Int) < (P.length : Int)) = false := decide_eq_false (by omega)
    have t1' : decide (64 < P.length) = false := decide_eq_false h64
    obtain ⟨R1, R2, hR⟩ : ∃ R1 R2, checkP P = (R1, R2) := ⟨_, _, rfl⟩
    rw [hR]
    have HR : Hid (checkFrom P.length 0 P = (R1, R2)) := Lib.hid (by
      rw [← hR]; unfold checkP; rw [if_neg h64])
    have hle : P.length ≤ 64 := by omega
    clear h64 hR
    go_enter Tryd.func19, Tryd.ntmps19
    go_wp2_with fail
    clear t1 t1'
    go_loopg [4] P.length (fun gk u wr => ∃ q : Nat, q ≤ P.length ∧ gk = P.length - q ∧ u = .int .i64 q ∧ Fresh w wr ∧ Hid (checkFrom P.length q (P.drop q) = (R1, R2)))
    case atStart => exact ⟨0, by omega, rfl, rfl, by (repeat (first | (with_reducible exact Keep.refl _ _) | (with_reducible assumption) | (with_reducible refine Keep.drew ?_) | (with_reducible refine Keep.drewN ?_ _) | (with_reducible refine Keep.alloc ?_ _) | (with_reducible refine Keep.setCell ?_ ?_ _) | (with_reducible refine fun _ => rfl))), Lib.hid (by rw [List.drop_zero]; exact HR.out)⟩
    case round =>
      obtain ⟨q, hq, rfl, rfl, hF, HN⟩ := hrel
      have HF := Lib.hid hF
      by_cases hlt : q < P.length
      · obtain ⟨⟨op, a, b, c', d⟩, hx⟩ : ∃ x, P[q]? = some x := ⟨_, List.getElem?_eq_getElem hlt⟩
        obtain ⟨g, off, rfl, lt, c0, c1, c2, c3, c4⟩ := (HP.out.fresh hF).five hx
        have hd : P.drop q = ⟨op, a, b, c', d⟩ :: P.drop (q + 1) := by
          rw [List.drop_eq_getElem_cons hlt]
          congr 1
          rw [List.getElem?_eq_getElem hlt] at hx
          injection hx
        have HD := Lib.hid hd
        have HM : Hid (∀ W, Fresh w W → Calls Tryd.prog 17 #[.agg #[.int .i64 op, .int .i64 a, .int .i64 b, .int .i64 c', .int .i64 d], .int .i64 P.length] W fun e w' => e = .returned (.int .i64 (mayE ⟨op, a, b, c', d⟩ P.length)) ∧ Fresh W w') := Lib.hid fun W _f => rmay_any ⟨op, a, b, c', d⟩ P.length W
        obtain ⟨E, hE⟩ : ∃ E, mayE ⟨op, a, b, c', d⟩ P.length = E := ⟨_, rfl⟩
        have HE := Lib.hid hE
        rw [hE] at HM
        have t1 : decide ((q : Int) < (P.length : Int)) = true := decide_eq_true (by omega)
        have t1' : decide (q < P.length) = true := decide_eq_true hlt
        have q1 : (q : Int) < (P.length : Int) := by omega
        clear hF hx hd hE
        by_cases he : E = 0
        · have HN2 : Hid (checkFrom P.length (q + 1) (P.drop (q + 1)) = (R1, R2)) := Lib.hid (by
            rw [← HN.out, HD.out]
            show _ = checkFrom P.length q (⟨op, a, b, c', d⟩ :: P.drop (q + 1))
            unfold checkFrom
            rw [if_neg (by rw [HE.out, he]; simp)]
            cases P.drop (q + 1) <;> rfl)
          subst he
          go_wp2_with (go_at_call 17; (with_reducible refine (HM.out _ (by have := HF.out; (repeat (first | (with_reducible exact Keep.refl _ _) | (with_reducible assumption) | (with_reducible refine Keep.drew ?_) | (with_reducible refine Keep.drewN ?_ _) | (with_reducible refine Keep.alloc ?_ _) | (with_reducible refine Keep.setCell ?_ ?_ _) | (with_reducible refine fun _ => rfl))))).mono ?_); rintro e w3 ⟨rfl, f3⟩; have F3 := Lib.hid f3; clear f3)
          go_roundg (P.length - (q + 1))
          case measure => omega
          case rel => exact ⟨q + 1, by omega, rfl, by go_num, HF.out.step (F3.out) (fun _ _ h => h), HN2⟩
        · have t2 : (E == 0) = false := by simpa using he
          have hRE : R1 = q + 1 ∧ R2 = E := by
            have := HN.out
            rw [HD.out] at this
            unfold checkFrom at this
            rw [if_pos (by rw [HE.out]; exact he), HE.out] at this
            simp only [Prod.mk.injEq] at this
            exact ⟨this.1.symm, this.2.symm⟩
          obtain ⟨rfl, rfl⟩ := hRE
          have he' := he
          clear he HN HR HE
          go_wp2_with (go_at_call 17; (with_reducible refine (HM.out _ (by have := HF.out; (repeat (first | (with_reducible exact Keep.refl _ _) | (with_reducible assumption) | (with_reducible refine Keep.drew ?_) | (with_reducible refine Keep.drewN ?_ _) | (with_reducible refine Keep.alloc ?_ _) | (with_reducible refine Keep.setCell ?_ ?_ _) | (with_reducible refine fun _ => rfl))))).mono ?_); rintro e w3 ⟨rfl, f3⟩; have F3 := Lib.hid f3; clear f3)
          go_returns
          exact ⟨by go_num, HF.out.step (F3.out) (fun _ _ h => h)⟩
      · obtain rfl : q = P.length := by omega
        have hRE : R1 = 0 ∧ R2 = 0 := by
          have := HN.out
          rw [List.drop_length] at this
          simp only [checkFrom, Prod.mk.injEq] at this
          exact ⟨this.1.symm, this.2.symm⟩
        obtain ⟨rfl, rfl⟩ := hRE
        have t1 : decide ((P.length : Int) < (P.length : Int)) = false := decide_eq_false (by omega)
        clear hF
        go_wp2_with fail
        go_returns
        exact ⟨rfl, HF.out⟩
end Go.Proofs.YtkhlldmnnakoaaaDoor
