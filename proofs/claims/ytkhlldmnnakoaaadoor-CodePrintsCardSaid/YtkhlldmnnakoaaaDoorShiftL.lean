/- CodeShift returns true at every input: a program that may be may be with a Stop behind it, and its text begins with its own. No conditions. -/
import Derived.Test.YtkhlldmnnakoaaaDoorLaid
namespace Go.Proofs.YtkhlldmnnakoaaaDoor
open Go.RowKit
attribute [local go_sem ↓] Go.wp_at_zero Go.wp_at_succ

theorem fits_more {k n : Int} {m : Nat} (h : fitsP k n m = true) : fitsP k n (m + 1) = true := by
  unfold fitsP at h ⊢
  split
  · rename_i e; rw [if_pos e] at h; exact h
  · rename_i e1
    rw [if_neg e1] at h
    split
    · rfl
    · rename_i e2
      rw [if_neg e2] at h
      split
      · rename_i e3
        rw [if_pos e3] at h
        simp only [decide_eq_true_eq] at h ⊢
        omega
      · rename_i e3
        rw [if_neg e3] at h
        exact h
theorem allFit_more {m : Nat} : ∀ {ks ns : List Int}, allFit m ks ns = true → allFit (m + 1) ks ns = true
  | [], _, _ => by simp [allFit]
  | _ :: _, [], _ => by simp [allFit]
  | k :: ks, n :: ns, h => by
    simp only [allFit, Bool.and_eq_true] at h ⊢
    exact ⟨fits_more h.1, allFit_more h.2⟩
theorem may_more {x : Ins} {m : Nat} (h : mayE x m = 0) : mayE x (m + 1) = 0 := by
  obtain ⟨h1, h2⟩ := mayE_op h
  unfold mayE
  rw [if_neg h1, allFit_more h2]
  rfl
def stopI : Ins := ⟨15, 0, 0, 0, 0⟩
theorem may_stop (m : Nat) : mayE stopI m = 0 := rfl
theorem check_parts {P : List Ins} (h : (checkP P).2 = 0) : P.length ≤ 64 ∧ ∀ x ∈ P, mayE x P.length = 0 := by
  unfold checkP at h
  by_cases h64 : 64 < P.length
  · rw [if_pos h64] at h; cases h
  · rw [if_neg h64] at h; exact ⟨by omega, check_ok h⟩
theorem check_of {P : List Ins} (h1 : P.length ≤ 64) (h2 : ∀ x ∈ P, mayE x P.length = 0) : checkP P = (0, 0) := by
  unfold checkP
  rw [if_neg (by omega), ok_check h2]
theorem shift_check {P : List Ins} (hn : P.length ≤ 63) (h : (checkP P).2 = 0) : checkP (P ++ [stopI]) = (0, 0) := by
  obtain ⟨_, h2⟩ := check_parts h
  refine check_of (by simp; omega) (fun x hx => ?_)
  rw [List.length_append, List.length_singleton]
  rcases List.mem_append.1 hx with hx | hx
  · exact may_more (h2 x hx)
  · rw [List.mem_singleton.1 hx]; exact may_stop _
theorem print_of {P : List Ins} (h : (checkP P).2 = 0) : printP P = (printL P, 0) := by
  unfold printP; rw [if_neg (by simp [h])]
theorem print_no {P : List Ins} (h : (checkP P).2 ≠ 0) : printP P = ([], (checkP P).2) := by
  unfold printP; rw [if_pos h]
theorem printL_app (P Q : List Ins) : printL (P ++ Q) = printL P ++ printL Q := by simp [printL]
theorem print_stop : printL [stopI] = [115, 116, 111, 112, 10] := by
  simp [printL, lineOf, wordsOf, stopI, show many 15 = 0 from rfl, show word 15 = [115, 116, 111, 112] from rfl]
theorem print2_eq (P : List Ins) : (printP P).2 = (checkP P).2 := by
  unfold printP
  split
  · rfl
  · rename_i h
    have : (checkP P).2 = 0 := by
      by_cases e : (checkP P).2 = 0
      · exact e
      · exact absurd e h
    rw [this]
set_option maxRecDepth 100000 in
set_option maxHeartbeats 4000000 in
theorem shift_no (A : Option Addr) (n c : Nat) (w : World) (hT : Tabs w) (hn : n ≤ 9223372036854775807) (h63 : 63 < n) : Law Tryd.prog 7 #[.slice A n c] w := by
  have HT := Lib.hid hT
  have t1 : decide ((63 : Int) < (n : Int)) = true := decide_eq_true (by omega)
  have t1' : decide (63 < n) = true := decide_eq_true h63
  clear hT h63
  go_enter Tryd.func7, Tryd.ntmps7
  go_wp2_with (go_at_call 8; refine (awake_any _ HT.out).mono ?_; rintro e w2 ⟨rfl, f2⟩)
  go_ret
  exact ⟨rfl, Fresh.below_ f2 (Nat.le_refl _)⟩
set_option maxRecDepth 100000 in
set_option maxHeartbeats 4000000 in
theorem shift_ok (A : Option Addr) (P : List Ins) (c : Nat) (w : World) (hT : Tabs w) (hP : Prg w A P) (hin : ∀ x ∈ P, x.In) (hn : P.length ≤ 63) : Law Tryd.prog 7 #[.slice A P.length c] w := by
  have HT := Lib.hid hT
  have HP := Lib.hid hP
  have t1 : decide ((63 : Int) < (P.length : Int)) = false := decide_eq_false (by omega)
  have t1' : decide (63 < P.length) = false := decide_eq_false (by omega)
  obtain ⟨i0, hi, hz0, hz1, hz2⟩ := info_parts info_instr
  have h05 : Hid (0 < 5) := Lib.hid (by omega)
  have g1 : 0 + P.length ≤ maxLen := one_le_maxLen (by omega)
  have g2 : (0 + P.length) * 40 ≤ 140737488355328 := by omega
  have g3 : P.length + 1 ≤ maxLen := one_le_maxLen (by omega)
  have g4 : (P.length + 1) * 40 ≤ 140737488355328 := by omega
  have hin2 : ∀ x ∈ P ++ [stopI], x.In := fun x hx => by
    rcases List.mem_append.1 hx with hx | hx
    · exact hin x hx
    · rw [List.mem_singleton.1 hx]
      intro m hm
      simp [stopI, Ins.nums] at hm
      subst hm
      exact ⟨by decide, by decide⟩
  have HI := Lib.hid hin
  have HI2 := Lib.hid hin2
  have HC1 : Hid (∀ W, Fresh w W → Calls Tryd.prog 18 #[.slice A P.length c] W fun e w' => e = .returned (.tuple #[.int .i64 ((checkP P).1 : Nat), .int .i64 (checkP P).2]) ∧ Fresh W w') := Lib.hid fun W f => check_any A P c W (HP.out.fresh f) (by omega) (HT.out.fresh f).nums
  have HP1 : Hid (∀ W, Fresh w W → Calls Tryd.prog 9 #[.slice A P.length c] W fun e w' => e = .returned (.tuple #[.string (str (printP P).1), .int .i64 (printP P).2]) ∧ Fresh W w') := Lib.hid fun W f => print_any A P c W (HP.out.fresh f) (by omega) (HT.out.fresh f) HI.out
  have HS1 : Hid (∀ W, Fresh w W → Calls Tryd.prog 20 #[.slice A P.length c] W fun e w' => e = .returned (.int .i64 (sendsP P : Nat)) ∧ Fresh W w') := Lib.hid fun W f => sends_any A P c W (HP.out.fresh f) (by omega)
  have HX2 : Hid (∀ (W : World) (A2 : Option Addr) (c2 : Nat), Fresh w W → OwnS W 34 5 (.slice A2 (P.length + 1) c2) (P.length + 1) (icells (P ++ [stopI])) → ∀ W', Fresh W W' →
      Calls Tryd.prog 18 #[.slice A2 (P.length + 1) c2] W' (fun e w' => e = .returned (.tuple #[.int .i64 ((checkP (P ++ [stopI])).1 : Nat), .int .i64 (checkP (P ++ [stopI])).2]) ∧ Fresh W' w') ∧
      Calls Tryd.prog 9 #[.slice A2 (P.length + 1) c2] W' (fun e w' => e = .returned (.tuple #[.string (str (printP (P ++ [stopI])).1), .int .i64 (printP (P ++ [stopI])).2]) ∧ Fresh W' w') ∧
      Calls Tryd.prog 20 #[.slice A2 (P.length + 1) c2] W' (fun e w' => e = .returned (.int .i64 (sendsP (P ++ [stopI]) : Nat)) ∧ Fresh W' w')) := Lib.hid fun W A2 c2 f o W' f2 => by
    have hl : (P ++ [stopI]).length = P.length + 1 := by simp
    have hp := (prg_own (Q := P ++ [stopI]) o hl.symm).fresh f2
    have hTT := (HT.out.fresh f).fresh f2
    have a1 := check_any A2 (P ++ [stopI]) c2 W' hp (by omega) hTT.nums
    have a2 := print_any A2 (P ++ [stopI]) c2 W' hp (by omega) hTT HI2.out
    have a3 := sends_any A2 (P ++ [stopI]) c2 W' hp (by omega)
    rw [hl] at a1 a2 a3
    exact ⟨a1, a2, a3⟩
  rw [print2_eq] at HP1
  have hs2 : sendsP (P ++ [stopI]) = sendsP P := by rw [sendsP_app]; rfl
  obtain ⟨SN, hSN⟩ : ∃ SN, sendsP P = SN := ⟨_, rfl⟩
  rw [hSN] at HS1 hs2
  simp only [hs2, print2_eq] at HX2
  have SRC : Hid (Src w 5 (.slice A P.length c) P.length (icells P)) := Lib.hid (HP.out.src c)
  have hfin : (checkP P).2 = 0 → (checkP (P ++ [stopI])).2 = 0 ∧ (printP (P ++ [stopI])).1 = (printP P).1 ++ [115, 116, 111, 112, 10] := fun h0 => by
    have h1 := shift_check hn h0
    refine ⟨by rw [h1], ?_⟩
    rw [print_of h0, print_of (by rw [h1]), printL_app, print_stop]
  have hbad : (checkP P).2 ≠ 0 → (printP P).1 = [] := fun h0 => by rw [print_no h0]
  have hlen : (printP P).1.length ≤ 6000 := by
    have := print_len hin
    unfold printP
    split
    · simp
    · simp only; omega
  obtain ⟨N1, hN1⟩ : ∃ N1, (checkP P).1 = N1 := ⟨_, rfl⟩
  obtain ⟨N2, hN2⟩ : ∃ N2, (checkP (P ++ [stopI])).1 = N2 := ⟨_, rfl⟩
  obtain ⟨E1, hE1⟩ : ∃ E1, (checkP P).2 = E1 := ⟨_, rfl⟩
  obtain ⟨E2, hE2⟩ : ∃ E2, (checkP (P ++ [stopI])).2 = E2 := ⟨_, rfl⟩
  obtain ⟨T1, hT1⟩ : ∃ T1, (printP P).1 = T1 := ⟨_, rfl⟩
  obtain ⟨T2, hT2⟩ : ∃ T2, (printP (P ++ [stopI])).1 = T2 := ⟨_, rfl⟩
  rw [hN1, hE1] at HC1
  rw [hT1, hE1] at HP1
  simp only [hN2, hE2, hT2] at HX2
  rw [hE1, hE2, hT1, hT2] at hfin
  rw [hE1, hT1] at hbad
  rw [hT1] at hlen
  have HFIN := Lib.hid hfin
  have HBAD := Lib.hid hbad
  clear hT hP hin hin2 hs2 hSN hN1 hN2 hE1 hE2 hT1 hT2 hfin hbad HI HI2
  by_cases he : E1 = 0
  · obtain ⟨rfl, rfl⟩ := HFIN.out he
    subst he
    have hcat : ∀ W, (Op.stringOp .add (str T1) ⟨#[115, 116, 111, 112, 10]⟩).run Tryd.prog W = .ok (.string (str (T1 ++ [115, 116, 111, 112, 10]))) W := fun W => run_string_add_lists W T1 [115, 116, 111, 112, 10] (by omega) (by simp)
    have heq : ((str (T1 ++ [115, 116, 111, 112, 10])).toList == (str (T1 ++ [115, 116, 111, 112, 10])).toList) = true := by simp
    obtain ⟨B1, hB1⟩ : ∃ B1, str T1 = B1 := ⟨_, rfl⟩
    obtain ⟨B2, hB2⟩ : ∃ B2, str (T1 ++ [115, 116, 111, 112, 10]) = B2 := ⟨_, rfl⟩
    rw [hB1] at HP1
    simp only [hB1, hB2] at hcat heq HX2
    clear hB1 hB2 HFIN HBAD hlen
    go_enter Tryd.func7, Tryd.ntmps7
    go_upto_region 5 with (at_builtin; (refine wpList_append_OwnS _ rfl _ _ 22 rfl 34 i0 (.agg #[.int .i64 0, .int .i64 0, .int .i64 0, .int .i64 0, .int .i64 0]) 5 40 Tryd.underlying22 hi hz0 hz1 hz2 rfl h05.out (.slice none 0 0) 0 [] rfl (OwnS.nil _ _ _) (.slice A P.length c) P.length (icells P) rfl SRC.out (icells_one _) g1 g2 ?_); intro v6 w6 o6 k6 n6; rw [Nat.zero_add, List.nil_append] at o6; obtain ⟨A6, c6, rfl, _, _⟩ := o6.shape; have f6 : Fresh w w6 := k6.more (fun i _ hi => by simp [Value.ownBlock] at hi); have O6 := Lib.hid o6; have F6 := Lib.hid f6; have N6 := Lib.hid n6; clear o6 k6 f6 n6)
    have OA6 : Hid (OwnS (w6.alloc (.cells #[.int .i64 15, .int .i64 0, .int .i64 0, .int .i64 0, .int .i64 0] 34)) 34 5 (.slice A6 P.length c6) P.length (icells P)) := Lib.hid (O6.out.alloc _)
    have NIL : Hid (∀ W' : World, Keep (fun k => (Value.slice A6 P.length c6).ownBlock = some k) (w6.alloc (.cells #[.int .i64 15, .int .i64 0, .int .i64 0, .int .i64 0, .int .i64 0] 34)) W' → Fresh w W') := Lib.hid fun W' kk => (F6.out.alloc _).step kk (fun k hk h => by
      rcases N6.out k h with h2 | h2
      · simp [Value.ownBlock] at h2
      · omega)
    go_wp2_with (first
      | (at_builtin; (refine wpList_append_OwnS _ rfl _ _ 22 rfl 34 i0 (.agg #[.int .i64 0, .int .i64 0, .int .i64 0, .int .i64 0, .int .i64 0]) 5 40 Tryd.underlying22 hi hz0 hz1 hz2 rfl h05.out (.slice A6 P.length c6) P.length (icells P) rfl OA6.out (.slice (some ⟨w6.heap.size, 0, none⟩) 1 1) 1 (icells [stopI]) rfl (Src.one_new w6 34 5 #[.int .i64 15, .int .i64 0, .int .i64 0, .int .i64 0, .int .i64 0] rfl) (icells_one _) g3 g4 ?_); intro v7 w7 o7 k7 n7; rw [← icells_append] at o7; obtain ⟨A7, c7, rfl, _, _⟩ := o7.shape; have O7 := Lib.hid o7; have F7 := Lib.hid (NIL.out _ k7); have X7 := Lib.hid (fun W' f => HX2.out w7 A7 c7 F7.out o7 W' f); clear o7 k7 n7)
      | (go_at_call 18; (first
          | (with_reducible refine (HC1.out _ F7.out).mono ?_; rintro e w8 ⟨rfl, f8⟩; have F8 := Lib.hid f8; clear f8)
          | (with_reducible refine (X7.out _ F8.out).1.mono ?_; rintro e w9 ⟨rfl, f9⟩; have F9 := Lib.hid (F8.out.step f9 (fun _ _ h => h)); clear f9)))
      | (go_at_call 9; (first
          | (with_reducible refine (HP1.out _ (F7.out.step F9.out (fun _ _ h => h))).mono ?_; rintro e w10 ⟨rfl, f10⟩; have F10 := Lib.hid (F9.out.step f10 (fun _ _ h => h)); clear f10)
          | (with_reducible refine (X7.out _ F10.out).2.1.mono ?_; rintro e w11 ⟨rfl, f11⟩; have F11 := Lib.hid (F10.out.step f11 (fun _ _ h => h)); clear f11)))
      | (go_at_call 20; (first
          | (with_reducible refine (HS1.out _ (F7.out.step F11.out (fun _ _ h => h))).mono ?_; rintro e w12 ⟨rfl, f12⟩; have F12 := Lib.hid (F11.out.step f12 (fun _ _ h => h)); clear f12)
          | (with_reducible refine (X7.out _ F12.out).2.2.mono ?_; rintro e w13 ⟨rfl, f13⟩; have F13 := Lib.hid (F12.out.step f13 (fun _ _ h => h)); clear f13)))
      | (go_at_call 8; refine (awake_any _ (HT.out.fresh (F7.out.step F13.out (fun _ _ h => h)))).mono ?_; rintro e w14 ⟨rfl, f14⟩))
    go_ret
    exact ⟨rfl, Fresh.below_ ((F7.out.step F13.out (fun _ _ h => h)).step f14 (fun _ _ h => h)) (Nat.le_refl _)⟩
  · have hT1 := HBAD.out he
    subst hT1
    have te : (E1 == 0) = false := by simpa using he
    have he' := he
    have tq : (str []).toList.isEmpty = true := by rw [Lib.toList_data]; rfl
    obtain ⟨B1, hB1⟩ : ∃ B1, str [] = B1 := ⟨_, rfl⟩
    obtain ⟨B2, hB2⟩ : ∃ B2, str T2 = B2 := ⟨_, rfl⟩
    rw [hB1] at HP1 tq
    simp only [hB2] at HX2
    clear hB1 hB2 HFIN HBAD hlen he
    go_enter Tryd.func7, Tryd.ntmps7
    go_upto_region 5 with (at_builtin; (refine wpList_append_OwnS _ rfl _ _ 22 rfl 34 i0 (.agg #[.int .i64 0, .int .i64 0, .int .i64 0, .int .i64 0, .int .i64 0]) 5 40 Tryd.underlying22 hi hz0 hz1 hz2 rfl h05.out (.slice none 0 0) 0 [] rfl (OwnS.nil _ _ _) (.slice A P.length c) P.length (icells P) rfl SRC.out (icells_one _) g1 g2 ?_); intro v6 w6 o6 k6 n6; rw [Nat.zero_add, List.nil_append] at o6; obtain ⟨A6, c6, rfl, _, _⟩ := o6.shape; have f6 : Fresh w w6 := k6.more (fun i _ hi => by simp [Value.ownBlock] at hi); have O6 := Lib.hid o6; have F6 := Lib.hid f6; have N6 := Lib.hid n6; clear o6 k6 f6 n6)
    have OA6 : Hid (OwnS (w6.alloc (.cells #[.int .i64 15, .int .i64 0, .int .i64 0, .int .i64 0, .int .i64 0] 34)) 34 5 (.slice A6 P.length c6) P.length (icells P)) := Lib.hid (O6.out.alloc _)
    have NIL : Hid (∀ W' : World, Keep (fun k => (Value.slice A6 P.length c6).ownBlock = some k) (w6.alloc (.cells #[.int .i64 15, .int .i64 0, .int .i64 0, .int .i64 0, .int .i64 0] 34)) W' → Fresh w W') := Lib.hid fun W' kk => (F6.out.alloc _).step kk (fun k hk h => by
      rcases N6.out k h with h2 | h2
      · simp [Value.ownBlock] at h2
      · omega)
    go_wp2_with (first
      | (at_builtin; (refine wpList_append_OwnS _ rfl _ _ 22 rfl 34 i0 (.agg #[.int .i64 0, .int .i64 0, .int .i64 0, .int .i64 0, .int .i64 0]) 5 40 Tryd.underlying22 hi hz0 hz1 hz2 rfl h05.out (.slice A6 P.length c6) P.length (icells P) rfl OA6.out (.slice (some ⟨w6.heap.size, 0, none⟩) 1 1) 1 (icells [stopI]) rfl (Src.one_new w6 34 5 #[.int .i64 15, .int .i64 0, .int .i64 0, .int .i64 0, .int .i64 0] rfl) (icells_one _) g3 g4 ?_); intro v7 w7 o7 k7 n7; rw [← icells_append] at o7; obtain ⟨A7, c7, rfl, _, _⟩ := o7.shape; have O7 := Lib.hid o7; have F7 := Lib.hid (NIL.out _ k7); have X7 := Lib.hid (fun W' f => HX2.out w7 A7 c7 F7.out o7 W' f); clear o7 k7 n7)
      | (go_at_call 18; (first
          | (with_reducible refine (HC1.out _ F7.out).mono ?_; rintro e w8 ⟨rfl, f8⟩; have F8 := Lib.hid f8; clear f8)
          | (with_reducible refine (X7.out _ F8.out).1.mono ?_; rintro e w9 ⟨rfl, f9⟩; have F9 := Lib.hid (F8.out.step f9 (fun _ _ h => h)); clear f9)))
      | (go_at_call 9; (first
          | (with_reducible refine (HP1.out _ (F7.out.step F9.out (fun _ _ h => h))).mono ?_; rintro e w10 ⟨rfl, f10⟩; have F10 := Lib.hid (F9.out.step f10 (fun _ _ h => h)); clear f10)
          | (with_reducible refine (X7.out _ F10.out).2.1.mono ?_; rintro e w11 ⟨rfl, f11⟩; have F11 := Lib.hid (F10.out.step f11 (fun _ _ h => h)); clear f11)))
      | (go_at_call 8; refine (awake_any _ (HT.out.fresh (F7.out.step F11.out (fun _ _ h => h)))).mono ?_; rintro e w14 ⟨rfl, f14⟩))
    go_ret
    exact ⟨rfl, Fresh.below_ ((F7.out.step F11.out (fun _ _ h => h)).step f14 (fun _ _ h => h)) (Nat.le_refl _)⟩
open Go.ChangeShapes Go.WideShapes Go.ChangeAt
theorem codeShift_reads (os : Os) {H : Type} (enc : TypeId × Value → H) : ∃ places, DataW.whole enc Tryd.prog ((laidWorld os).forCall (fun _ _ => 0) ⟨#[], #[.slice none 0 0], []⟩).memory Tryd.f7.params.toList Rows.codeShiftSpec.vars false (#[.slice none 0 0] : Array Value).toList 8 = some ([.nil], [], places) :=
  ⟨[], by kernel_rfl⟩
set_option maxRecDepth 100000 in
theorem codeShift_lifted (os : Os) (started : os.Started) (H : Type) (enc : TypeId × Value → H) (F : Stop.Interp) :
    ReturnsInHanded {} Tryd.checked os 7 .any ((OpenSpec.ofChange Rows.codeShiftSpec).preRow enc Tryd.prog Tryd.f7 Rows.codeShiftRow.domain false Rows.codeShiftRow.laid) (((OpenSpec.ofChange Rows.codeShiftSpec).at F).post enc Tryd.prog Tryd.f7 false true false false) := by
  obtain ⟨places, hx⟩ := codeShift_reads os enc
  refine law_lifted_rowS (C := Tryd.checked) (tb := 4) (by kernel_rfl) (by kernel_rfl) started (by kernel_rfl) Tryd.func7 rfl ?_ rfl Tryd.underlying4 (by kernel_rfl)
    (witness_rowZ (enc := enc) (C := Tryd.checked) (laidWorld os) #[.slice none 0 0] (World.laidAll_os _ _ _) (World.shaped_of_ZipB (by kernel_rfl) (by kernel_rfl)) (by kernel_rfl)
      (OpenSpec.preRow_of_cond 8 hx (by kernel_rfl) (fun k hk => by cases hk) (by kernel_rfl) (laid_met os _))) ?_
  · intro ds hds
    match ds, hds with
    | [e0], _ => rfl
  · intro W base args ds p hval hA hreach hL hsh
    have hT := tabs_of_laid hL hsh
    rw [Tryd.params7] at hA hval hreach
    obtain ⟨v0, vs0, d0, ds0, p0, q0, hargs, rfl, rfl, h0, r0⟩ := trodAll_cons hA
    obtain ⟨rfl, rfl, rfl⟩ := trodAll_nil r0
    obtain rfl : args = #[v0] := by cases args; simp_all
    obtain ⟨A_l, n_l, c_l, rows_l, rfl, len_l, cap_l, max_l, leaf_l, at_l⟩ := arg_slice (n := 6) Tryd.underlying22 (by kernel_rfl) (by kernel_rfl) (by rw [show Tryd.prog.cellsOf 34 = 5 by kernel_rfl]; decide) (hval 0 22 v0 rfl rfl) h0
    rw [show flat Tryd.prog 6 34 = [3, 3, 3, 3, 3] by kernel_rfl] at leaf_l
    rw [show Tryd.prog.cellsOf 34 = 5 by kernel_rfl] at at_l
    obtain ⟨P, hPl, hPp, hPi⟩ := ins_arg leaf_l at_l
    have hn : P.length = n_l := hPl.trans len_l
    subst hn
    have hm : P.length ≤ 9223372036854775807 := by unfold maxLen at max_l; omega
    by_cases h63 : 63 < P.length
    · exact shift_no A_l P.length c_l W hT hm h63
    · exact shift_ok A_l P c_l W hT hPp hPi (by omega)

theorem codeShift_said : Rows.CodeShiftSaid :=
  OpenClaim.holds_of_cond 7 Tryd.f7 rfl rfl rfl rfl rfl rfl rfl ⟨rfl, rfl, rfl, rfl, rfl⟩ rfl rfl rfl rfl rfl (by kernel_rfl) Tryd.func7 (by kernel_rfl)
    (of_decide_eq_true (by kernel_rfl)) (by unfold Func.isWrapper; first | (rw [if_pos (by decide +kernel)]; kernel_rfl) | (rw [if_neg (by decide +kernel)]; exact ⟨rfl, rfl⟩))
    (fun os started H enc _ F => by rw [OpenClaim.pre_eq_preRow]; exact codeShift_lifted os started H enc F)
theorem codeShift_plain (f : FuncId) (fn : Func) (hf : Tryd.pinned.checked.prog.funcNamed "boomerang/boomeranglaw05.CodeShift" = some f) (hfn : Tryd.pinned.checked.prog.funcs[f]? = some fn) :
    true = Tryd.pinned.checked.prog.looks [] ∧ ∀ (j : Nat) t, fn.params[j]? = some t → Tryd.pinned.checked.prog.wantsStandIn t = false := by
  obtain rfl : f = 7 := Option.some.inj ((show Tryd.prog.funcNamed "boomerang/boomeranglaw05.CodeShift" = some 7 by kernel_rfl).symm.trans hf) |>.symm
  obtain rfl : fn = Tryd.f7 := (Option.some.inj (Tryd.func7.symm.trans hfn)).symm
  refine ⟨by kernel_rfl, fun j t ht => ?_⟩
  rw [Tryd.params7] at ht
  have hm := Array.mem_of_getElem? ht
  simp at hm
  rcases hm with rfl
  · exact (show Tryd.prog.wantsStandIn 22 = false by kernel_rfl)
theorem codeShift_holds : Rows.CodeShiftCardSaid :=
  Claim7.holds_tied_plain_at .later [] _ _ _ _ codeShift_said (fun _ h => by cases h) (by kernel_rfl) (fun _ h => by cases h) codeShift_row_tie rfl ⟨rfl, rfl⟩ (by kernel_rfl) rfl codeShift_plain (by kernel_rfl)
end Go.Proofs.YtkhlldmnnakoaaaDoor
