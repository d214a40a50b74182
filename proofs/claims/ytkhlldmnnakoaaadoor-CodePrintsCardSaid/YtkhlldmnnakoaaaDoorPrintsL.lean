/- CodePrints returns true at every input: the text of a program is the document's answer's. No conditions. -/
import Derived.Test.YtkhlldmnnakoaaaDoorRLine
import Derived.Test.YtkhlldmnnakoaaaDoorPlain
import Derived.Test.YtkhlldmnnakoaaaDoorLaid
namespace Go.Proofs.YtkhlldmnnakoaaaDoor
open Go.RowKit
attribute [local go_sem ↓] Go.wp_at_zero Go.wp_at_succ
set_option maxRecDepth 100000 in
set_option maxHeartbeats 4000000 in
theorem prints_no (A : Option Addr) (n c : Nat) (w : World) (hT : Tabs w) (hn : n ≤ 9223372036854775807) (h80 : 80 < n) : Law Tryd.prog 3 #[.slice A n c] w := by
  have HT := Lib.hid hT
  have t1 : decide ((80 : Int) < (n : Int)) = true := decide_eq_true (by omega)
  have t1' : decide (80 < n) = true := decide_eq_true h80
  clear hT h80
  go_enter Tryd.func3, Tryd.ntmps3
  go_wp2_with (go_at_call 8; refine (awake_any _ HT.out).mono ?_; rintro e w2 ⟨rfl, f2⟩)
  go_ret
  exact ⟨rfl, Fresh.below_ f2 (Nat.le_refl _)⟩
set_option maxRecDepth 100000 in
set_option maxHeartbeats 8000000 in
theorem prints_ok (A : Option Addr) (P : List Ins) (c : Nat) (w : World) (hT : Tabs w) (hP : Prg w A P) (hin : ∀ x ∈ P, x.In) (hn : P.length ≤ 80) : Law Tryd.prog 3 #[.slice A P.length c] w := by
  have HT := Lib.hid hT
  have HPR := Lib.hid (print_any A P c w hP (by omega) hT hin)
  rw [print2_eq] at HPR
  have HPL : Hid (∀ W, Fresh w W → Calls Tryd.prog 11 #[.slice A P.length c] W fun e w' => ∃ v, e = .returned v ∧ OwnS w' 41 5 v P.length (icells P) ∧ Fresh W w') := Lib.hid fun W f => plain_any A P c W (hP.fresh f) (by omega)
  have HRP : Hid (∀ B d W, Prg W B P → Calls Tryd.prog 10 #[.slice B P.length d] W fun e w' => e = .returned (.tuple #[.string (str (printP P).1), .int .i64 (checkP P).2]) ∧ Fresh W w') := Lib.hid fun B d W h => rprint_any B P d W h (by omega) hin
  obtain ⟨T, hTT⟩ : ∃ T, str (printP P).1 = T := ⟨_, rfl⟩
  obtain ⟨E, hE⟩ : ∃ E, (checkP P).2 = E := ⟨_, rfl⟩
  rw [hTT, hE] at HPR HRP
  have tT : (T.toList == T.toList) = true := beq_self_eq_true _
  have t1 : decide ((80 : Int) < (P.length : Int)) = false := decide_eq_false (by omega)
  have t1' : decide (80 < P.length) = false := decide_eq_false (by omega)
  clear hT hP hin hTT hE
  go_enter Tryd.func3, Tryd.ntmps3
  go_wp2_with (first
    | (go_at_call 9; (with_reducible refine HPR.out.mono ?_); rintro e w1 ⟨rfl, f1⟩; have F1 := Lib.hid f1; clear f1)
    | (go_at_call 11; (with_reducible refine (HPL.out _ F1.out).mono ?_); rintro e w2 ⟨v, rfl, hO, f2⟩; obtain ⟨A2, c2, rfl, _, _⟩ := hO.shape; have HQ := Lib.hid (prg_ownR hO rfl); have F2 := Lib.hid (F1.out.step f2 (fun _ _ h => h)); clear hO f2)
    | (go_at_call 10; (with_reducible refine (HRP.out _ _ _ HQ.out).mono ?_); rintro e w3 ⟨rfl, f3⟩; have F3 := Lib.hid (F2.out.step f3 (fun _ _ h => h)); clear f3)
    | (go_at_call 8; refine (awake_any _ (HT.out.fresh F3.out)).mono ?_; rintro e w4 ⟨rfl, f4⟩))
  go_ret
  exact ⟨rfl, Fresh.below_ (F3.out.step f4 (fun _ _ h => h)) (Nat.le_refl _)⟩
open Go.ChangeShapes Go.WideShapes Go.ChangeAt
theorem codePrints_reads (os : Os) {H : Type} (enc : TypeId × Value → H) : ∃ places, DataW.whole enc Tryd.prog ((laidWorld os).forCall (fun _ _ => 0) ⟨#[], #[.slice none 0 0], []⟩).memory Tryd.f3.params.toList Rows.codePrintsSpec.vars false (#[.slice none 0 0] : Array Value).toList 8 = some ([.nil], [], places) :=
  ⟨[], by kernel_rfl⟩
set_option maxRecDepth 100000 in
theorem codePrints_lifted (os : Os) (started : os.Started) (H : Type) (enc : TypeId × Value → H) (F : Stop.Interp) :
    ReturnsInHanded {} Tryd.checked os 3 .any ((OpenSpec.ofChange Rows.codePrintsSpec).preRow enc Tryd.prog Tryd.f3 Rows.codePrintsRow.domain false Rows.codePrintsRow.laid) (((OpenSpec.ofChange Rows.codePrintsSpec).at F).post enc Tryd.prog Tryd.f3 false true false false) := by
  obtain ⟨places, hx⟩ := codePrints_reads os enc
  refine law_lifted_rowS (C := Tryd.checked) (tb := 4) (by kernel_rfl) (by kernel_rfl) started (by kernel_rfl) Tryd.func3 rfl ?_ rfl Tryd.underlying4 (by kernel_rfl)
    (witness_rowZ (enc := enc) (C := Tryd.checked) (laidWorld os) #[.slice none 0 0] (World.laidAll_os _ _ _) (World.shaped_of_ZipB (by kernel_rfl) (by kernel_rfl)) (by kernel_rfl)
      (OpenSpec.preRow_of_cond 8 hx (by kernel_rfl) (fun k hk => by cases hk) (by kernel_rfl) (laid_met os _))) ?_
  · intro ds hds
    match ds, hds with
    | [e0], _ => rfl
  · intro W base args ds p hval hA hreach hL hsh
    have hT := tabs_of_laid hL hsh
    rw [Tryd.params3] at hA hval hreach
    obtain ⟨v0, vs0, d0, ds0, p0, q0, hargs, rfl, rfl, h0, r0⟩ := trodAll_cons hA
    obtain ⟨rfl, rfl, rfl⟩ := trodAll_nil r0
    obtain rfl : args = #[v0] := by cases args; simp_all
    obtain ⟨A_l, n_l, c_l, rows_l, rfl, len_l, cap_l, max_l, leaf_l, at_l⟩ := arg_slice (n := 6) Tryd.underlying22 (by kernel_rfl) (by kernel_rfl) (by rw [show Tryd.prog.cellsOf 34 = 5 by kernel_rfl]; decide) (hval 0 22 v0 rfl rfl) h0
    rw [show flat Tryd.prog 6 34 = [3, 3, 3, 3, 3] by kernel_rfl] at leaf_l
    rw [show Tryd.prog.cellsOf 34 = 5 by kernel_rfl] at at_l
    obtain ⟨P, hPl, hPp, hPi⟩ := ins_arg leaf_l at_l
    have hn : P.length = n_l := hPl.trans len_l
    subst hn
    have hm : P.length ≤ 9223372036854775807 := by unfold maxLen at max_l; omega
    by_cases hno : 80 < P.length
    · exact prints_no A_l P.length c_l W hT hm hno
    · exact prints_ok A_l P c_l W hT hPp hPi (by omega)

theorem codePrints_said : Rows.CodePrintsSaid :=
  OpenClaim.holds_of_cond 3 Tryd.f3 rfl rfl rfl rfl rfl rfl rfl ⟨rfl, rfl, rfl, rfl, rfl⟩ rfl rfl rfl rfl rfl (by kernel_rfl) Tryd.func3 (by kernel_rfl)
    (of_decide_eq_true (by kernel_rfl)) (by unfold Func.isWrapper; first | (rw [if_pos (by decide +kernel)]; kernel_rfl) | (rw [if_neg (by decide +kernel)]; exact ⟨rfl, rfl⟩))
    (fun os started H enc _ F => by rw [OpenClaim.pre_eq_preRow]; exact codePrints_lifted os started H enc F)
theorem codePrints_plain (f : FuncId) (fn : Func) (hf : Tryd.pinned.checked.prog.funcNamed "boomerang/boomeranglaw05.CodePrints" = some f) (hfn : Tryd.pinned.checked.prog.funcs[f]? = some fn) :
    true = Tryd.pinned.checked.prog.looks [] ∧ ∀ (j : Nat) t, fn.params[j]? = some t → Tryd.pinned.checked.prog.wantsStandIn t = false := by
  obtain rfl : f = 3 := Option.some.inj ((show Tryd.prog.funcNamed "boomerang/boomeranglaw05.CodePrints" = some 3 by kernel_rfl).symm.trans hf) |>.symm
  obtain rfl : fn = Tryd.f3 := (Option.some.inj (Tryd.func3.symm.trans hfn)).symm
  refine ⟨by kernel_rfl, fun j t ht => ?_⟩
  rw [Tryd.params3] at ht
  have hm := Array.mem_of_getElem? ht
  simp at hm
  rcases hm with rfl
  · exact (show Tryd.prog.wantsStandIn 22 = false by kernel_rfl)
theorem codePrints_holds : Rows.CodePrintsCardSaid :=
  Claim7.holds_tied_plain_at .later [] _ _ _ _ codePrints_said (fun _ h => by cases h) (by kernel_rfl) (fun _ h => by cases h) codePrints_row_tie rfl ⟨rfl, rfl⟩ (by kernel_rfl) rfl codePrints_plain (by kernel_rfl)
end Go.Proofs.YtkhlldmnnakoaaaDoor
