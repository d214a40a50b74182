/- CodeBack returns true at every input: what Parse reads of what Print writes is the program, and what Print writes of what Parse reads is the text. No conditions. -/
import Derived.Test.YtkhlldmnnakoaaaDoorShiftL
import Derived.Deep.DeepCutAuto
namespace Go.Proofs.YtkhlldmnnakoaaaDoor
open Go.RowKit
attribute [local go_sem ↓] Go.wp_at_zero Go.wp_at_succ

theorem run_neq_instr (o a b c d : Int) (w : World) : (binOp .neq 34 (.agg #[.int .i64 o, .int .i64 a, .int .i64 b, .int .i64 c, .int .i64 d]) (.agg #[.int .i64 o, .int .i64 a, .int .i64 b, .int .i64 c, .int .i64 d])).run Tryd.prog w = .ok (.bool false) w := by
  go_simp
theorem parseP_in {s : List UInt8} : ∀ x ∈ (parseP s).1, x.In := by
  unfold parseP
  split
  · intro x hx; cases hx
  · exact parse_in
set_option maxRecDepth 100000 in
set_option maxHeartbeats 4000000 in
theorem back_no (A : Option Addr) (n c : Nat) (s : List UInt8) (w : World) (hT : Tabs w) (hn : n ≤ 9223372036854775807) (hs : s.length ≤ 9223372036854775807) (h : 80 < n ∨ 2000 < s.length) : Law Tryd.prog 4 #[.slice A n c, .string (str s)] w := by
  have HT := Lib.hid hT
  have hz : (str s).size = s.length := by simp [str, ByteArray.size]
  obtain ⟨B, hB⟩ : ∃ B, str s = B := ⟨_, rfl⟩
  rw [hB] at hz ⊢
  by_cases h80 : 80 < n
  · have t1 : decide ((80 : Int) < (n : Int)) = true := decide_eq_true (by omega)
    have t1' : decide (80 < n) = true := decide_eq_true h80
    clear hT h h80 hB hz
    go_enter Tryd.func4, Tryd.ntmps4
    go_wp2_with (go_at_call 8; refine (awake_any _ HT.out).mono ?_; rintro e w2 ⟨rfl, f2⟩)
    go_ret
    exact ⟨rfl, Fresh.below_ f2 (Nat.le_refl _)⟩
  · have t1 : decide ((80 : Int) < (n : Int)) = false := decide_eq_false (by omega)
    have t1' : decide (80 < n) = false := decide_eq_false h80
    have t2 : decide ((2000 : Int) < (B.size : Int)) = true := decide_eq_true (by omega)
    have t2' : decide (2000 < B.size) = true := decide_eq_true (by omega)
    clear hT h h80 hB hz
    go_enter Tryd.func4, Tryd.ntmps4
    go_wp2_with (go_at_call 8; refine (awake_any _ HT.out).mono ?_; rintro e w2 ⟨rfl, f2⟩)
    go_ret
    exact ⟨rfl, Fresh.below_ f2 (Nat.le_refl _)⟩
set_option maxRecDepth 100000 in
set_option maxHeartbeats 8000000 in
theorem back_ok (A : Option Addr) (P : List Ins) (c : Nat) (s : List UInt8) (w : World) (hT : Tabs w) (hP : Prg w A P) (hin : ∀ x ∈ P, x.In) (hn : P.length ≤ 80) (hs : s.length ≤ 2000) : Law Tryd.prog 4 #[.slice A P.length c, .string (str s)] w := by
  have HT := Lib.hid hT
  have HP := Lib.hid hP
  have hz : (str s).size = s.length := by simp [str, ByteArray.size]
  have HPR := Lib.hid (print_any A P c w hP (by omega) hT hin)
  rw [print2_eq] at HPR
  have HPS : Hid (∀ W, Fresh w W → Calls Tryd.prog 12 #[.string (str s)] W fun e w' => ∃ v, e = .returned (.tuple #[v, .int .i64 ((parseP s).2.1 : Nat), .int .i64 (parseP s).2.2]) ∧ OwnS w' 34 5 v (parseP s).1.length (icells (parseP s).1) ∧ Fresh W w') := Lib.hid fun W f => parse_any s W (by omega) (HT.out.fresh f)
  have HBAD := Lib.hid (parse_bad (s := s))
  have HGOOD := Lib.hid (print_parse (s := s))
  have HQIN := Lib.hid (parseP_in (s := s))
  have HRT : Hid ((checkP P).2 = 0 → ∀ W, Fresh w W → Calls Tryd.prog 12 #[.string (str (printP P).1)] W fun e w' => ∃ v, e = .returned (.tuple #[v, .int .i64 0, .int .i64 0]) ∧ OwnS w' 34 5 v P.length (icells P) ∧ Fresh W w') := Lib.hid fun h0 W f => by
    rw [print_of h0]
    have hl := print_len hin
    have hle := (check_parts h0).1
    have := parse_any (printL P) W (by omega) (HT.out.fresh f)
    rw [parse_print h0 hin] at this
    exact this
  obtain ⟨N, hN⟩ : ∃ N, (printP P).1 = N := ⟨_, rfl⟩
  obtain ⟨E, hE⟩ : ∃ E, (checkP P).2 = E := ⟨_, rfl⟩
  rw [hN, hE] at HPR
  rw [hN, hE] at HRT
  obtain ⟨⟨Q, M, F⟩, hR⟩ : ∃ R, parseP s = R := ⟨_, rfl⟩
  rw [hR] at HPS HBAD HGOOD HQIN
  simp only at HPS HBAD HGOOD HQIN
  obtain ⟨B, hB⟩ : ∃ B, str s = B := ⟨_, rfl⟩
  have HB := Lib.hid hB
  rw [hB] at hz HPS ⊢
  obtain ⟨TB, hTB⟩ : ∃ TB, str N = TB := ⟨_, rfl⟩
  rw [hTB] at HPR HRT
  have t1 : decide ((80 : Int) < (P.length : Int)) = false := decide_eq_false (by omega)
  have t1' : decide (80 < P.length) = false := decide_eq_false (by omega)
  have t2 : decide ((2000 : Int) < (B.size : Int)) = false := decide_eq_false (by omega)
  have t2' : decide (2000 < B.size) = false := decide_eq_false (by omega)
  clear hT hP hin hB hTB hR hN hE hz
  go_enter Tryd.func4, Tryd.ntmps4
  go_upto_if 31 with (go_at_call 9; (with_reducible refine HPR.out.mono ?_); rintro e w1 ⟨rfl, f1⟩; have F1 := Lib.hid f1; clear f1)
  go_cut [7, 8, 9, 10] (fun u7 u8 u9 u10 wx => Fresh w wx)
  case first =>
    by_cases he : E = 0
    · have HRT2 := Lib.hid (HRT.out he)
      subst he
      clear HRT
      go_wp2_with (go_at_call 12; (with_reducible refine (HRT2.out _ F1.out).mono ?_); rintro e w2 ⟨v, rfl, hO, f2⟩; obtain ⟨A2, c2, rfl, _, _⟩ := hO.shape; have HQ := Lib.hid (prg_own hO rfl); have F2 := Lib.hid (F1.out.step f2 (fun _ _ h => h)); clear hO f2)
      go_loopg [10] P.length (fun gk u wr => ∃ q : Nat, q ≤ P.length ∧ gk = P.length - q ∧ u = .int .i64 q ∧ Fresh w2 wr)
      case atStart => exact ⟨0, by omega, rfl, rfl, Keep.refl _ _⟩
      case round =>
        obtain ⟨q, hq, rfl, rfl, hF⟩ := hrel
        have HF := Lib.hid hF
        clear t1 t1' t2 t2'
        by_cases hlt : q < P.length
        · obtain ⟨⟨op, a, b, c', d⟩, hx⟩ : ∃ x, P[q]? = some x := ⟨_, List.getElem?_eq_getElem hlt⟩
          obtain ⟨g, off, hA, lt, c0, c1, c2, c3, c4⟩ := (HP.out.fresh (F2.out.step hF (fun _ _ h => h))).five hx
          obtain ⟨g', off', hA', lt', d0, d1, d2, d3, d4⟩ := (HQ.out.fresh hF).five hx
          have t4 : decide ((q : Int) < (P.length : Int)) = true := decide_eq_true (by omega)
          have t4' : decide (q < P.length) = true := decide_eq_true hlt
          have q1 : (q : Int) < (P.length : Int) := by omega
          subst hA hA'
          clear hF hx
          go_wp2_with fail
          go_quiet (fail)
          go_wp2_with fail
          go_roundg (P.length - (q + 1))
          case measure => omega
          case rel => exact ⟨q + 1, by omega, rfl, by go_num, HF.out.drewN _⟩
        · obtain rfl : q = P.length := by omega
          have t4 : decide ((P.length : Int) < (P.length : Int)) = false := decide_eq_false (by omega)
          clear hF hlt
          go_wp2_with fail
          go_meet
          exact F2.out.step HF.out (fun _ _ h => h)
    · have te : (E == 0) = false := by simpa using he
      clear he
      go_wp2_with fail
      go_meet
      exact F1.out
  case rest =>
    have FC := Lib.hid hcut
    clear hcut t1 t1' t2 t2' HPR HRT F1 hs hn
    have tB : (B.toList == B.toList) = true := beq_self_eq_true _
    by_cases hf : F = 0
    · subst hf
      obtain ⟨h0, hc0, hp0⟩ := HGOOD.out rfl
      subst h0
      have HPQ : Hid (∀ A2 c2 W, Prg W A2 Q → Fresh w W → Calls Tryd.prog 9 #[.slice A2 Q.length c2] W fun e w' => e = .returned (.tuple #[.string B, .int .i64 0]) ∧ Fresh W w') := Lib.hid fun A2 c2 W hq f => by
        have hle := (check_parts hc0).1
        have := print_any A2 Q c2 W hq (by omega) (HT.out.fresh f) HQIN.out
        rw [print2_eq, print_of hc0, hc0, hp0, HB.out] at this
        exact this
      clear hc0 hp0 HGOOD HBAD HQIN HB
      go_wp2_with (first | (go_at_call 12; (with_reducible refine (HPS.out _ FC.out).mono ?_); rintro e w2 ⟨v, rfl, hO, f2⟩; obtain ⟨A2, c2, rfl, _, _⟩ := hO.shape; have HQ := Lib.hid (prg_own hO rfl); have F2 := Lib.hid (FC.out.step f2 (fun _ _ h => h)); clear hO f2) | (go_at_call 9; (with_reducible refine (HPQ.out _ _ _ HQ.out F2.out).mono ?_); rintro e w3 ⟨rfl, f3⟩; have F3 := Lib.hid (F2.out.step f3 (fun _ _ h => h)); clear f3) | (go_at_call 8; refine (awake_any _ (HT.out.fresh F3.out)).mono ?_; rintro e w4 ⟨rfl, f4⟩))
      go_ret
      exact ⟨rfl, Fresh.below_ (F3.out.step f4 (fun _ _ h => h)) (Nat.le_refl _)⟩
    · have te : (F == 0) = false := by simpa using hf
      obtain ⟨hq, hm⟩ := HBAD.out hf
      subst hq
      by_cases hm0 : 0 < M
      · have t5 : decide ((0 : Int) < (M : Int)) = true := decide_eq_true (by omega)
        have t5' : decide (0 < M) = true := decide_eq_true hm0
        clear hm hm0 hf HGOOD HBAD HQIN HB
        go_wp2_with (first | (go_at_call 12; (with_reducible refine (HPS.out _ FC.out).mono ?_); rintro e w2 ⟨v, rfl, hO, f2⟩; obtain ⟨A2, c2, rfl, _, _⟩ := hO.shape; have F2 := Lib.hid (FC.out.step f2 (fun _ _ h => h)); clear hO f2) | (go_at_call 8; refine (awake_any _ (HT.out.fresh F2.out)).mono ?_; rintro e w4 ⟨rfl, f4⟩))
        go_ret
        exact ⟨rfl, Fresh.below_ (F2.out.step f4 (fun _ _ h => h)) (Nat.le_refl _)⟩
      · obtain rfl : M = 0 := by omega
        obtain rfl : F = 11 := by
          rcases hm with h | h
          · omega
          · exact h
        clear hm hm0 hf HGOOD HBAD HQIN HB te
        go_wp2_with (first | (go_at_call 12; (with_reducible refine (HPS.out _ FC.out).mono ?_); rintro e w2 ⟨v, rfl, hO, f2⟩; obtain ⟨A2, c2, rfl, _, _⟩ := hO.shape; have F2 := Lib.hid (FC.out.step f2 (fun _ _ h => h)); clear hO f2) | (go_at_call 8; refine (awake_any _ (HT.out.fresh F2.out)).mono ?_; rintro e w4 ⟨rfl, f4⟩))
        go_ret
        exact ⟨rfl, Fresh.below_ (F2.out.step f4 (fun _ _ h => h)) (Nat.le_refl _)⟩
open Go.ChangeShapes Go.WideShapes Go.ChangeAt
theorem codeBack_reads (os : Os) {H : Type} (enc : TypeId × Value → H) : ∃ places, DataW.whole enc Tryd.prog ((laidWorld os).forCall (fun _ _ => 0) ⟨#[], #[.slice none 0 0, .string ⟨#[]⟩], []⟩).memory Tryd.f4.params.toList Rows.codeBackSpec.vars false (#[.slice none 0 0, .string ⟨#[]⟩] : Array Value).toList 8 = some ([.nil, .lit (.string [])], [], places) :=
  ⟨[], by kernel_rfl⟩
set_option maxRecDepth 100000 in
theorem codeBack_lifted (os : Os) (started : os.Started) (H : Type) (enc : TypeId × Value → H) (F : Stop.Interp) :
    ReturnsInHanded {} Tryd.checked os 4 .any ((OpenSpec.ofChange Rows.codeBackSpec).preRow enc Tryd.prog Tryd.f4 Rows.codeBackRow.domain false Rows.codeBackRow.laid) (((OpenSpec.ofChange Rows.codeBackSpec).at F).post enc Tryd.prog Tryd.f4 false true false false) := by
  obtain ⟨places, hx⟩ := codeBack_reads os enc
  refine law_lifted_rowS (C := Tryd.checked) (tb := 4) (by kernel_rfl) (by kernel_rfl) started (by kernel_rfl) Tryd.func4 rfl ?_ rfl Tryd.underlying4 (by kernel_rfl)
    (witness_rowZ (enc := enc) (C := Tryd.checked) (laidWorld os) #[.slice none 0 0, .string ⟨#[]⟩] (World.laidAll_os _ _ _) (World.shaped_of_ZipB (by kernel_rfl) (by kernel_rfl)) (by kernel_rfl)
      (OpenSpec.preRow_of_cond 8 hx (by kernel_rfl) (fun k hk => by cases hk) (by kernel_rfl) (laid_met os _))) ?_
  · intro ds hds
    match ds, hds with
    | [e0, e1], _ => rfl
  · intro W base args ds p hval hA hreach hL hsh
    have hT := tabs_of_laid hL hsh
    rw [Tryd.params4] at hA hval hreach
    obtain ⟨v0, vs0, d0, ds0, p0, q0, hargs, rfl, rfl, h0, r0⟩ := trodAll_cons hA
    obtain ⟨v1, vs1, d1, ds1, p1, q1, rfl, rfl, rfl, h1, r1⟩ := trodAll_cons r0
    obtain ⟨rfl, rfl, rfl⟩ := trodAll_nil r1
    obtain rfl : args = #[v0, v1] := by cases args; simp_all
    obtain ⟨A_l, n_l, c_l, rows_l, rfl, len_l, cap_l, max_l, leaf_l, at_l⟩ := arg_slice (n := 6) Tryd.underlying22 (by kernel_rfl) (by kernel_rfl) (by rw [show Tryd.prog.cellsOf 34 = 5 by kernel_rfl]; decide) (hval 0 22 v0 rfl rfl) h0
    rw [show flat Tryd.prog 6 34 = [3, 3, 3, 3, 3] by kernel_rfl] at leaf_l
    rw [show Tryd.prog.cellsOf 34 = 5 by kernel_rfl] at at_l
    obtain ⟨s, rfl, w_s⟩ := arg_string Tryd.underlying9 (hval 1 9 v1 rfl rfl) h1
    obtain ⟨P, hPl, hPp, hPi⟩ := ins_arg leaf_l at_l
    have hn : P.length = n_l := hPl.trans len_l
    subst hn
    have hm : P.length ≤ 9223372036854775807 := by unfold maxLen at max_l; omega
    obtain ⟨t, rfl⟩ : ∃ t, str t = s := ⟨s.data.toList, by simp [str]⟩
    have hz : (str t).size = t.length := by simp [str, ByteArray.size]
    have hs : t.length ≤ 9223372036854775807 := by unfold maxLen at w_s; omega
    by_cases hno : 80 < P.length ∨ 2000 < t.length
    · exact back_no A_l P.length c_l t W hT hm hs hno
    · exact back_ok A_l P c_l t W hT hPp hPi (by omega) (by omega)

theorem codeBack_said : Rows.CodeBackSaid :=
  OpenClaim.holds_of_cond 4 Tryd.f4 rfl rfl rfl rfl rfl rfl rfl ⟨rfl, rfl, rfl, rfl, rfl⟩ rfl rfl rfl rfl rfl (by kernel_rfl) Tryd.func4 (by kernel_rfl)
    (of_decide_eq_true (by kernel_rfl)) (by unfold Func.isWrapper; first | (rw [if_pos (by decide +kernel)]; kernel_rfl) | (rw [if_neg (by decide +kernel)]; exact ⟨rfl, rfl⟩))
    (fun os started H enc _ F => by rw [OpenClaim.pre_eq_preRow]; exact codeBack_lifted os started H enc F)
theorem codeBack_plain (f : FuncId) (fn : Func) (hf : Tryd.pinned.checked.prog.funcNamed "boomerang/boomeranglaw05.CodeBack" = some f) (hfn : Tryd.pinned.checked.prog.funcs[f]? = some fn) :
    true = Tryd.pinned.checked.prog.looks [] ∧ ∀ (j : Nat) t, fn.params[j]? = some t → Tryd.pinned.checked.prog.wantsStandIn t = false := by
  obtain rfl : f = 4 := Option.some.inj ((show Tryd.prog.funcNamed "boomerang/boomeranglaw05.CodeBack" = some 4 by kernel_rfl).symm.trans hf) |>.symm
  obtain rfl : fn = Tryd.f4 := (Option.some.inj (Tryd.func4.symm.trans hfn)).symm
  refine ⟨by kernel_rfl, fun j t ht => ?_⟩
  rw [Tryd.params4] at ht
  have hm := Array.mem_of_getElem? ht
  simp at hm
  rcases hm with rfl | rfl
  · exact (show Tryd.prog.wantsStandIn 22 = false by kernel_rfl)
  · exact (show Tryd.prog.wantsStandIn 9 = false by kernel_rfl)
theorem codeBack_holds : Rows.CodeBackCardSaid :=
  Claim7.holds_tied_plain_at .later [] _ _ _ _ codeBack_said (fun _ h => by cases h) (by kernel_rfl) (fun _ h => by cases h) codeBack_row_tie rfl ⟨rfl, rfl⟩ (by kernel_rfl) rfl codeBack_plain (by kernel_rfl)
end Go.Proofs.YtkhlldmnnakoaaaDoor
