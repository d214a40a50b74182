/- VmFan returns true at every input: what is sent with less fan is a beginning of what is sent with more, and the state and the steps do not hang on it. No conditions. -/
import Derived.Test.YtmamgpgigghocaaDoorSameL
namespace Go.Proofs.YtmamgpgigghocaaDoor
open Go.RowKit
attribute [local go_sem ↓] Go.wp_at_zero Go.wp_at_succ run_min run_max
attribute [local go_sem] run_eql_emit run_neq_emit eq4w

set_option maxHeartbeats 4000000 in
theorem fan_no (A : Option Addr) (n c : Nat) (s0 s1 s2 s3 : Int) (e : Ev) (o : Rest) (fan fuel more : Int) (w : World) (hT : Tab w) (hf : (decide (n ≤ 100) && decide (fan ≤ 2000)) = false ∨ fan < 0 ∨ more < 0 ∨ 100 < more) : Law Tryd.prog 4 #[.agg (caseV A n c s0 s1 s2 s3 e o fan), .int .i64 fuel, .int .i64 more] w := by
  unfold Law
  have HT := Lib.hid hT
  obtain ⟨b, hb⟩ : ∃ b, (decide (n ≤ 100) && decide (fan ≤ 2000)) = b := ⟨_, rfl⟩
  have HF : Hid (∀ W, Calls Tryd.prog 7 #[.agg (caseV A n c s0 s1 s2 s3 e o fan)] W fun en w' => en = .returned (.bool b) ∧ Fresh W w') := fun W => hb ▸ few_any A n c s0 s1 s2 s3 e o fan W
  rw [hb] at hf
  have hq : b = false ∨ (b = true ∧ decide (fan < 0) = true) ∨ (b = true ∧ decide (fan < 0) = false ∧ decide (more < 0) = true) ∨ (b = true ∧ decide (fan < 0) = false ∧ decide (more < 0) = false ∧ decide (100 < more) = true) := by
    cases b
    · exact .inl rfl
    · simp only [Bool.true_eq_false, false_or] at hf
      by_cases h1 : fan < 0
      · exact .inr (.inl ⟨rfl, decide_eq_true h1⟩)
      · by_cases h2 : more < 0
        · exact .inr (.inr (.inl ⟨rfl, decide_eq_false h1, decide_eq_true h2⟩))
        · exact .inr (.inr (.inr ⟨rfl, decide_eq_false h1, decide_eq_false h2, decide_eq_true (by omega)⟩))
  have b0 := Blk.new w 30 (caseV A n c s0 s1 s2 s3 e o fan)
  have f0 : Fresh w (w.alloc (.cells (caseV A n c s0 s1 s2 s3 e o fan) 30)) := (Keep.refl _ _).alloc _
  clear hT hf hb
  unfold caseV at HF b0 f0 ⊢
  have B0 := Lib.hid b0
  have F0 := Lib.hid f0
  clear b0 f0
  rcases hq with rfl | ⟨rfl, q1⟩ | ⟨rfl, q1, q2⟩ | ⟨rfl, q1, q2, q3⟩
  all_goals
    go_enter Tryd.func4, Tryd.ntmps4
    go_wp2_with fail
    refine (HF.out _).mono ?_
    rintro en w1 ⟨rfl, f1⟩
    have b1 := (Fresh.blk_ f1 B0.out).cell
    have l1 := (Fresh.blk_ f1 B0.out).lt
    have f1 : Fresh w w1 := F0.out.step f1 (fun _ _ h => h)
    have FT := Lib.hid (HT.out.fresh f1)
    have F1 := Lib.hid f1
    clear f1
    go_wp2_with (refine (awake_any _ FT.out).mono ?_; rintro en w5 ⟨rfl, f5⟩)
    go_returns
    exact ⟨rfl, Fresh.below_ (F1.out.step f5 (fun _ _ h => h)) (Nat.le_refl _)⟩

theorem outs_fan (f g : Nat) (hg : f ≤ g) (m : Ma) : (outs (f : Nat) m).length = min (outs (g : Nat) m).length f ∧ (outs (g : Nat) m).length ≤ g ∧ ∀ (k : Nat) (x : Em), (outs (f : Nat) m)[k]? = some x → (outs (g : Nat) m)[k]? = some x := by
  unfold outs
  simp only [Int.toNat_natCast, List.length_take]
  refine ⟨by omega, by omega, fun k x hx => ?_⟩
  rw [List.getElem?_take] at hx ⊢
  split at hx
  · rw [if_pos (by omega)]; exact hx
  · cases hx

set_option maxHeartbeats 4000000 in
theorem fan_ok (A : Option Addr) (P : List Ins) (c : Nat) (s0 s1 s2 s3 : Int) (e : Ev) (o : Rest) (fan more : Nat) (fuel : Int) (w : World) (hT : Tab w) (hP : Prg w A P) (hc1 : P.length ≤ c) (hc2 : c ≤ 9223372036854775807) (hf : (decide (P.length ≤ 100) && decide ((fan : Int) ≤ 2000)) = true) (hm : more ≤ 100) : Law Tryd.prog 4 #[.agg (caseV A P.length c s0 s1 s2 s3 e o fan), .int .i64 fuel, .int .i64 more] w := by
  unfold Law
  obtain ⟨c0, c1, c2, c3, hR, hs, hr⟩ := run_R P s0 s1 s2 s3 e fuel
  generalize outP P [s0, s1, s2, s3] e fuel = R at *
  have HT := Lib.hid hT
  have HP := Lib.hid hP
  have HR := Lib.hid hR
  have HF : Hid (∀ W, Calls Tryd.prog 7 #[.agg (caseV A P.length c s0 s1 s2 s3 e o fan)] W fun en w' => en = .returned (.bool true) ∧ Fresh W w') := fun W => hf ▸ few_any A P.length c s0 s1 s2 s3 e o fan W
  have hfan : fan ≤ 2000 := by
    simp at hf
    omega
  have b0 := Blk.new w 30 (caseV A P.length c s0 s1 s2 s3 e o fan)
  have f0 : Fresh w (w.alloc (.cells (caseV A P.length c s0 s1 s2 s3 e o fan) 30)) := (Keep.refl _ _).alloc _
  obtain ⟨hx1, hx2, hx3⟩ := outs_fan fan (fan + more) (by omega) R.1
  have hol := outs_len (fan : Nat) R.1
  have hom := outs_len ((fan + more : Nat) : Int) R.1
  obtain ⟨L, hL⟩ : ∃ L, outs (fan : Nat) R.1 = L := ⟨_, rfl⟩
  obtain ⟨M, hM⟩ : ∃ M, outs ((fan + more : Nat) : Int) R.1 = M := ⟨_, rfl⟩
  rw [hL, hM] at hx1 hx3
  rw [hM] at hx2
  rw [hL] at hol
  rw [hM] at hom
  have ecast : ((fan + more : Nat) : Int) = (fan : Int) + (more : Int) := by omega
  have HL := Lib.hid hL
  have HM : Hid (outs ((fan : Int) + (more : Int)) R.1 = M) := by rw [← ecast]; exact hM
  have HX3 := Lib.hid hx3
  have q0 : decide ((fan : Int) < 0) = false := decide_eq_false (by omega)
  have q1 : decide ((more : Int) < 0) = false := decide_eq_false (by omega)
  have q2 : decide (100 < (more : Int)) = false := decide_eq_false (by omega)
  have q2' : decide (100 < more) = false := decide_eq_false (by omega)
  have qm : min (M.length : Int) (fan : Int) = (L.length : Int) := by omega
  have q5 : decide ((fan : Int) + (more : Int) < (M.length : Int)) = false := decide_eq_false (by omega)
  have wr1 : IntKind.i64.wrap ((fan : Int) + (more : Int)) = (fan : Int) + (more : Int) := IntWalk.i64_in _ (by omega)
  clear hT hf hP hR hL hM hx3 ecast hx1
  unfold caseV at HF b0 f0 ⊢
  have B0 := Lib.hid b0
  have F0 := Lib.hid f0
  clear b0 f0
  go_enter Tryd.func4, Tryd.ntmps4
  go_wp2_with fail
  refine (HF.out _).mono ?_
  rintro en w1 ⟨rfl, g1⟩
  have BC := Lib.hid (Fresh.blk_ g1 B0.out)
  have F1 : Hid (Fresh w w1) := F0.out.step g1 (fun _ _ h => h)
  clear g1 HF B0 F0
  have RUN : Hid (∀ W (o : Rest) (fan : Int), Fresh w1 W → Calls Tryd.prog 9 #[.slice A P.length c, .agg #[.int .i64 s0, .int .i64 s1, .int .i64 s2, .int .i64 s3], .agg #[.int .i64 e.at_, .int .i64 o.src, .int .i64 o.sent, .int .i64 o.no, .int .i64 e.dst, .int .i64 e.kind, .int .i64 e.data], .int .i64 fuel, .int .i64 fan] W fun en w' =>
      ∃ A' c', en = .returned (.tuple #[.agg #[.int .i64 c0, .int .i64 c1, .int .i64 c2, .int .i64 c3], .slice A' (outs fan R.1).length c', .int .i64 (R.2 : Nat)]) ∧ c' ≤ 9223372036854775807 ∧ OwnS w' 37 4 (.slice A' (outs fan R.1).length c') (outs fan R.1).length (ecells (outs fan R.1)) ∧ Fresh W w' ∧ ∀ k, (Value.slice A' (outs fan R.1).length c').ownBlock = some k → W.heap.size ≤ k) :=
    fun W o fan f => HR.out A c o fan W (HP.out.fresh (F1.out.step f (fun _ _ h => h))) hc1 hc2 (HT.out.fresh (F1.out.step f (fun _ _ h => h)))
  have cc := BC.out.cell
  have lc := BC.out.lt
  go_wp2_with fail
  refine (RUN.out w1 o fan (Keep.refl _ _)).mono ?_
  rintro en w2 ⟨A2, d2, rfl, hd2, o2, f2, n2⟩
  rw [HL.out] at o2 ⊢
  clear n2
  have O2 := Lib.hid o2
  have F2 : Hid (Fresh w1 w2) := f2
  clear o2 f2 cc lc
  have cc := (F2.out.blk_ BC.out).cell
  have lc := (F2.out.blk_ BC.out).lt
  go_wp2_with fail
  have FB : Fresh w2 (w2.alloc (.cells #[.int .i64 c0, .int .i64 c1, .int .i64 c2, .int .i64 c3] 24)) := (Keep.refl _ _).alloc _
  have BT := Blk.new w2 24 #[.int .i64 c0, .int .i64 c1, .int .i64 c2, .int .i64 c3]
  have HRB := RUN.out _ o ((fan : Int) + (more : Int)) (F2.out.step FB (fun _ _ h => h))
  rw [HM.out] at HRB
  refine HRB.mono ?_
  rintro en w4 ⟨A4, d4, rfl, hd4, o4, f4, n4⟩
  have BS4 := Lib.hid (BT.keep f4 (fun h => h))
  have f4 := Keep.step FB f4 (fun _ _ h => h)
  have O34 := Lib.hid o4
  have O24 := Lib.hid (O2.out.fresh f4)
  have F4 : Hid (Fresh w1 w4) := F2.out.step f4 (fun _ _ h => h)
  have BC4 := Lib.hid (F4.out.blk_ BC.out)
  clear n4 o4 FB BT HRB cc lc f4
  have cs := BS4.out.cell
  have ls := BS4.out.lt
  have cc := BC4.out.cell
  have lc := BC4.out.lt
  go_wp2_with fail
  have FW : Hid (Fresh w w4) := F1.out.step F4.out (fun _ _ h => h)
  have TB : Hid (∀ W, Fresh w4 W → Tab W) := fun W f => HT.out.fresh (FW.out.step f (fun _ _ h => h))
  clear cs ls cc lc BS4 BC4 O2 F2 RUN BC hd4 q0 q1 q2 q2' qm q5 wr1
  have hl3 : L.length ≤ 1024 := by omega
  have hm3 : M.length ≤ 1024 := by omega
  go_loopg [13] L.length (fun gk u wr => ∃ q : Nat, q ≤ L.length ∧ gk = L.length - q ∧ u = .int .i64 q ∧ Fresh w4 wr)
  case atStart => exact ⟨0, Nat.zero_le _, rfl, rfl, by (repeat (first | (with_reducible exact Keep.refl _ _) | (with_reducible assumption) | (with_reducible refine Keep.drew ?_) | (with_reducible refine Keep.drewN ?_ _) | (with_reducible refine Keep.alloc ?_ _) | (with_reducible refine Keep.setCell ?_ ?_ _) | (with_reducible refine fun _ => rfl)))⟩
  case round =>
    obtain ⟨q, hq, rfl, rfl, hF⟩ := hrel
    have FR : Hid (Fresh w4 wr) := hF
    by_cases hlt : q < L.length
    · obtain ⟨x, hx⟩ : ∃ x, L[q]? = some x := ⟨_, List.getElem?_eq_getElem hlt⟩
      have hx' := HX3.out q x hx
      have hlm := (List.getElem?_eq_some_iff.1 hx').1
      obtain ⟨ba, oa, ea, la, a0, a1, a2, a3⟩ := out_at (O24.out.fresh hF) hx
      obtain ⟨bb, ob, eb, lb, e0, e1, e2, e3⟩ := out_at (O34.out.fresh hF) hx'
      have hq0 : (0 : Int) ≤ (q : Int) := by omega
      have hq1 : (q : Int) < (L.length : Int) := by omega
      have hq2 : (q : Int) < (M.length : Int) := by omega
      have t1 : decide ((q : Int) < (L.length : Int)) = true := decide_eq_true hq1
      have t1' : decide (q < L.length) = true := decide_eq_true hlt
      clear hF hx hx'
      subst ea eb
      obtain ⟨x0, x1, x2, x3⟩ := x
      simp only at a0 a1 a2 a3 e0 e1 e2 e3
      go_wp2_with fail
      go_quiet (fail)
      go_wp2_with fail
      go_roundg (L.length - (q + 1))
      case measure => omega
      case rel => exact ⟨q + 1, by omega, rfl, by go_num, by have := FR.out; (repeat (first | (with_reducible exact Keep.refl _ _) | (with_reducible assumption) | (with_reducible refine Keep.drew ?_) | (with_reducible refine Keep.drewN ?_ _) | (with_reducible refine Keep.alloc ?_ _) | (with_reducible refine Keep.setCell ?_ ?_ _) | (with_reducible refine fun _ => rfl)))⟩
    · obtain rfl : q = L.length := by omega
      have t1 : decide ((L.length : Int) < (L.length : Int)) = false := decide_eq_false (by omega)
      clear hF
      go_wp2_with (refine (awake_any _ (TB.out _ FR.out)).mono ?_; rintro en w9 ⟨rfl, f9⟩)
      go_returns
      exact ⟨rfl, Fresh.below_ ((FW.out.step FR.out (fun _ _ h => h)).step f9 (fun _ _ h => h)) (Nat.le_refl _)⟩
open Go.ChangeShapes Go.WideShapes Go.ChangeAt
theorem vmFan_laid (os : Os) : laidMet Tryd.prog Rows.vmFanRow.laid ((laidWorld os).forCall (fun _ _ => 0) ⟨#[], #[.agg #[.slice none 0 0, .int .i64 0, .int .i64 0, .int .i64 0, .int .i64 0, .int .i64 0, .int .i64 0, .int .i64 0, .int .i64 0, .int .i64 0, .int .i64 0, .int .i64 0, .int .i64 0], .int .i64 0, .int .i64 0], []⟩).memory :=
  laidMet_of_run' 8 (by kernel_rfl) (by kernel_rfl)
theorem vmFan_reads (os : Os) {H : Type} (enc : TypeId × Value → H) : ∃ places, DataW.whole enc Tryd.prog ((laidWorld os).forCall (fun _ _ => 0) ⟨#[], #[.agg #[.slice none 0 0, .int .i64 0, .int .i64 0, .int .i64 0, .int .i64 0, .int .i64 0, .int .i64 0, .int .i64 0, .int .i64 0, .int .i64 0, .int .i64 0, .int .i64 0, .int .i64 0], .int .i64 0, .int .i64 0], []⟩).memory Tryd.f4.params.toList Rows.vmFanSpec.vars false (#[.agg #[.slice none 0 0, .int .i64 0, .int .i64 0, .int .i64 0, .int .i64 0, .int .i64 0, .int .i64 0, .int .i64 0, .int .i64 0, .int .i64 0, .int .i64 0, .int .i64 0, .int .i64 0], .int .i64 0, .int .i64 0] : Array Value).toList 8 = some ([.agg [.nil, .agg [.lit (.int .i64 0), .lit (.int .i64 0), .lit (.int .i64 0), .lit (.int .i64 0)], .agg [.agg [.lit (.int .i64 0), .lit (.int .i64 0), .lit (.int .i64 0), .lit (.int .i64 0)], .lit (.int .i64 0), .lit (.int .i64 0), .lit (.int .i64 0)], .lit (.int .i64 0)], .lit (.int .i64 0), .lit (.int .i64 0)], [], places) :=
  ⟨[], by kernel_rfl⟩
set_option maxRecDepth 100000 in
theorem vmFan_lifted (os : Os) (started : os.Started) (H : Type) (enc : TypeId × Value → H) (F : Stop.Interp) :
    ReturnsInHanded {} Tryd.checked os 4 .any ((OpenSpec.ofChange Rows.vmFanSpec).preRow enc Tryd.prog Tryd.f4 Rows.vmFanRow.domain false Rows.vmFanRow.laid) (((OpenSpec.ofChange Rows.vmFanSpec).at F).post enc Tryd.prog Tryd.f4 false true false false) := by
  obtain ⟨places, hx⟩ := vmFan_reads os enc
  refine law_lifted_row (C := Tryd.checked) (tb := 4) (by kernel_rfl) (by kernel_rfl) started (by kernel_rfl) Tryd.func4 rfl ?_ rfl Tryd.underlying4 (by kernel_rfl)
    (witness_row_at (enc := enc) (C := Tryd.checked) false (laidWorld os) #[.agg #[.slice none 0 0, .int .i64 0, .int .i64 0, .int .i64 0, .int .i64 0, .int .i64 0, .int .i64 0, .int .i64 0, .int .i64 0, .int .i64 0, .int .i64 0, .int .i64 0, .int .i64 0], .int .i64 0, .int .i64 0] rfl (by kernel_rfl) (by kernel_rfl) (by kernel_rfl)
      (OpenSpec.preRow_of_cond 8 hx (by kernel_rfl) (fun k hk => by cases hk) (by kernel_rfl) (vmFan_laid os))) ?_
  · intro ds hds
    match ds, hds with
    | [e0, e1, e2], _ => rfl
  · intro W base args ds p hval hA hreach hL
    have hT := tab_of_laid hL
    rw [Tryd.params4] at hA hval hreach
    obtain ⟨v0, vs0, d0, ds0, p0, q0, hargs, rfl, rfl, h0, r0⟩ := trodAll_cons hA
    obtain ⟨v1, vs1, d1, ds1, p1, q1, rfl, rfl, rfl, h1, r1⟩ := trodAll_cons r0
    obtain ⟨v2, vs2, d2, ds2, p2, q2, rfl, rfl, rfl, h2, r2⟩ := trodAll_cons r1
    obtain ⟨rfl, rfl, rfl⟩ := trodAll_nil r2
    obtain rfl : args = #[v0, v1, v2] := by cases args; simp_all
    obtain ⟨l0, rfl, hl0⟩ := arg_struct (n := 6) Tryd.underlying30 (by kernel_rfl) (hval 0 30 v0 rfl rfl) h0
    have hfl : flat Tryd.prog 6 30 = [22, 3, 3, 3, 3, 3, 3, 3, 3, 3, 3, 3, 3] := by kernel_rfl
    rw [hfl] at hl0; clear hfl
    obtain ⟨u_P, l1, e1, h_P, hl1⟩ := all2_cons hl0
    obtain ⟨s0, l2, e2, w_s0, hl2⟩ := all2_int Tryd.underlying3 hl1
    obtain ⟨s1, l3, e3, w_s1, hl3⟩ := all2_int Tryd.underlying3 hl2
    obtain ⟨s2, l4, e4, w_s2, hl4⟩ := all2_int Tryd.underlying3 hl3
    obtain ⟨s3, l5, e5, w_s3, hl5⟩ := all2_int Tryd.underlying3 hl4
    obtain ⟨e0, l6, e6, w_e0, hl6⟩ := all2_int Tryd.underlying3 hl5
    obtain ⟨e1, l7, e7, w_e1, hl7⟩ := all2_int Tryd.underlying3 hl6
    obtain ⟨e2, l8, e8, w_e2, hl8⟩ := all2_int Tryd.underlying3 hl7
    obtain ⟨e3, l9, e9, w_e3, hl9⟩ := all2_int Tryd.underlying3 hl8
    obtain ⟨e4, l10, e10, w_e4, hl10⟩ := all2_int Tryd.underlying3 hl9
    obtain ⟨e5, l11, e11, w_e5, hl11⟩ := all2_int Tryd.underlying3 hl10
    obtain ⟨e6, l12, e12, w_e6, hl12⟩ := all2_int Tryd.underlying3 hl11
    obtain ⟨fan, l13, e13, w_fan, hl13⟩ := all2_int Tryd.underlying3 hl12
    obtain rfl := all2_nil hl13
    subst e13 e12 e11 e10 e9 e8 e7 e6 e5 e4 e3 e2 e1
    clear hl13 hl12 hl11 hl10 hl9 hl8 hl7 hl6 hl5 hl4 hl3 hl2 hl1 hl0
    obtain ⟨fuel, rfl, w_fuel⟩ := arg_int Tryd.underlying3 (hval 1 3 v1 rfl rfl) h1
    obtain ⟨more, rfl, w_more⟩ := arg_int Tryd.underlying3 (hval 2 3 v2 rfl rfl) h2
    obtain ⟨A, n, cp, rows, rfl, hlen, hcap, hmax, hleaf, hat⟩ := leaf_slice (n := 6) Tryd.underlying22 (by kernel_rfl) (by kernel_rfl) (by rw [show Tryd.prog.cellsOf 41 = 5 by kernel_rfl]; decide) h_P
    rw [show flat Tryd.prog 6 41 = [3, 3, 3, 3, 3] by kernel_rfl] at hleaf
    rw [show Tryd.prog.cellsOf 41 = 5 by kernel_rfl] at hat
    obtain ⟨P, hPl, hPp⟩ := ins_arg hleaf hat
    have hn : P.length = n := hPl.trans hlen
    subst hn
    have hm : cp ≤ 9223372036854775807 := by unfold maxLen at hmax; omega
    by_cases hbad : (decide (P.length ≤ 100) && decide (fan ≤ 2000)) = false ∨ fan < 0 ∨ more < 0 ∨ 100 < more
    · exact fan_no A P.length cp s0 s1 s2 s3 ⟨e0, e5, e6, e4⟩ ⟨e1, e2, e3⟩ fan fuel more W hT hbad
    · obtain ⟨f, rfl⟩ := Int.eq_ofNat_of_zero_le (show 0 ≤ fan by omega)
      obtain ⟨g, rfl⟩ := Int.eq_ofNat_of_zero_le (show 0 ≤ more by omega)
      exact fan_ok A P cp s0 s1 s2 s3 ⟨e0, e5, e6, e4⟩ ⟨e1, e2, e3⟩ f g fuel W hT hPp hcap hm (by cases h : (decide (P.length ≤ 100) && decide ((f : Int) ≤ 2000)) with | true => rfl | false => exact absurd (.inl h) hbad) (by omega)

theorem vmFan_said : Rows.VmFanSaid :=
  OpenClaim.holds_of_cond 4 Tryd.f4 rfl rfl rfl rfl rfl rfl rfl ⟨rfl, rfl, rfl, rfl, rfl⟩ rfl rfl rfl rfl rfl (by kernel_rfl) Tryd.func4 (by kernel_rfl)
    (of_decide_eq_true (by kernel_rfl)) (by unfold Func.isWrapper; first | (rw [if_pos (by decide +kernel)]; kernel_rfl) | (rw [if_neg (by decide +kernel)]; exact ⟨rfl, rfl⟩))
    (fun os started H enc _ F => by rw [OpenClaim.pre_eq_preRow]; exact vmFan_lifted os started H enc F)
theorem vmFan_plain (f : FuncId) (fn : Func) (hf : Tryd.pinned.checked.prog.funcNamed "boomerang/boomeranglaw06.VmFan" = some f) (hfn : Tryd.pinned.checked.prog.funcs[f]? = some fn) :
    false = Tryd.pinned.checked.prog.looks [] ∧ ∀ (j : Nat) t, fn.params[j]? = some t → Tryd.pinned.checked.prog.wantsStandIn t = false := by
  obtain rfl : f = 4 := Option.some.inj ((show Tryd.prog.funcNamed "boomerang/boomeranglaw06.VmFan" = some 4 by kernel_rfl).symm.trans hf) |>.symm
  obtain rfl : fn = Tryd.f4 := (Option.some.inj (Tryd.func4.symm.trans hfn)).symm
  refine ⟨by kernel_rfl, fun j t ht => ?_⟩
  rw [Tryd.params4] at ht
  have hm := Array.mem_of_getElem? ht
  simp at hm
  rcases hm with rfl | rfl
  · exact (show Tryd.prog.wantsStandIn 30 = false by kernel_rfl)
  · exact (show Tryd.prog.wantsStandIn 3 = false by kernel_rfl)
theorem vmFan_holds : Rows.VmFanCardSaid :=
  Claim7.holds_tied_plain_at .later [] _ _ _ _ vmFan_said (fun _ h => by cases h) (by kernel_rfl) (fun _ h => by cases h) vmFan_row_tie rfl ⟨rfl, rfl⟩ (by kernel_rfl) rfl vmFan_plain (by kernel_rfl)
end Go.Proofs.YtmamgpgigghocaaDoor
