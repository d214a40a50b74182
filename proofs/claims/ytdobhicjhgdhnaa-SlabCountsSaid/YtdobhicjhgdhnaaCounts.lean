/- SlabCounts returns true at every input: what is live and what is left are as many as there are slots, and a handle of what was freed tells nothing. No conditions. -/
import Derived.Test.YtdobhicjhgdhnaaEqH
import Derived.Deep.DeepCutAuto
namespace Go.Proofs.Ytdobhicjhgdhnaa
open Go.RowKit
attribute [local go_sem ↓] Go.wp_at_zero Go.wp_at_succ run_eql_handle

set_option maxRecDepth 100000 in
theorem counts_arg (A : Option Addr) (n c : Nat) (a b : Int) (w : World) (h : a < 1 ∨ 40 < a ∨ b < 0 ∨ a < b ∨ 60 < n) (hn : n ≤ 9223372036854775807) :
    Law Try.prog 4 #[.agg #[.int .i64 a, .int .i64 b], .slice A n c] w := by
  unfold Law
  have hq : decide (a < 1) = true ∨ (decide (a < 1) = false ∧ decide (40 < a) = true) ∨ (decide (a < 1) = false ∧ decide (40 < a) = false ∧ decide (b < 0) = true) ∨ (decide (a < 1) = false ∧ decide (40 < a) = false ∧ decide (b < 0) = false ∧ decide (a < b) = true) ∨
      (decide (a < 1) = false ∧ decide (40 < a) = false ∧ decide (b < 0) = false ∧ decide (a < b) = false ∧ decide (n ≤ 60) = false) := by
    by_cases h1 : a < 1 <;> by_cases h2 : 40 < a <;> by_cases h3 : b < 0 <;> by_cases h4 : a < b <;> simp [h1, h2, h3, h4] <;> omega
  clear h
  rcases hq with q1 | ⟨q1, q2⟩ | ⟨q1, q2, q3⟩ | ⟨q1, q2, q3, q4⟩ | ⟨q1, q2, q3, q4, q5⟩
  all_goals
    go_enter Try.func4, Try.ntmps4
    go_wp2_with (first | (go_at_call 9; refine (few_any A n c _).mono ?_; rintro e w1 ⟨rfl, rfl⟩; rw [q5]) | (go_at_call 10; refine (awake_any _).mono ?_; rintro e w2 ⟨rfl, h3⟩))
    go_ret
    exact ⟨rfl, Fresh.below_ (((Keep.refl _ _).alloc _).step h3 (fun _ _ h => h)) (Nat.le_refl _)⟩

set_option maxRecDepth 100000 in
set_option maxHeartbeats 8000000 in
theorem counts_ok (A : Option Addr) (n c : Nat) (N : Nat) (r : Int) (rows : List (List Value)) (w : World) (h1 : 1 ≤ N) (h2 : N ≤ 40) (h3 : 0 ≤ r) (h4 : r ≤ N) (hn : n ≤ 60)
    (hl : rows.length = n) (hr : ∀ x ∈ rows, OpRow x) (ha : SliceAt w A 7 rows) :
    Law Try.prog 4 #[.agg #[.int .i64 (N : Int), .int .i64 r], .slice A n c] w := by
  unfold Law
  have q1 : decide ((N : Int) < 1) = false := by simp; omega
  have q2 : decide (40 < (N : Int)) = false := by simp; omega
  have q3 : decide (r < 0) = false := by simp; omega
  have q4 : decide ((N : Int) < r) = false := by simp; omega
  have q5 : decide (n ≤ 60) = true := by simp; omega
  have H1 := Lib.hid hl
  have H3 := Lib.hid hr
  have H5 := Lib.hid ha
  clear hl hr ha
  go_enter Try.func4, Try.ntmps4
  go_wp2_with (go_at_call 9; refine (few_any A n c _).mono ?_; rintro e w1 ⟨rfl, rfl⟩; rw [q5])
  refine (new_any N r (by omega) (by omega) (by omega) (by omega) _).mono ?_
  rintro e w1 ⟨g, vs, vf, rfl, s1, f1, n1⟩
  have S0 : CInv w N 0 g r vs vf (.slice none 0 0) (.slice none 0 0) (St.new N r) [] [] w1 :=
    ⟨s1, CS.start N r, OwnS.nil _ _ _, OwnS.nil _ _ _, by simp [Value.ownBlock], by simp, by simp, f1.blk_ (Blk.new w 41 _), ((Keep.refl _ w).alloc _).step f1 (fun _ _ h => h), fun k hk => by have := n1 k hk; simp at this; omega, by simp [Value.ownBlock], by simp [Value.ownBlock]⟩
  have HS0 := Lib.hid S0
  clear s1 f1 n1 S0
  obtain ⟨i0, hi, hz0, hz1, hz2⟩ := info_parts info_handle
  have h02 : 0 < 2 := by omega
  have hN : N ≤ 100 := by omega
  have hr0 : 0 ≤ r ∧ r ≤ 100 := by omega
  go_wp2_with fail
  go_loopg [7, 8, 9] n (fun gk a d u wr => ∃ (k : Nat) (vf lv dv : Value) (s : St) (live dead : List (Int × Int)), k ≤ n ∧ gk = n - k ∧ a = lv ∧ d = dv ∧ u = .int .i64 k ∧ CInv w N k g r vs vf lv dv s live dead wr)
  case atStart => exact ⟨0, vf, _, _, _, [], [], by omega, rfl, rfl, rfl, rfl, HS0.out⟩
  case round =>
    clear HS0
    obtain ⟨k, vf, lv, dv, s, live, dead, hk, rfl, rfl, rfl, rfl, hS⟩ := hrel
    by_cases hlt : k < n
    · obtain ⟨b0, off, o, rfl, lt0, hO⟩ := opAt_arg H5.out H3.out k (by rw [H1.out]; exact hlt)
      have hO := hO.fresh hS.fr
      obtain ⟨p0, p1, p2, p3, p4, p5, p6⟩ := hO
      have lt1 := Nat.lt_of_lt_of_le lt0 hS.fr.size
      have hll := hS.ll
      have hdl := hS.dl
      have hlN := hS.cs.lle
      obtain ⟨A2, cap2, rfl, hc2, hm2⟩ := hS.ol.shape
      have hm2 : cap2 ≤ 9223372036854775807 := by unfold maxLen at hm2; omega
      obtain ⟨A3, cap3, rfl, hc3, hm3⟩ := hS.od.shape
      have hm3 : cap3 ≤ 9223372036854775807 := by unfold maxLen at hm3; omega
      obtain ⟨oa, oc, ou, ov, ot, oh, oy⟩ := o
      simp only at p0 p1 p2 p3 p4 p5 p6
      have hk1 : k ≤ 100 := by omega
      have hB := hS.fresh ((Keep.refl _ wr).alloc (.cells #[.int .i64 oa, .int .i64 oc, .bool ou, .int .i64 ov, .int .i64 ot, .int .i64 oh, .int .i64 oy] 34))
      have HB := Lib.hid hB
      have hLf := left_cq hB.cs hN hk1 hr0 hB.ss
      have HLf := Lib.hid hLf
      clear hB hS hLf
      have bo := Blk.new wr 34 #[.int .i64 oa, .int .i64 oc, .bool ou, .int .i64 ov, .int .i64 ot, .int .i64 oh, .int .i64 oy]
      have BO := Lib.hid bo
      clear bo
      go_upto_if 82 with (go_at_call 15; refine HLf.out.mono ?_; rintro e w2 ⟨rfl, m2, rfl⟩)
      go_cut [7, 8, 12, 13, 14, 15, 16, 17, 18, 19] (fun s7 s8 _ _ _ _ _ _ _ _ wx => ∃ (vf lv dv : Value) (s : St) (live dead : List (Int × Int)), s7 = lv ∧ s8 = dv ∧ CInv w N (k + 1) g r vs vf lv dv s live dead wx)
      case first =>
        have hB2 := HB.out.fresh ((Keep.refl _ _).drewN m2)
        have HB2 := Lib.hid hB2
        have BO2 := Lib.hid (BO.out.drewN m2)
        clear hB2 HLf
        by_cases h0 : oa = 0
        · as_aux_lemma =>
            have t0 : (oa == 0) = true := by simpa using h0
            subst h0
            go_wp2_with fail
            refine (take_c HB2.out.cs hN hk1 hr0 HB2.out.ss oc ov ou).mono ?_
            rintro e w3 (⟨er, her, rfl, f3⟩ | ⟨j, t, rfl, tk⟩)
            · have te : (er == 0) = false := by simpa using her
              have HI := Lib.hid ((HB2.out.fresh f3).fresh ((Keep.refl _ _).alloc (.cells #[.int .i64 0, .int .i64 0] 32))).more
              clear f3 her
              go_wp2_with fail
              go_meet
              exact ⟨vf, _, _, s, live, dead, rfl, rfl, HI.out⟩
            · have TK := Lib.hid tk
              obtain ⟨hoff, hnew, hle, s', vf', c1, ss1, k1, la1⟩ := tk
              obtain ⟨r1, r2, r3, r4, r5⟩ := HB2.out.rest k1 la1
              have bo3 := BO2.out.keep k1 (HB2.out.ss.off BO2.out (by decide) (by decide) (by decide))
              rw [HB2.out.cs.left] at hle
              obtain ⟨X, hX⟩ : ∃ X, w3.alloc (.cells #[.int .i64 (j : Nat), .int .i64 t] 32) = X := ⟨_, rfl⟩
              have fX : Fresh w3 X := by rw [← hX]; exact (Keep.refl _ _).alloc _
              have bX : Blk X w3.heap.size 32 #[.int .i64 (j : Nat), .int .i64 t] := by rw [← hX]; exact Blk.new _ _ _
              have LQ : Hid (∀ m, Calls Try.prog 15 #[.pointer (some ⟨g, 0, none⟩)] (X.drewN m) fun e w' => e = .returned (.int .i64 ((N : Int) - live.length - 1)) ∧ ∃ m', w' = (X.drewN m).drewN m') := fun m => by
                have := left_cq c1 hN (by omega) hr0 ((ss1.fresh fX).fresh ((Keep.refl _ _).drewN m))
                rw [List.length_append, List.length_singleton] at this
                rw [show (N : Int) - live.length - 1 = (N : Int) - ((live.length + 1 : Nat) : Int) by omega]
                exact this
              have R1 := Lib.hid (r1.fresh fX)
              have R2 := Lib.hid (r2.fresh fX)
              have BX := Lib.hid bX
              have FX := Lib.hid fX
              have cO := (fX.blk_ bo3).cell
              have lO := (fX.blk_ bo3).lt
              have cR := (fX.blk_ r3).cell
              have lR := (fX.blk_ r3).lt
              have cH := bX.cell
              have lH := bX.lt
              have HO := Lib.hid hoff
              have HN := Lib.hid hnew
              have HX := Lib.hid hX
              have u1 : ((N : Int) - (live.length : Int) == 0) = false := by rw [beq_eq_false_iff_ne]; omega
              have u2 : ((N : Int) - (live.length : Int) - 1 != (N : Int) - (live.length : Int) - 1) = false := by simp
              clear hoff hnew c1 ss1 k1 la1 r1 r2 r3 r4 r5 bo3 hX fX bX p0 p1 p2 p3 p4 p5 p6
              have hu : ou = true ∨ (ou = false ∧ decide ((N : Int) - (live.length : Int) - 1 < r) = false) := by
                cases ou
                · right; refine ⟨rfl, ?_⟩; have := hle.2 rfl; simp; omega
                · exact .inl rfl
              clear hle
              rcases hu with rfl | ⟨rfl, u3⟩
              all_goals
                go_wp2_with fail
                rw [HX.out]
                go_quiet ((go_at_call 15; refine Calls.quiet_of (LQ.out _)))
                go_wp2_with fail
                have FY : Hid (Fresh X (X.drewN nq)) := (Keep.refl _ _).drewN nq
                go_loopg [14] live.length (fun gk u wq => ∃ q : Nat, q ≤ live.length ∧ gk = live.length - q ∧ u = .int .i64 q ∧ Fresh X wq)
                case atStart => exact ⟨0, by omega, rfl, rfl, FY.out⟩
                case round =>
                  obtain ⟨q, hq, rfl, rfl, hF⟩ := hrel
                  have HF := Lib.hid hF
                  have cH := (hF.blk_ BX.out).cell
                  have lH := (hF.blk_ BX.out).lt
                  clear hF cO lO cR lR
                  by_cases hlq : q < live.length
                  · obtain ⟨p, hp⟩ : ∃ p, live[q]? = some p := ⟨_, List.getElem?_eq_getElem hlq⟩
                    obtain ⟨gd, offd, capd, hv, ld, _, _, hcd⟩ := (R1.out.fresh HF.out).form (by omega)
                    injection hv with hv1 _ hv3
                    subst hv1 hv3
                    have d0 := hcd _ _ (hcells_at _ _ _ hp).1
                    have v1 : (p.1 == (j : Int)) = false := by rw [beq_eq_false_iff_ne]; exact HO.out p (List.mem_of_getElem? hp)
                    obtain ⟨pa, pb⟩ := p
                    simp only at d0 v1
                    have q0 : (0 : Int) ≤ (q : Int) := by omega
                    have q1' : (q : Int) < (live.length : Int) := by omega
                    clear hcd hp
                    go_wp2_with fail
                    go_quiet (fail)
                    go_wp2_with fail
                    go_roundg (live.length - (q + 1))
                    case measure => omega
                    case rel => exact ⟨q + 1, by omega, rfl, by go_num, HF.out.drewN nq⟩
                  · obtain rfl : q = live.length := by omega
                    go_wp2_with fail
                    go_loopg [15] dead.length (fun gk u wq => ∃ q : Nat, q ≤ dead.length ∧ gk = dead.length - q ∧ u = .int .i64 q ∧ Fresh X wq)
                    case atStart => exact ⟨0, by omega, rfl, rfl, HF.out⟩
                    case round =>
                      clear HF cH lH
                      obtain ⟨q, hq, rfl, rfl, hF⟩ := hrel
                      have HF := Lib.hid hF
                      have bH := hF.blk_ BX.out
                      have BH := Lib.hid bH
                      have cH := bH.cell
                      have lH := bH.lt
                      clear hF bH
                      by_cases hlq : q < dead.length
                      · obtain ⟨p, hp⟩ : ∃ p, dead[q]? = some p := ⟨_, List.getElem?_eq_getElem hlq⟩
                        obtain ⟨gd, offd, capd, hv, ld, _, _, hcd⟩ := (R2.out.fresh HF.out).form (by omega)
                        injection hv with hv1 _ hv3
                        subst hv1 hv3
                        have d0 := hcd _ _ (hcells_at _ _ _ hp).1
                        have d1 := hcd _ _ (hcells_at _ _ _ hp).2
                        rw [← Nat.add_assoc] at d1
                        have hne := HN.out p (List.mem_of_getElem? hp)
                        obtain ⟨pa, pb⟩ := p
                        simp only at d0 d1
                        have v1 : (pa == (j : Int) && pb == t) = false := by
                          rw [Bool.and_eq_false_iff, beq_eq_false_iff_ne, beq_eq_false_iff_ne]
                          by_cases e1 : pa = (j : Int)
                          · right
                            rintro rfl
                            exact hne (by rw [e1])
                          · exact .inl e1
                        have q0 : (0 : Int) ≤ (q : Int) := by omega
                        have q1' : (q : Int) < (dead.length : Int) := by omega
                        clear hcd hp hne
                        go_wp2_with fail
                        go_quiet (fail)
                        go_wp2_with fail
                        go_roundg (dead.length - (q + 1))
                        case measure => omega
                        case rel => exact ⟨q + 1, by omega, rfl, by go_num, HF.out.drewN nq⟩
                      · obtain rfl : q = dead.length := by omega
                        have HOW := Lib.hid ((R1.out.fresh HF.out).alloc (.cells #[.int .i64 (j : Nat), .int .i64 t] 32))
                        have hc : Src (wr.alloc (.cells #[.int .i64 (j : Nat), .int .i64 t] 32)) 2 (.slice (some ⟨wr.heap.size, 0, none⟩) 1 1) 1 (hcells [((j : Int), t)]) := by
                          have := Src.one_new wr 32 2 #[.int .i64 (j : Nat), .int .i64 t] rfl
                          simpa [hcells] using this
                        have HC := Lib.hid hc
                        have hL1 : live.length + 1 ≤ maxLen := one_le_maxLen (by omega)
                        have hL2 : (live.length + 1) * 16 ≤ 140737488355328 := by omega
                        have FW : Hid (Fresh w3 (wr.alloc (.cells #[.int .i64 (j : Nat), .int .i64 t] 32))) := (FX.out.step HF.out (fun _ _ h => h)).alloc _
                        clear hc
                        go_wp2_with (at_builtin; refine wpList_append_OwnS _ rfl (.tmp 143) (.tmp 145) 30 rfl 32 i0 (.agg #[.int .i64 0, .int .i64 0]) 2 16 Try.underlying30 hi hz0 hz1 hz2 rfl h02 (.slice A2 live.length cap2) live.length (hcells live) rfl HOW.out (.slice (some ⟨wr.heap.size, 0, none⟩) 1 1) 1 (hcells [((j : Int), t)]) rfl HC.out (hcells_one _) hL1 hL2 ?_; intro v4 w4 o4 k4 n4; obtain ⟨A4, cap4, rfl, _, _⟩ := o4.shape)
                        obtain ⟨vf4, s4, h4⟩ := HB2.out.took TK.out FW.out o4 k4 n4
                        go_meet
                        exact ⟨vf4, _, _, s4, _, dead, rfl, rfl, h4⟩
        · as_aux_lemma =>
            have t0 : (oa == 0) = false := by simpa using h0
            clear h0
            by_cases h1' : oa = 1
            rotate_left
            · have t1 : (oa == 1) = false := by simpa using h1'
              have HI := Lib.hid HB2.out.more
              clear h1' p0 p1 p2 p3 p4 p5 p6
              go_wp2_with fail
              go_meet
              exact ⟨vf, _, _, s, live, dead, rfl, rfl, HI.out⟩
            · have t1 : (oa == 1) = true := by simpa using h1'
              clear h1'
              by_cases hln : live.length = 0
              · have t2 : decide ((0 : Int) < (live.length : Int)) = false := decide_eq_false (by omega)
                have t2' : decide (0 < live.length) = false := decide_eq_false (by omega)
                have HI := Lib.hid HB2.out.more
                clear hln p0 p1 p2 p3 p4 p5 p6
                go_wp2_with fail
                go_meet
                exact ⟨vf, _, _, s, live, dead, rfl, rfl, HI.out⟩
              · have hpos : 0 < live.length := by omega
                have t2 : decide ((0 : Int) < (live.length : Int)) = true := decide_eq_true (by omega)
                have t2' : decide (0 < live.length) = true := decide_eq_true (by omega)
                obtain ⟨j, hj, ej, b1, b2⟩ := pick_at ot live.length hpos
                obtain ⟨gl, offl, capl, hv, lgl, hlc, _, hcl⟩ := HB2.out.ol.form hpos
                injection hv with hv1 _ hv3
                subst hv1 hv3
                obtain ⟨p, hp⟩ : ∃ p, live[j]? = some p := ⟨_, List.getElem?_eq_getElem hj⟩
                have cl0 := hcl _ _ (hcells_at _ _ _ hp).1
                have cl1 := hcl _ _ (hcells_at _ _ _ hp).2
                rw [← Nat.add_assoc] at cl1
                have t3 : ((live.length : Int) == 0) = false := by rw [beq_eq_false_iff_ne]; omega
                have t4 : ¬ (live.length : Int) = 0 := by omega
                have j0 : (0 : Int) ≤ (j : Int) := by omega
                have j1 : (j : Int) < (live.length : Int) := by omega
                obtain ⟨TM, hTM⟩ : ∃ TM, ot.tmod (live.length : Int) = TM := ⟨_, rfl⟩
                rw [hTM] at ej b1 b2
                have HP := Lib.hid hp
                have lo2 := BO2.out.lt
                have co2 := BO2.out.cell
                clear hcl hp hln p0 p1 p2 p3 p4 p5 p6
                obtain ⟨pa, pb⟩ := p
                simp only at cl0 cl1
                go_wp2_with fail
                refine (free_c HB2.out.cs hN hk1 HB2.out.ss HP.out).mono ?_
                rintro e w3 ⟨⟨x, rfl⟩, fd⟩
                have FD := Lib.hid fd
                obtain ⟨s3, vf3, c3, ss3, k3, la3⟩ := fd
                obtain ⟨r1, r2, r3, r4, r5⟩ := HB2.out.rest k3 la3
                have R1 := Lib.hid r1
                have R2 := Lib.hid r2
                have hlf : (live.take j ++ live.drop (j + 1)).length + 1 = live.length := by rw [List.length_append, List.length_take, List.length_drop]; omega
                have LF : Hid (Calls Try.prog 15 #[.pointer (some ⟨g, 0, none⟩)] w3 fun e w' => e = .returned (.int .i64 ((N : Int) - live.length + 1)) ∧ Fresh w3 w') := by
                  have := left_c c3 hN (by omega) hr0 ss3
                  rw [show (N : Int) - (live.length : Int) + 1 = (N : Int) - ((live.take j ++ live.drop (j + 1)).length : Nat) by omega]
                  exact this
                have hlf2 := Lib.hid hlf
                have u2 : ((N : Int) - (live.length : Int) + 1 != (N : Int) - (live.length : Int) + 1) = false := by simp
                have d0 := fun W (f : Fresh w3 W) => f.cell_ (r1.at_.2.2.2.2 _ _ (hcells_at _ _ _ HP.out).1)
                have d1 := fun W (f : Fresh w3 W) => f.cell_ (r1.at_.2.2.2.2 _ _ (hcells_at _ _ _ HP.out).2)
                simp only at d0 d1
                have D0 := Lib.hid d0
                have D1 := Lib.hid d1
                clear hlf c3 ss3 k3 la3 r1 r2 r3 r4 r5 cl0 cl1 d0 d1
                have hdl1 : dead.length + 1 ≤ maxLen := one_le_maxLen (by omega)
                have hdl2 : (dead.length + 1) * 16 ≤ 140737488355328 := by omega
                have j2 : (j : Int) ≤ (live.length : Int) := by omega
                have j3 : (j : Int) + 1 ≤ (live.length : Int) := by omega
                have j4 : (live.length : Int) ≤ (cap2 : Int) := by omega
                have NIL : Hid (∀ W W' : World, Keep (fun k => (Value.slice none 0 0).ownBlock = some k) W W' → Fresh W W') := fun W W' kk => kk.more (fun i _ hi => by simp [Value.ownBlock] at hi)
                have g1 : 0 + j ≤ maxLen := one_le_maxLen (by omega)
                have g2 : (0 + j) * 16 ≤ 140737488355328 := by omega
                have NT : Hid (∀ i, (Value.slice (some ⟨gl, offl, none⟩) live.length cap2).ownBlock = some i → (Value.slice A3 dead.length cap3).ownBlock ≠ some i) := HB2.out.nt
                have REST : Hid (∀ (W4 W5 W6 : World), Fresh w3 W4 → Keep (fun k => (Value.slice A3 dead.length cap3).ownBlock = some k) W4 W5 → Fresh W5 W6 → OwnS W6 32 2 (.slice (some ⟨gl, offl, none⟩) live.length cap2) live.length (hcells live)) := fun W4 W5 W6 f4 k5 f6 =>
                  ((R1.out.fresh f4).kept k5 (fun i hi hh => NT.out i hi hh)).fresh f6
                have SRC1 : Hid (∀ W, OwnS W 32 2 (.slice (some ⟨gl, offl, none⟩) live.length cap2) live.length (hcells live) → ∀ cc, Src W 2 (.slice (some ⟨gl, offl, none⟩) j cc) j (hcells (live.take j))) := fun W oo cc => by
                  have := (oo.cut (lo := 0) (hi := j) (off' := offl) (by omega) (by omega) (.inl (by omega))).src
                  simp only [Nat.zero_mul, List.drop_zero, Nat.sub_zero] at this
                  rw [hcells_take'] at this
                  exact src_cap' this
                by_cases hcap : cap2 = j + 1
                · subst hcap
                  have hLj : live.length = j + 1 := by omega
                  have hd : live.drop (j + 1) = [] := List.drop_eq_nil_of_le (by omega)
                  have HD := Lib.hid hd
                  have HLJ := Lib.hid hLj
                  have g5 : j + 0 ≤ maxLen := one_le_maxLen (by omega)
                  have g6 : (j + 0) * 16 ≤ 140737488355328 := by omega
                  have src2 : ∀ (W : World), OwnS W 32 2 (.slice (some ⟨gl, offl, none⟩) live.length (j + 1)) live.length (hcells live) → ∀ cc, Src W 2 (.slice (some ⟨gl, offl, none⟩) 0 cc) 0 (hcells ([] : List (Int × Int))) := fun W _ cc => ⟨rfl, .inr ⟨_, _, rfl, fun q u h => by simp [hcells] at h⟩⟩
                  clear hd hLj
                  have SRC2 := Lib.hid src2
                  clear src2
                  go_wp2_with (first
                    | (go_at_call 15; refine LF.out.mono ?_; rintro e w4 ⟨rfl, f4⟩; have e0 := D0.out _ f4; have e1 := D1.out _ f4; rw [← Nat.add_assoc] at e1; have F4 := Lib.hid f4; have HOD := Lib.hid ((R2.out.fresh f4).alloc (.cells #[.int .i64 pa, .int .i64 pb] 32)); have HCD : Hid (Src (w4.alloc (.cells #[.int .i64 pa, .int .i64 pb] 32)) 2 (.slice (some ⟨w4.heap.size, 0, none⟩) 1 1) 1 (hcells [(pa, pb)])) := Src.one_new w4 32 2 #[.int .i64 pa, .int .i64 pb] rfl; have FA : Hid (Fresh w3 (w4.alloc (.cells #[.int .i64 pa, .int .i64 pb] 32))) := f4.alloc _; clear f4)
                    | (at_builtin; refine wpList_append_OwnS _ rfl (.tmp 184) (.tmp 189) 30 rfl 32 i0 (.agg #[.int .i64 0, .int .i64 0]) 2 16 Try.underlying30 hi hz0 hz1 hz2 rfl h02 (.slice A3 dead.length cap3) dead.length (hcells dead) rfl HOD.out (.slice (some ⟨w4.heap.size, 0, none⟩) 1 1) 1 (hcells [(pa, pb)]) rfl HCD.out (hcells_one _) hdl1 hdl2 ?_; intro v5 w5 o5 k5 n5; obtain ⟨A5, cap5, rfl, _, _⟩ := o5.shape; have RR := Lib.hid (REST.out _ _ _ FA.out k5 (Keep.refl _ _)); have O5 := Lib.hid o5; have K5 := Lib.hid k5; have N5 := Lib.hid n5; clear o5 k5 n5)
                    | (at_builtin; refine wpList_append_OwnS _ rfl (.tmp 191) (.tmp 194) 30 rfl 32 i0 (.agg #[.int .i64 0, .int .i64 0]) 2 16 Try.underlying30 hi hz0 hz1 hz2 rfl h02 (.slice none 0 0) 0 [] rfl (OwnS.nil _ _ _) (.slice (some ⟨gl, offl, none⟩) j _) j (hcells (live.take j)) rfl (SRC1.out _ RR.out _) (hcells_one _) g1 g2 ?_; intro v6 w6 o6 k6 n6; rw [Nat.zero_add, List.nil_append] at o6; obtain ⟨A6, cap6, rfl, hc6, hm6⟩ := o6.shape; have f6 := NIL.out _ _ k6; have O6 := Lib.hid o6; have F6 := Lib.hid f6; have N6 := Lib.hid n6; clear o6 k6 f6 n6)
                    | (at_builtin; refine wpList_append_OwnS _ rfl (.tmp 196) (.tmp 200) 30 rfl 32 i0 (.agg #[.int .i64 0, .int .i64 0]) 2 16 Try.underlying30 hi hz0 hz1 hz2 rfl h02 (.slice A6 j cap6) j (hcells (live.take j)) rfl O6.out (.slice (some ⟨gl, offl, none⟩) 0 _) 0 (hcells ([] : List (Int × Int))) rfl (SRC2.out _ (RR.out.fresh F6.out) _) (hcells_one _) g5 g6 ?_; intro v7 w7 o7 k7 n7; rw [← hcells_append] at o7; obtain ⟨A7, cap7, rfl, hc7, hm7⟩ := o7.shape))
                  have f7 : Fresh w5 w7 := F6.out.step k7 (fun i hi hh => by
                    rcases N6.out i hh with h | h
                    · simp [Value.ownBlock] at h
                    · omega)
                  obtain ⟨vf8, s8, h8⟩ := HB2.out.freed FD.out FA.out O5.out K5.out N5.out f7 (lv' := .slice A7 _ cap7) (by have hlj := HLJ.out; have el : (live.take j ++ live.drop (j + 1)).length = j + 0 := (by rw [List.length_append, List.length_take, List.length_drop]; omega); rw [el, HD.out]; exact o7) (fun i hi => by
                      rcases n7 i hi with h | h
                      · rcases N6.out i h with h | h
                        · simp [Value.ownBlock] at h
                        · exact h
                      · have := F6.out.size; omega) hj
                  go_meet
                  exact ⟨vf8, _, _, s8, _, _, rfl, rfl, h8⟩
                · have g5 : j + (live.length - (j + 1)) ≤ maxLen := one_le_maxLen (by omega)
                  have g6 : (j + (live.length - (j + 1))) * 16 ≤ 140737488355328 := by omega
                  have src2 : ∀ (W : World), OwnS W 32 2 (.slice (some ⟨gl, offl, none⟩) live.length cap2) live.length (hcells live) → ∀ cc, Src W 2 (.slice (some ⟨gl, offl + (j + 1) * 2, none⟩) (live.length - (j + 1)) cc) (live.length - (j + 1)) (hcells (live.drop (j + 1))) := by
                    intro W oo cc
                    have := (oo.cut (lo := j + 1) (hi := live.length) (off' := offl + (j + 1) * 2) (by omega) (by omega) (.inl rfl)).src
                    rw [hcells_drop', List.take_of_length_le (by rw [hcells_length, List.length_drop]; omega)] at this
                    exact src_cap' this
                  have SRC2 := Lib.hid src2
                  clear src2
                  go_wp2_with (first
                    | (go_at_call 15; refine LF.out.mono ?_; rintro e w4 ⟨rfl, f4⟩; have e0 := D0.out _ f4; have e1 := D1.out _ f4; rw [← Nat.add_assoc] at e1; have F4 := Lib.hid f4; have HOD := Lib.hid ((R2.out.fresh f4).alloc (.cells #[.int .i64 pa, .int .i64 pb] 32)); have HCD : Hid (Src (w4.alloc (.cells #[.int .i64 pa, .int .i64 pb] 32)) 2 (.slice (some ⟨w4.heap.size, 0, none⟩) 1 1) 1 (hcells [(pa, pb)])) := Src.one_new w4 32 2 #[.int .i64 pa, .int .i64 pb] rfl; have FA : Hid (Fresh w3 (w4.alloc (.cells #[.int .i64 pa, .int .i64 pb] 32))) := f4.alloc _; clear f4)
                    | (at_builtin; refine wpList_append_OwnS _ rfl (.tmp 184) (.tmp 189) 30 rfl 32 i0 (.agg #[.int .i64 0, .int .i64 0]) 2 16 Try.underlying30 hi hz0 hz1 hz2 rfl h02 (.slice A3 dead.length cap3) dead.length (hcells dead) rfl HOD.out (.slice (some ⟨w4.heap.size, 0, none⟩) 1 1) 1 (hcells [(pa, pb)]) rfl HCD.out (hcells_one _) hdl1 hdl2 ?_; intro v5 w5 o5 k5 n5; obtain ⟨A5, cap5, rfl, _, _⟩ := o5.shape; have RR := Lib.hid (REST.out _ _ _ FA.out k5 (Keep.refl _ _)); have O5 := Lib.hid o5; have K5 := Lib.hid k5; have N5 := Lib.hid n5; clear o5 k5 n5)
                    | (at_builtin; refine wpList_append_OwnS _ rfl (.tmp 191) (.tmp 194) 30 rfl 32 i0 (.agg #[.int .i64 0, .int .i64 0]) 2 16 Try.underlying30 hi hz0 hz1 hz2 rfl h02 (.slice none 0 0) 0 [] rfl (OwnS.nil _ _ _) (.slice (some ⟨gl, offl, none⟩) j _) j (hcells (live.take j)) rfl (SRC1.out _ RR.out _) (hcells_one _) g1 g2 ?_; intro v6 w6 o6 k6 n6; rw [Nat.zero_add, List.nil_append] at o6; obtain ⟨A6, cap6, rfl, hc6, hm6⟩ := o6.shape; have f6 := NIL.out _ _ k6; have O6 := Lib.hid o6; have F6 := Lib.hid f6; have N6 := Lib.hid n6; clear o6 k6 f6 n6)
                    | (at_builtin; refine wpList_append_OwnS _ rfl (.tmp 196) (.tmp 200) 30 rfl 32 i0 (.agg #[.int .i64 0, .int .i64 0]) 2 16 Try.underlying30 hi hz0 hz1 hz2 rfl h02 (.slice A6 j cap6) j (hcells (live.take j)) rfl O6.out (.slice (some ⟨gl, offl + (j + 1) * 2, none⟩) (live.length - (j + 1)) _) (live.length - (j + 1)) (hcells (live.drop (j + 1))) rfl (SRC2.out _ (RR.out.fresh F6.out) _) (hcells_one _) g5 g6 ?_; intro v7 w7 o7 k7 n7; rw [← hcells_append] at o7; obtain ⟨A7, cap7, rfl, hc7, hm7⟩ := o7.shape))
                  have f7 : Fresh w5 w7 := F6.out.step k7 (fun i hi hh => by
                    rcases N6.out i hh with h | h
                    · simp [Value.ownBlock] at h
                    · omega)
                  obtain ⟨vf8, s8, h8⟩ := HB2.out.freed FD.out FA.out O5.out K5.out N5.out f7 (lv' := .slice A7 _ cap7) (by have el : (live.take j ++ live.drop (j + 1)).length = j + (live.length - (j + 1)) := (by rw [List.length_append, List.length_take, List.length_drop]; omega); rw [el]; exact o7) (fun i hi => by
                      rcases n7 i hi with h | h
                      · rcases N6.out i h with h | h
                        · simp [Value.ownBlock] at h
                        · exact h
                      · have := F6.out.size; omega) hj
                  go_meet
                  exact ⟨vf8, _, _, s8, _, _, rfl, rfl, h8⟩
      case rest =>
        as_aux_lemma =>
          clear HLf BO HB p0 p1 p2 p3 p4 p5 p6 hc2 hm2 hc3 hm3 hll hdl hlN
          obtain ⟨vf1, lv1, dv1, s1, live1, dead1, rfl, rfl, hC⟩ := hcut
          have HC := Lib.hid hC
          have hll := hC.ll
          have hdl := hC.dl
          have hlN := hC.cs.lle
          obtain ⟨A4, cap4, rfl, hc4, hm4⟩ := hC.ol.shape
          obtain ⟨A5, cap5, rfl, hc5, hm5⟩ := hC.od.shape
          have hm5 : cap5 ≤ 9223372036854775807 := by unfold maxLen at hm5; omega
          have KK : Hid (∀ W, Fresh wc W → Fresh wc W ∧ Blk W w.heap.size 41 #[.int .i64 (N : Nat), .int .i64 r]) := fun W f => ⟨f, f.blk_ hC.xblk⟩
          have LV : Hid (∀ W, Fresh wc W → Calls Try.prog 14 #[.pointer (some ⟨g, 0, none⟩), .slice none 0 0] W fun e w' => e = .returned (.int .i64 (live1.length : Nat)) ∧ Fresh W w') := fun W f => by
            have := live_all g vs vf1 s1 W (hC.ss.fresh f) (by rw [hC.cs.ts.len]; omega)
            rw [hC.cs.ls.cnt] at this
            exact this
          have LS4 : Hid (∀ W, Fresh wc W → Calls Try.prog 14 #[.pointer (some ⟨g, 0, none⟩), .slice (some ⟨W.heap.size, 0, none⟩) 4 4] (W.alloc (.cells #[.int .i64 1, .int .i64 2, .int .i64 3, .int .i64 4] 3)) fun e w' => e = .returned (.int .i64 (live1.length : Nat)) ∧ Fresh W w') := fun W f => by
            have f' : Fresh W (W.alloc (.cells #[.int .i64 1, .int .i64 2, .int .i64 3, .int .i64 4] 3)) := (Keep.refl _ _).alloc _
            have := live_some g vs vf1 s1 (some ⟨W.heap.size, 0, none⟩) 4 [1, 2, 3, 4] (W.alloc (.cells #[.int .i64 1, .int .i64 2, .int .i64 3, .int .i64 4] 3)) ((hC.ss.fresh f).fresh f') (by rw [hC.cs.ts.len]; omega) (IntsAt.blk (Blk.new W 3 #[.int .i64 1, .int .i64 2, .int .i64 3, .int .i64 4]) rfl) (by simp) (by simp)
            rw [count_all hC.cs] at this
            exact this.mono fun e w' ⟨h1, h2⟩ => ⟨h1, f'.step h2 (fun _ _ h => h)⟩
          have LF : Hid (∀ W, Fresh wc W → Calls Try.prog 15 #[.pointer (some ⟨g, 0, none⟩)] W fun e w' => e = .returned (.int .i64 ((N : Int) - live1.length)) ∧ Fresh W w') := fun W f =>
            left_c hC.cs hN (by omega) hr0 (hC.ss.fresh f)
          have kX := fun (W : World) (h : Blk W w.heap.size 41 #[.int .i64 (N : Nat), .int .i64 r]) (i : Nat) => h.cell i
          have FD : Fresh wc wc.drew := (Keep.refl _ _).drew
          clear hC
          have hw1 : IntKind.i64.wrap ((live1.length : Int) + ((N : Int) - live1.length)) = (N : Int) := by rw [IntWalk.i64_in _ (by omega)]; omega
          have hw2 : ((N : Int) != (N : Int)) = false := by simp
          have hw3 : ((live1.length : Int) != (live1.length : Int)) = false := by simp
          go_wp2_with fail
          go_region_held3 (fun W => Fresh wc W ∧ Blk W w.heap.size 41 #[.int .i64 (N : Nat), .int .i64 r])
            (exact KK.out _ (by (repeat (first | (with_reducible exact Keep.refl _ _) | (with_reducible assumption) | (with_reducible refine Keep.drew ?_) | (with_reducible refine Keep.drewN ?_ _) | (with_reducible refine Keep.alloc ?_ _) | (with_reducible refine Keep.setCell ?_ ?_ _) | (with_reducible refine fun _ => rfl)))))
            (first
              | (go_at_call 14; (with_reducible refine (LV.out _ (by assumption)).mono ?_); rintro e w2 ⟨rfl, f2⟩; have f2 := Keep.step (S := fun _ => False) (by assumption : Fresh wc _) f2 (fun _ _ h => h))
              | (go_at_call 14; (with_reducible refine (LS4.out _ (by assumption)).mono ?_); rintro e w4 ⟨rfl, f4⟩; have f4 := Keep.step (S := fun _ => False) (by assumption : Fresh wc _) f4 (fun _ _ h => h))
              | (go_at_call 15; (with_reducible refine (LF.out _ (by assumption)).mono ?_); rintro e w3 ⟨rfl, f3⟩; have f3 := Keep.step (S := fun _ => False) (by assumption : Fresh wc _) f3 (fun _ _ h => h)))
          go_split_ands
          have F4 := Lib.hid f4
          clear kX FD KK LV LS4 LF hw1 hw2 hw3
          go_wp2_with fail
          go_loopg [20] dead1.length (fun gk u wq => ∃ q : Nat, q ≤ dead1.length ∧ gk = dead1.length - q ∧ u = .int .i64 q ∧ Fresh wc wq)
          case atStart => exact ⟨0, by omega, rfl, rfl, F4.out⟩
          case round =>
            obtain ⟨q, hq, rfl, rfl, hF⟩ := hrel
            have HF := Lib.hid hF
            clear hF
            by_cases hlq : q < dead1.length
            · obtain ⟨p, hp⟩ : ∃ p, dead1[q]? = some p := ⟨_, List.getElem?_eq_getElem hlq⟩
              have hC := HC.out.fresh HF.out
              obtain ⟨gd, offd, capd, hv, ld, _, _, hcd⟩ := hC.od.form (by omega)
              injection hv with hv1 _ hv3
              subst hv1 hv3
              have d0 := hcd _ _ (hcells_at _ _ _ hp).1
              have d1 := hcd _ _ (hcells_at _ _ _ hp).2
              rw [← Nat.add_assoc] at d1
              have PM : Hid (p ∈ dead1) := List.mem_of_getElem? hp
              obtain ⟨pa, pb⟩ := p
              simp only at d0 d1
              have D0 : Hid (∀ W, Fresh wr W → W.cell? ⟨gd, offd + q * 2, none⟩ = some (.int .i64 pa)) := fun W f => f.cell_ d0
              have D1 : Hid (∀ W, Fresh wr W → W.cell? ⟨gd, offd + q * 2 + 1, none⟩ = some (.int .i64 pb)) := fun W f => f.cell_ d1
              have HCC := Lib.hid hC
              clear hC hcd hp
              go_wp2_with (first
                | (go_at_call 16; refine (gone_get HCC.out.cs hN HCC.out.ss PM.out).mono ?_; rintro e w5 ⟨rfl, f5⟩; have e0 := D0.out _ f5; have e1 := D1.out _ f5)
                | (go_at_call 13; refine (gone_frees HCC.out.cs hN (by omega) (HCC.out.ss.fresh f5) PM.out).mono ?_; rintro e w6 ⟨rfl, f6⟩; have f6 := f5.step f6 (fun _ _ h => h); have g0 := D0.out _ f6; have g1 := D1.out _ f6)
                | (go_at_call 17; refine (gone_set HCC.out.cs hN (HCC.out.ss.fresh f6) PM.out 1).mono ?_; rintro e w7 ⟨rfl, f7⟩; have f7 := f6.step f7 (fun _ _ h => h)))
              go_roundg (dead1.length - (q + 1))
              case measure => omega
              case rel => exact ⟨q + 1, by omega, rfl, by go_num, HF.out.step f7 (fun _ _ h => h)⟩
            · obtain rfl : q = dead1.length := by omega
              go_wp2_with fail
              go_roundg (n - (k + 1))
              case measure => omega
              case rel => exact ⟨k + 1, _, _, _, _, _, _, by omega, rfl, rfl, rfl, by go_num, HC.out.fresh HF.out⟩
    · obtain rfl : k = n := by omega
      have HC := Lib.hid hS
      have hll := hS.ll
      obtain ⟨A4, cap4, rfl, hc4, hm4⟩ := hS.ol.shape
      have hm4 : cap4 ≤ 9223372036854775807 := by unfold maxLen at hm4; omega
      clear hS
      go_wp2_with fail
      go_loopg [25] live.length (fun gk u wq => ∃ q : Nat, q ≤ live.length ∧ gk = live.length - q ∧ u = .int .i64 q ∧ Fresh wr wq)
      case atStart => exact ⟨0, by omega, rfl, rfl, Keep.refl _ _⟩
      case round =>
        obtain ⟨q, hq, rfl, rfl, hF⟩ := hrel
        have HF := Lib.hid hF
        clear hF
        by_cases hlq : q < live.length
        · obtain ⟨p, hp⟩ : ∃ p, live[q]? = some p := ⟨_, List.getElem?_eq_getElem hlq⟩
          have hC := HC.out.fresh HF.out
          obtain ⟨gd, offd, capd, hv, ld, _, _, hcd⟩ := hC.ol.form (by omega)
          injection hv with hv1 _ hv3
          subst hv1 hv3
          have d0 := hcd _ _ (hcells_at _ _ _ hp).1
          have d1 := hcd _ _ (hcells_at _ _ _ hp).2
          rw [← Nat.add_assoc] at d1
          have PM : Hid (p ∈ live) := List.mem_of_getElem? hp
          obtain ⟨pa, pb⟩ := p
          simp only at d0 d1
          have HCC := Lib.hid hC
          clear hC hcd hp
          go_wp2_with (go_at_call 16; refine (live_get HCC.out.cs hN HCC.out.ss PM.out).mono ?_; rintro e w5 ⟨⟨xx, rfl⟩, f5⟩)
          go_roundg (live.length - (q + 1))
          case measure => omega
          case rel => exact ⟨q + 1, by omega, rfl, by go_num, HF.out.step f5 (fun _ _ h => h)⟩
        · obtain rfl : q = live.length := by omega
          go_wp2_with (go_at_call 10; refine (awake_any _).mono ?_; rintro e w6 ⟨rfl, f6⟩)
          go_ret
          exact ⟨rfl, Fresh.below_ ((HC.out.fr.step HF.out (fun _ _ h => h)).step f6 (fun _ _ h => h)) (Nat.le_refl _)⟩
open Go.ChangeShapes Go.WideShapes Go.ChangeAt
set_option maxRecDepth 100000 in
theorem slabCounts_lifted (os : Os) (started : os.Started) (H : Type) (enc : TypeId × Value → H) :
    ReturnsInHanded {} Try.checked os 4 .any (Rows.slabCountsSpec.pre6 enc Try.prog Try.f4 Rows.slabCountsRow.domain false) (Rows.slabCountsSpec.post enc Try.prog Try.f4 false true false false) := by
  refine law_lifted (C := Try.checked) (tb := 4) (by kernel_rfl) (by kernel_rfl) started (by kernel_rfl) Try.func4 rfl ?_ rfl Try.underlying4 (by kernel_rfl)
    (ChangeSpec.witness6 (enc := enc) (C := Try.checked) false ⟨#[], #[.agg #[.int .i64 0, .int .i64 0], .slice none 0 0], []⟩ 12 (by kernel_rfl) (by kernel_rfl) (by kernel_rfl) (by kernel_rfl)) ?_
  · intro ds hds
    match ds, hds with
    | [e0, e1], _ => rfl
  · intro W base args ds p hval hA hreach
    rw [Try.params4] at hA hval hreach
    obtain ⟨v0, vs0, d0, ds0, p0, q0, hargs, rfl, rfl, h0, r0⟩ := trodAll_cons hA
    obtain ⟨v1, vs1, d1, ds1, p1, q1, rfl, rfl, rfl, h1, r1⟩ := trodAll_cons r0
    obtain ⟨rfl, rfl, rfl⟩ := trodAll_nil r1
    obtain rfl : args = #[v0, v1] := by cases args; simp_all
    obtain ⟨l0, rfl, hl0⟩ := arg_array (n := 6) Try.underlying41 (by kernel_rfl) (hval 0 41 v0 rfl rfl) h0
    have hfl : flat Try.prog 6 41 = [3, 3] := by kernel_rfl
    rw [hfl] at hl0; clear hfl
    obtain ⟨x0, l1, e1, w_x0, hl1⟩ := all2_int Try.underlying3 hl0
    obtain ⟨x1, l2, e2, w_x1, hl2⟩ := all2_int Try.underlying3 hl1
    obtain rfl := all2_nil hl2
    subst e2 e1
    clear hl2 hl1 hl0
    obtain ⟨A_l, n_l, c_l, rows_l, rfl, len_l, cap_l, max_l, leaf_l, at_l⟩ := arg_slice (n := 6) Try.underlying22 (by kernel_rfl) (by kernel_rfl) (by rw [show Try.prog.cellsOf 34 = 7 by kernel_rfl]; decide) (hval 1 22 v1 rfl rfl) h1
    rw [show flat Try.prog 6 34 = [3, 3, 4, 3, 3, 3, 3] by kernel_rfl] at leaf_l
    rw [show Try.prog.cellsOf 34 = 7 by kernel_rfl] at at_l
    by_cases h : x0 < 1 ∨ 40 < x0 ∨ x1 < 0 ∨ x0 < x1 ∨ 60 < n_l
    · exact counts_arg A_l n_l c_l x0 x1 W h (by unfold maxLen at max_l; omega)
    · obtain ⟨k, rfl⟩ := Int.eq_ofNat_of_zero_le (show 0 ≤ x0 by omega)
      exact counts_ok A_l n_l c_l k x1 rows_l W (by omega) (by omega) (by omega) (by omega) (by omega) len_l (opRow_arg leaf_l) at_l

theorem slabCounts_holds : Rows.SlabCountsSaid :=
  OpenClaim.holds_of_wide 4 Try.f4 rfl rfl rfl rfl rfl rfl rfl ⟨rfl, rfl, rfl, rfl, rfl⟩ rfl rfl rfl rfl rfl (by kernel_rfl) Try.func4 (by kernel_rfl)
    (of_decide_eq_true (by kernel_rfl)) (by unfold Func.isWrapper; first | (rw [if_pos (by decide +kernel)]; kernel_rfl) | (rw [if_neg (by decide +kernel)]; exact ⟨rfl, rfl⟩))
    (fun os started H enc _ => slabCounts_lifted os started H enc)
end Go.Proofs.Ytdobhicjhgdhnaa
