/-
  The law's same: is a queue the document's?
-/
import Derived.Test.YtbplomnoapndnaaSameK
namespace Go.Proofs.Ytbplomnoapndnaa
open Go.RowKit Go.Shelf Go.Sort
attribute [local go_sem] Oper.semAt_some
attribute [local go_sem ↓] Go.wp_at_zero Go.wp_at_succ
attribute [local go_sem] run_eql_seq
attribute [local go_sem ↓] run_eql_ev run_neq_ev

set_option maxRecDepth 100000 in
set_option maxHeartbeats 8000000 in
theorem same_any (gq : Nat) (v : Value) (Q : List Rec) (gr : Nat) (v1 v2 : Value) (R : List Rec) (fr : Int) (w : World) (hq : OQ w gq v Q) (hr : RQ w gr v1 v2 R) (hs : Sm R Q) (hQ : Q.length ≤ 5000) :
    Calls Try.prog 28 #[.pointer (some ⟨gq, 0, none⟩), .pointer (some ⟨gr, 0, none⟩), .int .i64 fr] w fun e w' => e = .returned (.bool true) ∧ Fresh w w' := by
  obtain ⟨Ar, cr, rfl, hcr, hmr⟩ := hr.o1.shape
  obtain ⟨As, cs, rfl, hcs, hms⟩ := hr.o2.shape
  have HQ := Lib.hid hq
  have HR := Lib.hid hr
  have HS := Lib.hid hs
  have hR : R.length ≤ 5000 := by rw [hs.len]; exact hQ
  clear hq hr hs
  refine (callsIn_wide (n := 6)).1 ?_
  refine callsIn_of_wp_marks Try.func28 rfl trivial ?_ rfl
  simp only [Try.ntmps28, List.size_toArray, List.length_cons, List.length_nil, Nat.reduceAdd, Nat.reduceSub, Array.replicate_succ, Array.replicate_zero, List.push_toArray, List.append_toArray, List.nil_append, List.cons_append]
  refine wpIn_wide.2 ?_
  obtain ⟨W0, hW0⟩ : ∃ W0, ((w.alloc (.cells #[.pointer (some ⟨gr, 0, none⟩)] 56)).alloc (.cells #[.bool false] 4)) = W0 := ⟨_, rfl⟩
  have F0 : Fresh w W0 := hW0 ▸ (((Keep.refl _ w).alloc _).alloc _)
  have B0 : Blk W0 w.heap.size 56 #[.pointer (some ⟨gr, 0, none⟩)] := hW0 ▸ ((Blk.new w _ _).alloc _)
  have B1 : Blk W0 (w.heap.size + 1) 4 #[.bool false] := hW0 ▸ Blk.at_new (by simp) _ _
  have HA := Lib.hid (all_any gq v Q W0 (HQ.out.fresh F0) (by omega))
  have HF0 := Lib.hid F0
  have HB0 := Lib.hid B0
  have HB1 := Lib.hid B1
  clear F0 B0 B1
  go_wp2_with fail
  refine HA.out.mono ?_
  rintro e w1 ⟨b1, x1, rfl, kb1, ko1, f1, nb1, nk1⟩
  have F1 := Lib.hid (HF0.out.step f1 (fun _ _ h => h))
  have K1 := Lib.hid kb1
  have O1 := Lib.hid ko1
  have B01 := Lib.hid (f1.blk_ HB0.out)
  have B11 := Lib.hid (f1.blk_ HB1.out)
  have c0 := B01.out.cell
  have l0 := B01.out.lt
  have cR := (HR.out.fresh F1.out).blk.cell
  have lr := (HR.out.fresh F1.out).blk.lt
  clear kb1 ko1 f1 nb1 nk1 HA HF0 HB0 HB1 hW0
  go_wp2_with fail
  have ro : OwnS w1 44 7 (.slice Ar R.length cr) (evs R).length (cells (evs R)) := by
    rw [evs_len]
    exact (HR.out.fresh F1.out).o1
  refine (sLtsort_any (.slice Ar R.length cr) (evs R) w1 ro.evs (by rw [evs_len]; omega)).mono ?_
  rintro e w2 ⟨vw, s, rfl, hs2, hp2, o2, f2, n2⟩
  have hss := ssort_is hs2 hp2
  rw [HS.out.sort] at hss
  subst hss
  obtain ⟨A2, c2, rfl, hc2, hm2⟩ := o2.shape
  have hm2 : c2 ≤ 9223372036854775807 := by unfold maxLen at hm2; omega
  have F2 := Lib.hid (F1.out.step f2 (fun _ _ h => h))
  have K2 := Lib.hid (f2.blk_ K1.out)
  have O2 := Lib.hid (O1.out.fresh f2)
  have B02 := Lib.hid (f2.blk_ B01.out)
  have B12 := Lib.hid (f2.blk_ B11.out)
  have OW := Lib.hid o2
  have sz2 := F2.out.size
  clear hs2 hp2 o2 f2 n2 ro c0 l0 cR lr K1 O1 B01 B11 F1
  go_wp2_with fail
  have T0 : Hid (SInv w2 (.slice A2 (evs Q).length c2) [] ((((w2.alloc (.cells #[.slice A2 (evs Q).length c2] 28)).alloc (.cells #[.int .i64 0] 3)).alloc (.cells #[.int .i64 0] 3)).alloc (.cells #[.int .i64 (-1)] 3))) := Lib.hid ⟨((((Keep.refl _ w2).alloc _).alloc _).alloc _).alloc _, by simp, (((Blk.new w2 _ _).alloc _).alloc _).alloc _, ((Blk.at_new (by simp) _ _).alloc _).alloc _, (Blk.at_new (by simp) _ _).alloc _, Blk.at_new (by simp) _ _⟩
  obtain ⟨W3, hW3⟩ : ∃ W3, ((((w2.alloc (.cells #[.slice A2 (evs Q).length c2] 28)).alloc (.cells #[.int .i64 0] 3)).alloc (.cells #[.int .i64 0] 3)).alloc (.cells #[.int .i64 (-1)] 3)) = W3 := ⟨_, rfl⟩
  rw [hW3] at T0 ⊢
  clear hW3
  have KB := Lib.hid (T0.out.f.blk_ K2.out)
  have KO := Lib.hid (O2.out.fresh T0.out.f)
  have szF := T0.out.f.size
  have hsz1 : w.heap.size + 2 ≤ w2.heap.size := by
    have h1 := B12.out.lt
    omega
  refine (wpIn_wide (n := 6)).1 ?_
  refine wpIn_rangeFunc_ownH rfl (by omega) (gf := 54) (lb := #[.pointer (some ⟨b1, 0, none⟩)]) rfl trivial (enters_of Try.func54 (by kernel_rfl) rfl)
    (all_stops Fence.wide (6 - 1) trivial rfl (by omega) b1 x1 Q (by omega) W3 KB.out KO.out) keepsB_t keepsB_b (Below.refl _ _) (fun _ => rfl)
    (SInv w2 (.slice A2 (evs Q).length c2)) (fun _ pre _ => ¬ pre <+: Q) (fun pre X Y row hs hg hr => hs.own (by omega) hg hr) (fun _ _ _ _ _ hs _ _ => hs)
    T0.out
    (fun y a' W => ∃ Bx, Blk W Bx 44 #[.int .i64 y.1.a, .int .i64 y.1.s, .int .i64 y.1.t, .int .i64 y.1.n, .int .i64 y.1.d, .int .i64 y.1.k, .int .i64 y.1.x] ∧ a' = { tmps := #[.pointer (some ⟨gq, 0, none⟩), .pointer (some ⟨gr, 0, none⟩), .int .i64 fr, undef, .pointer (some ⟨w.heap.size, 0, none⟩), undef, .pointer (some ⟨w.heap.size + 1, 0, none⟩), .func (.func 54) #[] #[.pointer (some ⟨b1, 0, none⟩)], .pointer (some ⟨w2.heap.size, 0, none⟩), .pointer (some ⟨w2.heap.size + 1, 0, none⟩), .pointer (some ⟨w2.heap.size + 1 + 1, 0, none⟩), .pointer (some ⟨w2.heap.size + 1 + 1 + 1, 0, none⟩), .pointer (some ⟨Bx, 0, none⟩), .bool y.2, undef, undef, undef, undef, undef, undef, .pointer (some ⟨gq, 0, none⟩), .func (.func 54) #[] #[.pointer (some ⟨b1, 0, none⟩)], .func (.func 54) #[] #[.pointer (some ⟨b1, 0, none⟩)], .bool false, .pointer (some ⟨gr, 0, none⟩), .pointer (some ⟨gr, 0, none⟩), .pointer (some ⟨gr, 0, none⟩), .slice Ar R.length cr, .slice A2 (evs Q).length c2, .func (.func 54) #[] #[.pointer (some ⟨b1, 0, none⟩)], .agg #[.int .i64 y.1.a, .int .i64 y.1.s, .int .i64 y.1.t, .int .i64 y.1.n, .int .i64 y.1.d, .int .i64 y.1.k, .int .i64 y.1.x], .bool y.2, undef, undef, undef, undef, undef, undef, undef, undef, undef, undef, undef, undef, undef, undef, undef, undef, undef, undef, undef, undef, undef, undef, undef, undef, undef, undef, undef, undef, undef, undef, undef, undef, undef, undef, undef, undef, undef, undef, undef, undef, undef, undef, undef, undef, undef, undef, undef, undef, undef, undef, undef, undef, undef, undef, undef, undef, undef, undef, undef, undef, undef, undef, undef, undef, undef, undef, undef, undef, undef, undef, undef, undef, undef, undef, undef, undef, undef, undef, undef, undef, undef, undef, undef, undef, undef, undef, undef, undef, undef, undef, undef, undef, undef, undef, undef, undef, undef, undef, undef, undef, undef, undef, undef, undef, undef, undef, undef, undef, undef, undef, undef, undef, undef, undef, undef, undef, undef, undef, undef, undef, undef, undef, undef, undef, undef], defers := [] }) ?ax ?assign ?body ?done ?stop
  case stop =>
    rintro D c pre W _ hp hn _
    exact (hn hp).elim
  case ax =>
    rintro x a' u X Y row ⟨Bx, h2, h3⟩ hg hr
    exact ⟨Bx, blk_grown h2 hg (fun r e => (hr r e).2), h3⟩
  case assign =>
    rintro lp pre y W K f hK
    unfold enc Ev.val
    gi_wp2
    exact hK _ _ ((KeepsOthers.alloc _ _).from _) ((KeepsB.refl _ _ _).alloc _) (f.fresh ((Keep.refl _ _).alloc _)) ⟨W.heap.size, Blk.new W _ _, rfl⟩
  case body =>
    rintro lp pre y a' W hlp hrec hI ⟨Bx, bx, rfl⟩ hlt
    obtain ⟨q, hq⟩ : ∃ q, Q[pre.length]? = some q := ⟨_, List.getElem?_eq_getElem hlt⟩
    have hs2 : y ≠ q → ¬ pre ++ [y] <+: Q := fun hne ⟨m, hm⟩ => by
      subst hm
      rw [List.append_assoc, List.getElem?_append_right (Nat.le_refl _), Nat.sub_self] at hq
      simp at hq
      exact hne hq
    have HS2 := Lib.hid hs2
    obtain ⟨k, hk1, hk2, hk3⟩ := sm_at HS.out (List.mem_of_getElem? hq)
    have fwW := F2.out.step hI.f (fun _ _ h => h)
    obtain ⟨gw, offw, _, hvw, lw, _, _, ccw⟩ := (OW.out.fresh hI.f).form (by rw [evs_len]; omega)
    injection hvw with e1 e2 e3
    subst e1 e3
    obtain ⟨q0, q1, q2, q3, q4, q5, q6⟩ := cells_at (evs Q) pre.length q.1 (evs_at' hq)
    have w0 := fun (z : GZ) => (gz_fresh W z).cell_ (ccw _ _ q0)
    have w1 := fun (z : GZ) => (gz_fresh W z).cell_ (ccw _ _ q1)
    have w2' := fun (z : GZ) => (gz_fresh W z).cell_ (ccw _ _ q2)
    have w3 := fun (z : GZ) => (gz_fresh W z).cell_ (ccw _ _ q3)
    have w4 := fun (z : GZ) => (gz_fresh W z).cell_ (ccw _ _ q4)
    have w5 := fun (z : GZ) => (gz_fresh W z).cell_ (ccw _ _ q5)
    have w6 := fun (z : GZ) => (gz_fresh W z).cell_ (ccw _ _ q6)
    simp only [← Nat.add_assoc] at w1 w2' w3 w4 w5 w6
    have rW := HR.out.fresh fwW
    obtain ⟨gs, offs, _, hvs, ls, _, _, ccs⟩ := rW.o2.form (by omega)
    injection hvs with e4 e5 e6
    subst e4 e6
    have ks := fun (z : GZ) => (gz_fresh W z).cell_ (ccs _ _ (bools_at hk3))
    have kQ := fun (z : GZ) (i : Nat) => rW.blk.gz_ z i
    have kP := fun (z : GZ) (i : Nat) => (hI.f.blk_ B02.out).gz_ z i
    have kW := fun (z : GZ) (i : Nat) => hI.b.gz_ z i
    have kN := fun (z : GZ) (i : Nat) => hI.n.gz_ z i
    have kX := fun (z : GZ) (i : Nat) => bx.gz_ z i
    have roW : OwnS W 44 7 (.slice Ar R.length cr) (evs R).length (cells (evs R)) := by
      rw [evs_len]
      exact rW.o1
    have PK := Lib.hid (fun (z : GZ) => at_grow (.slice Ar R.length cr) (evs R) q.1 W z roW.evs (by rw [evs_len]; omega))
    rw [hk1] at PK
    unfold Ev.val at PK
    have hfw : Fence.wide.fn 33 := trivial
    have UT := Lib.hid (hI.f.blk_ B12.out)
    have UN := Lib.hid hI.n
    have US := Lib.hid hI.s
    have UL := Lib.hid hI.l
    have UB := Lib.hid hI.b
    have UF := Lib.hid hI.f
    have UZ := Lib.hid hI.sz
    have hsp : sures pre ≤ pre.length := List.countP_le_length
    have hwn : IntKind.i64.wrap ((pre.length : Int) + 1) = (pre.length : Int) + 1 := IntWalk.i64_in _ (by omega)
    have hws : IntKind.i64.wrap ((sures pre : Int) + 1) = (sures pre : Int) + 1 := IntWalk.i64_in _ (by omega)
    have t1 : decide ((Q.length : Int) ≤ (pre.length : Int)) = false := decide_eq_false (by omega)
    have t1' : decide (Q.length ≤ pre.length) = false := decide_eq_false (by omega)
    have hel : (evs Q).length = Q.length := evs_len Q
    have j0 : (0 : Int) ≤ (pre.length : Int) := by omega
    have j1 : (pre.length : Int) < (Q.length : Int) := by omega
    have j2 : (0 : Int) ≤ (k : Int) := by omega
    have j3 : (k : Int) < (R.length : Int) := by omega
    have FIN : Hid (∀ (a : Act) (Wz : World), Keep (fun k => k = w2.heap.size + 1 ∨ k = w2.heap.size + 1 + 1 ∨ k = w2.heap.size + 1 + 1 + 1) W Wz → Blk Wz (w2.heap.size + 1) 3 #[.int .i64 ((pre.length : Int) + 1)] → Blk Wz (w2.heap.size + 1 + 1) 3 #[.int .i64 (sures (pre ++ [y]) : Nat)] → Blk Wz (w2.heap.size + 1 + 1 + 1) 3 #[.int .i64 (leastI (pre ++ [y]))] →
        ownPostG W3.heap.size (KeepsB (bk x1) 79) (SInv w2 (.slice (some ⟨gw, offw, none⟩) (evs Q).length c2)) (fun _ pre _ => ¬ pre <+: Q) (pre ++ [y]) W .normal a Wz) := Lib.hid fun a Wz hX bn bs bl => by
      refine ⟨(keepsOthers_of_keep hX ?_).from _, KeepsB.of_keep' hX ?_, ⟨UF.out.step hX ?_, Nat.le_trans UZ.out hX.size, UB.out.keep hX ?_, ?_, bs, bl⟩⟩
      · rintro k o (rfl | rfl | rfl) ho
        · exact blk_isCells UN.out ho
        · exact blk_isCells US.out ho
        · exact blk_isCells UL.out ho
      · rintro cur hcur (h | h | h)
        · have := UN.out
          unfold Blk at this
          rw [h, this] at hcur
          cases hcur
        · have := US.out
          unfold Blk at this
          rw [h, this] at hcur
          cases hcur
        · have := UL.out
          unfold Blk at this
          rw [h, this] at hcur
          cases hcur
      · rintro k hk (h | h | h) <;> omega
      · rintro (h | h | h) <;> omega
      · rw [List.length_append, List.length_singleton]
        exact bn
    rw [hel] at kW
    clear hs2 hI bx hrec hk1 hk2 hk3 rW roW ccw ccs q0 q1 q2 q3 q4 q5 q6 e2 e5 fwW hel hq
    by_cases d1 : y.1 = q.1
    rotate_left
    · have HD : Hid (y ≠ q) := Lib.hid (fun e => d1 (by rw [e]))
      have hqe : evB y.1 q.1 = false := by
        cases h : evB y.1 q.1
        · rfl
        · exact absurd ((evB_iff _ _).1 h) d1
      unfold evB at hqe
      clear d1
      gi_wp2_with fail
      refine wpIn_region_grow (by kernel_rfl) (by kernel_rfl) (by kernel_rfl) ?_
      repeat (gi_big_quiet_step ((gi_at_call 33; exact CallsIn.inRound lp (callsIn_wide.2 (PK.out _)))))
      refine wpQuietIn_nil ?_
      rintro W2 ⟨zq, hW2⟩
      have f2 : Fresh W W2 := hW2 ▸ gz_fresh W zq
      have r2 := f2.blk_ UT.out
      have ct := r2.cell
      have ft := r2.frozen
      have lt := r2.lt
      have K1 : Keep (fun k => k = w.heap.size + 1) W (W2.setCell ⟨w.heap.size + 1, 0, none⟩ (.bool false)) := Keep.setCell (S := fun k => k = w.heap.size + 1) (f2.more (fun _ _ h => h.elim)) (fun _ => rfl) _
      have HK1 := Lib.hid K1
      clear hW2 f2 r2 K1 w0 w1 w2' w3 w4 w5 w6 ks kQ kP kW kN kX
      gi_wp2_with fail
      exact ⟨(keepsOthers_of_keep HK1.out (by rintro k o rfl ho; exact blk_isCells UT.out ho)).from _, HS2.out HD.out⟩
    obtain ⟨ye, yb⟩ := y
    obtain ⟨qe, qb⟩ := q
    simp only at d1
    subst d1
    have hqe : evB ye ye = true := (evB_iff _ _).2 rfl
    unfold evB at hqe
    cases yb
    · cases qb
      · simp only at ks
        gi_wp2_with fail
        refine wpIn_region_grow (by kernel_rfl) (by kernel_rfl) (by kernel_rfl) ?_
        repeat (gi_big_quiet_step ((gi_at_call 33; exact CallsIn.inRound lp (callsIn_wide.2 (PK.out _)))))
        refine wpQuietIn_nil ?_
        rintro W2 ⟨zq, hW2⟩
        have f2 : Fresh W W2 := hW2 ▸ gz_fresh W zq
        have n2 := f2.blk_ UN.out
        have cn := n2.cell
        have fn := n2.frozen
        have ln := n2.lt
        have s2 := f2.blk_ US.out
        have cs2 := s2.cell
        have fs2 := s2.frozen
        have ls2 := s2.lt
        have l2 := f2.blk_ UL.out
        have cl2 := l2.cell
        have fl2 := l2.frozen
        have ll2 := l2.lt
        have N2 := Lib.hid n2
        have S2 := Lib.hid s2
        have L2 := Lib.hid l2
        have F22 := Lib.hid f2
        have ne1 : ¬ (w2.heap.size + 1 + 1 = w2.heap.size + 1) := by omega
        have ne2 : ¬ (w2.heap.size + 1 = w2.heap.size + 1 + 1) := by omega
        have ne3 : ¬ (w2.heap.size + 1 + 1 + 1 = w2.heap.size + 1) := by omega
        have ne4 : ¬ (w2.heap.size + 1 = w2.heap.size + 1 + 1 + 1) := by omega
        clear hW2 f2 n2 s2 l2 w0 w1 w2' w3 w4 w5 w6 ks kQ kP kW kN kX
        by_cases hL : leastI pre < 0
        · have tl : decide (leastI pre < 0) = true := decide_eq_true hL
          have HLE : Hid (leastI (pre ++ [(ye, false)]) = (pre.length : Int)) := Lib.hid (by rw [leastI_snoc, if_pos hL]; simp)
          clear hL
          gi_wp2_with fail
          have K2 : Keep (fun k => k = w2.heap.size + 1 ∨ k = w2.heap.size + 1 + 1 ∨ k = w2.heap.size + 1 + 1 + 1) W ((W2.setCell ⟨w2.heap.size + 1 + 1 + 1, 0, none⟩ (.int .i64 (pre.length : Int))).setCell ⟨w2.heap.size + 1, 0, none⟩ (.int .i64 ((pre.length : Int) + 1))) :=
            Keep.setCell (p := ⟨w2.heap.size + 1, 0, none⟩) (Keep.setCell (p := ⟨w2.heap.size + 1 + 1 + 1, 0, none⟩) (F22.out.more (fun _ _ h => h.elim)) (fun _ => .inr (.inr rfl)) _) (fun _ => .inl rfl) _
          refine FIN.out _ _ K2 ?_ ?_ ?_
          · have := (N2.out.far (p := ⟨w2.heap.size + 1 + 1 + 1, 0, none⟩) (show w2.heap.size + 1 ≠ w2.heap.size + 1 + 1 + 1 from ne4) (.int .i64 (pre.length : Int))).set_ 0 (.int .i64 ((pre.length : Int) + 1))
            simpa using this
          · have := (S2.out.far (p := ⟨w2.heap.size + 1 + 1 + 1, 0, none⟩) (show w2.heap.size + 1 + 1 ≠ w2.heap.size + 1 + 1 + 1 by omega) (.int .i64 (pre.length : Int))).far (p := ⟨w2.heap.size + 1, 0, none⟩) (show w2.heap.size + 1 + 1 ≠ w2.heap.size + 1 from ne1) (.int .i64 ((pre.length : Int) + 1))
            rw [sures_snoc]
            simpa using this
          · have := (L2.out.set_ 0 (.int .i64 (pre.length : Int))).far (p := ⟨w2.heap.size + 1, 0, none⟩) (show w2.heap.size + 1 + 1 + 1 ≠ w2.heap.size + 1 from ne3) (.int .i64 ((pre.length : Int) + 1))
            rw [HLE.out]
            simpa using this
        · have tl : decide (leastI pre < 0) = false := decide_eq_false hL
          have HLE : Hid (leastI (pre ++ [(ye, false)]) = leastI pre) := Lib.hid (by rw [leastI_snoc, if_neg hL])
          clear hL
          gi_wp2_with fail
          have K2 : Keep (fun k => k = w2.heap.size + 1 ∨ k = w2.heap.size + 1 + 1 ∨ k = w2.heap.size + 1 + 1 + 1) W (W2.setCell ⟨w2.heap.size + 1, 0, none⟩ (.int .i64 ((pre.length : Int) + 1))) :=
            Keep.setCell (p := ⟨w2.heap.size + 1, 0, none⟩) (F22.out.more (fun _ _ h => h.elim)) (fun _ => .inl rfl) _
          refine FIN.out _ _ K2 ?_ ?_ ?_
          · have := N2.out.set_ 0 (.int .i64 ((pre.length : Int) + 1))
            simpa using this
          · have := S2.out.far (p := ⟨w2.heap.size + 1, 0, none⟩) (show w2.heap.size + 1 + 1 ≠ w2.heap.size + 1 from ne1) (.int .i64 ((pre.length : Int) + 1))
            rw [sures_snoc]
            simpa using this
          · have := L2.out.far (p := ⟨w2.heap.size + 1, 0, none⟩) (show w2.heap.size + 1 + 1 + 1 ≠ w2.heap.size + 1 from ne3) (.int .i64 ((pre.length : Int) + 1))
            rw [HLE.out]
            exact this
      · have HD : Hid ((ye, false) ≠ (ye, true)) := Lib.hid (fun e => by injection e with _ e; cases e)
        simp only at ks
        gi_wp2_with fail
        refine wpIn_region_grow (by kernel_rfl) (by kernel_rfl) (by kernel_rfl) ?_
        repeat (gi_big_quiet_step ((gi_at_call 33; exact CallsIn.inRound lp (callsIn_wide.2 (PK.out _)))))
        refine wpQuietIn_nil ?_
        rintro W2 ⟨zq, hW2⟩
        have f2 : Fresh W W2 := hW2 ▸ gz_fresh W zq
        have r2 := f2.blk_ UT.out
        have ct := r2.cell
        have ft := r2.frozen
        have lt := r2.lt
        have K1 : Keep (fun k => k = w.heap.size + 1) W (W2.setCell ⟨w.heap.size + 1, 0, none⟩ (.bool false)) := Keep.setCell (S := fun k => k = w.heap.size + 1) (f2.more (fun _ _ h => h.elim)) (fun _ => rfl) _
        have HK1 := Lib.hid K1
        clear hW2 f2 r2 K1 w0 w1 w2' w3 w4 w5 w6 ks kQ kP kW kN kX
        gi_wp2_with fail
        exact ⟨(keepsOthers_of_keep HK1.out (by rintro k o rfl ho; exact blk_isCells UT.out ho)).from _, HS2.out HD.out⟩
    · cases qb
      · have HD : Hid ((ye, true) ≠ (ye, false)) := Lib.hid (fun e => by injection e with _ e; cases e)
        simp only at ks
        gi_wp2_with fail
        refine wpIn_region_grow (by kernel_rfl) (by kernel_rfl) (by kernel_rfl) ?_
        repeat (gi_big_quiet_step ((gi_at_call 33; exact CallsIn.inRound lp (callsIn_wide.2 (PK.out _)))))
        refine wpQuietIn_nil ?_
        rintro W2 ⟨zq, hW2⟩
        have f2 : Fresh W W2 := hW2 ▸ gz_fresh W zq
        have r2 := f2.blk_ UT.out
        have ct := r2.cell
        have ft := r2.frozen
        have lt := r2.lt
        have K1 : Keep (fun k => k = w.heap.size + 1) W (W2.setCell ⟨w.heap.size + 1, 0, none⟩ (.bool false)) := Keep.setCell (S := fun k => k = w.heap.size + 1) (f2.more (fun _ _ h => h.elim)) (fun _ => rfl) _
        have HK1 := Lib.hid K1
        clear hW2 f2 r2 K1 w0 w1 w2' w3 w4 w5 w6 ks kQ kP kW kN kX
        gi_wp2_with fail
        exact ⟨(keepsOthers_of_keep HK1.out (by rintro k o rfl ho; exact blk_isCells UT.out ho)).from _, HS2.out HD.out⟩
      · simp only at ks
        gi_wp2_with fail
        refine wpIn_region_grow (by kernel_rfl) (by kernel_rfl) (by kernel_rfl) ?_
        repeat (gi_big_quiet_step ((gi_at_call 33; exact CallsIn.inRound lp (callsIn_wide.2 (PK.out _)))))
        refine wpQuietIn_nil ?_
        rintro W2 ⟨zq, hW2⟩
        have f2 : Fresh W W2 := hW2 ▸ gz_fresh W zq
        have n2 := f2.blk_ UN.out
        have cn := n2.cell
        have fn := n2.frozen
        have ln := n2.lt
        have s2 := f2.blk_ US.out
        have cs2 := s2.cell
        have fs2 := s2.frozen
        have ls2 := s2.lt
        have l2 := f2.blk_ UL.out
        have cl2 := l2.cell
        have fl2 := l2.frozen
        have ll2 := l2.lt
        have N2 := Lib.hid n2
        have S2 := Lib.hid s2
        have L2 := Lib.hid l2
        have F22 := Lib.hid f2
        have ne1 : ¬ (w2.heap.size + 1 + 1 = w2.heap.size + 1) := by omega
        have ne2 : ¬ (w2.heap.size + 1 = w2.heap.size + 1 + 1) := by omega
        have ne3 : ¬ (w2.heap.size + 1 + 1 + 1 = w2.heap.size + 1) := by omega
        have ne4 : ¬ (w2.heap.size + 1 = w2.heap.size + 1 + 1 + 1) := by omega
        clear hW2 f2 n2 s2 l2 w0 w1 w2' w3 w4 w5 w6 ks kQ kP kW kN kX
        gi_wp2_with fail
        have K2 : Keep (fun k => k = w2.heap.size + 1 ∨ k = w2.heap.size + 1 + 1 ∨ k = w2.heap.size + 1 + 1 + 1) W ((W2.setCell ⟨w2.heap.size + 1 + 1, 0, none⟩ (.int .i64 ((sures pre : Int) + 1))).setCell ⟨w2.heap.size + 1, 0, none⟩ (.int .i64 ((pre.length : Int) + 1))) :=
          Keep.setCell (p := ⟨w2.heap.size + 1, 0, none⟩) (Keep.setCell (p := ⟨w2.heap.size + 1 + 1, 0, none⟩) (F22.out.more (fun _ _ h => h.elim)) (fun _ => .inr (.inl rfl)) _) (fun _ => .inl rfl) _
        refine FIN.out _ _ K2 ?_ ?_ ?_
        · have := (N2.out.far (p := ⟨w2.heap.size + 1 + 1, 0, none⟩) (show w2.heap.size + 1 ≠ w2.heap.size + 1 + 1 from ne2) (.int .i64 ((sures pre : Int) + 1))).set_ 0 (.int .i64 ((pre.length : Int) + 1))
          simpa using this
        · have := (S2.out.set_ 0 (.int .i64 ((sures pre : Int) + 1))).far (p := ⟨w2.heap.size + 1, 0, none⟩) (show w2.heap.size + 1 + 1 ≠ w2.heap.size + 1 from ne1) (.int .i64 ((pre.length : Int) + 1))
          rw [sures_snoc]
          simpa using this
        · have := (L2.out.far (p := ⟨w2.heap.size + 1 + 1, 0, none⟩) (show w2.heap.size + 1 + 1 + 1 ≠ w2.heap.size + 1 + 1 by omega) (.int .i64 ((sures pre : Int) + 1))).far (p := ⟨w2.heap.size + 1, 0, none⟩) (show w2.heap.size + 1 + 1 + 1 ≠ w2.heap.size + 1 from ne3) (.int .i64 ((pre.length : Int) + 1))
          rw [leastI_true]
          exact this
  case done =>
    rintro D ys W hD rfl hI hK
    have hDl := (Array.getElem?_eq_some_iff.1 hK).1
    have fwW := Lib.hid (F2.out.step hI.f (fun _ _ h => h))
    have QW := Lib.hid (HQ.out.fresh fwW.out)
    have UT := Lib.hid (hI.f.blk_ B12.out)
    have UI := Lib.hid hI
    have HK := Lib.hid hK
    have HL1 := Lib.hid (len_any gq v ys W QW.out (by omega))
    have HL2 := Lib.hid (fun (W' : World) (f : Fresh W W') => least_any gq v ys W' (QW.out.fresh f) (by omega))
    have HT := Lib.hid (fun (W' : World) (f : Fresh W W') => late_any gq v ys fr W' (QW.out.fresh f) (by omega))
    have hsp : sures ys ≤ ys.length := List.countP_le_length
    obtain ⟨N, hN⟩ : ∃ N, ys.length = N := ⟨_, rfl⟩
    obtain ⟨S, hS⟩ : ∃ S, sures ys = S := ⟨_, rfl⟩
    have HN := Lib.hid hN
    have HSu := Lib.hid hS
    have HEL : Hid ((evs ys).length = N) := Lib.hid ((evs_len ys).trans hN)
    rw [hN, hS] at HL1 hsp
    rw [hN] at hQ
    have fwd0 := Lib.hid (fun (W' : World) (f : Fresh W W') => UI.out.fresh f)
    unfold LeastP at HL2
    unfold OLateP at HT
    clear hI hK hN hS
    go_wp2_with fail
    refine HL1.out.mono ?_
    rintro e w4 ⟨rfl, f4⟩
    have F4 := Lib.hid f4
    clear f4 HL1
    cases hll : leastL ys with
    | none =>
      have HLI := Lib.hid (leastI_none hll)
      rw [hll] at HL2
      clear hll
      go_wp2_with fail
      refine (HL2.out _ F4.out).mono ?_
      rintro e w5 ⟨rfl, f5⟩
      have F5 := Lib.hid (F4.out.step f5 (fun _ _ h => h))
      clear f5 HL2
      by_cases hn0 : N = 0
      · subst hn0
        obtain rfl : S = 0 := by omega
        have hlo : lateO ys fr = none := by
          unfold lateO
          rw [List.eq_nil_of_length_eq_zero HN.out]
          rfl
        have HLA := Lib.hid (HT.out w5 F5.out)
        rw [hlo] at HLA
        simp only [evVal, Ev.val, Option.isSome_none, Option.isSome_some] at HLA
        clear HT hlo
        go_wp2_with fail
        refine HLA.out.mono ?_
        rintro e w6 ⟨rfl, f6⟩
        have f7 : Fresh W (w6.alloc (.cells #[.int .i64 0, .int .i64 0, .int .i64 0, .int .i64 0, .int .i64 0, .int .i64 0, .int .i64 0] 44)) := (F5.out.step f6 (fun _ _ h => h)).alloc _
        have b8 : Blk (w6.alloc (.cells #[.int .i64 0, .int .i64 0, .int .i64 0, .int .i64 0, .int .i64 0, .int .i64 0, .int .i64 0] 44)) w6.heap.size 44 #[.int .i64 0, .int .i64 0, .int .i64 0, .int .i64 0, .int .i64 0, .int .i64 0, .int .i64 0] := Blk.new _ _ _
        have F7 := Lib.hid f7
        have S7 := Lib.hid (UI.out.fresh f7)
        have c8 := b8.cell
        have l8 := b8.lt
        have cb := S7.out.b.cell
        have lb := S7.out.b.lt
        have cn := S7.out.n.cell
        have ln := S7.out.n.lt
        have cs7 := S7.out.s.cell
        have ls7 := S7.out.s.lt
        have cl := S7.out.l.cell
        have ll := S7.out.l.lt
        rw [HLI.out] at cl
        rw [HN.out] at cn
        rw [HSu.out] at cs7
        rw [HEL.out] at cb
        have T7 := Lib.hid (F7.out.blk_ UT.out)
        have ut := T7.out.cell
        have uf := T7.out.frozen
        have ul := T7.out.lt
        clear f7 b8 f6 HLA
        go_wp2_with fail
        have b9 : Blk ((w6.alloc (.cells #[.int .i64 0, .int .i64 0, .int .i64 0, .int .i64 0, .int .i64 0, .int .i64 0, .int .i64 0] 44)).setCell ⟨w.heap.size + 1, 0, none⟩ (.bool true)) (w.heap.size + 1) 4 #[.bool true] := by simpa using T7.out.set_ 0 (.bool true)
        have f9 : Fresh w ((w6.alloc (.cells #[.int .i64 0, .int .i64 0, .int .i64 0, .int .i64 0, .int .i64 0, .int .i64 0, .int .i64 0] 44)).setCell ⟨w.heap.size + 1, 0, none⟩ (.bool true)) := Keep.setCell (p := ⟨w.heap.size + 1, 0, none⟩) (fwW.out.step F7.out (fun _ _ h => h)) (fun h => by simp at h; omega) _
        have hDne : D ≠ w.heap.size + 1 := by omega
        have k9 : ((w6.alloc (.cells #[.int .i64 0, .int .i64 0, .int .i64 0, .int .i64 0, .int .i64 0, .int .i64 0, .int .i64 0] 44)).setCell ⟨w.heap.size + 1, 0, none⟩ (.bool true)).heap[D]? = some (.deferred (some [])) := (Below.heap_setCell _ ⟨w.heap.size + 1, 0, none⟩ _ D hDne).trans ((F7.out.block D hDl (fun h => h)).trans HK.out)
        refine ⟨by simp, .inl ⟨_, _, rfl, run_takeDeferred k9, ?_⟩⟩
        have hr : ∀ rr, some D = some rr → ∃ o : Obj, ((w6.alloc (.cells #[.int .i64 0, .int .i64 0, .int .i64 0, .int .i64 0, .int .i64 0, .int .i64 0, .int .i64 0] 44)).setCell ⟨w.heap.size + 1, 0, none⟩ (.bool true)).heap[rr]? = some o ∧ o.isCells = false := fun rr e => by cases e; exact ⟨_, k9, rfl⟩
        have hg := grownBy_putObj' ((w6.alloc (.cells #[.int .i64 0, .int .i64 0, .int .i64 0, .int .i64 0, .int .i64 0, .int .i64 0, .int .i64 0] 44)).setCell ⟨w.heap.size + 1, 0, none⟩ (.bool true)) D (.deferred none)
        have c9 := (blk_grown b9 hg hr).cell
        have g9 := ownFrom_fresh (β := Unit) (Nat.le_refl w.heap.size) () _ _ _ f9 hg (fun rr e => by cases e; exact ⟨by omega, _, k9, rfl⟩)
        exact ⟨.bool true, by simp [results, Try.results28, go_sem, c9]; try rfl, rfl, g9⟩
      · obtain ⟨m, rfl⟩ : ∃ m, N = m + 1 := ⟨N - 1, by omega⟩
        obtain ⟨r, hrm⟩ : ∃ r, ys[m]? = some r := ⟨_, List.getElem?_eq_getElem (by rw [HN.out]; omega)⟩
        have HRM := Lib.hid hrm
        have hgl : ys.getLast? = some r := by rw [List.getLast?_eq_getElem?, HN.out]; exact hrm
        have ws1 : IntKind.i64.wrap (m : Int) = (m : Int) := IntWalk.i64_in _ (by omega)
        have ws2 : IntKind.i64.wrap ((m : Int) + 1 - 1) = (m : Int) := (IntWalk.i64_in _ (by omega)).trans (by omega)
        have tn0 : ((m : Int) + 1 == 0) = false := by rw [beq_eq_false_iff_ne]; omega
        have m0 : (0 : Int) ≤ (m : Int) := by omega
        have m1 : (m : Int) < (m : Int) + 1 := by omega
        have hwd : IntKind.i64.wrap ((m : Int) + 1 - (S : Int)) = (m : Int) + 1 - (S : Int) := IntWalk.i64_in _ (by omega)
        by_cases hrf : r.1.t < fr
        · have tr : decide (r.1.t < fr) = true := decide_eq_true hrf
          have hlo : lateO ys fr = none := by unfold lateO; rw [hgl]; simp only; rw [if_pos hrf]
          clear hn0 hrm hgl hrf
          have HLA := Lib.hid (HT.out w5 F5.out)
          rw [hlo] at HLA
          simp only [evVal, Ev.val, Option.isSome_none, Option.isSome_some] at HLA
          clear HT hlo
          go_wp2_with fail
          refine HLA.out.mono ?_
          rintro e w6 ⟨rfl, f6⟩
          have f7 : Fresh W (w6.alloc (.cells #[.int .i64 0, .int .i64 0, .int .i64 0, .int .i64 0, .int .i64 0, .int .i64 0, .int .i64 0] 44)) := (F5.out.step f6 (fun _ _ h => h)).alloc _
          have b8 : Blk (w6.alloc (.cells #[.int .i64 0, .int .i64 0, .int .i64 0, .int .i64 0, .int .i64 0, .int .i64 0, .int .i64 0] 44)) w6.heap.size 44 #[.int .i64 0, .int .i64 0, .int .i64 0, .int .i64 0, .int .i64 0, .int .i64 0, .int .i64 0] := Blk.new _ _ _
          have F7 := Lib.hid f7
          have S7 := Lib.hid (UI.out.fresh f7)
          have c8 := b8.cell
          have l8 := b8.lt
          have cb := S7.out.b.cell
          have lb := S7.out.b.lt
          have cn := S7.out.n.cell
          have ln := S7.out.n.lt
          have cs7 := S7.out.s.cell
          have ls7 := S7.out.s.lt
          have cl := S7.out.l.cell
          have ll := S7.out.l.lt
          rw [HLI.out] at cl
          rw [HN.out] at cn
          rw [HSu.out] at cs7
          rw [HEL.out] at cb
          obtain ⟨gw, offw, _, hvw, lw, _, _, ccw⟩ := (OW.out.fresh S7.out.f).form (by rw [HEL.out]; omega)
          injection hvw with e1 e2 e3
          subst e1 e3
          obtain ⟨z0, z1, z2, z3, z4, z5, z6⟩ := cells_at (evs ys) m r.1 (evs_at' HRM.out)
          have z0 := ccw _ _ z0
          have z1 := ccw _ _ z1
          have z2 := ccw _ _ z2
          have z3 := ccw _ _ z3
          have z4 := ccw _ _ z4
          have z5 := ccw _ _ z5
          have z6 := ccw _ _ z6
          rw [← Nat.add_assoc] at z1 z2 z3 z4 z5 z6
          clear ccw e2
          have T7 := Lib.hid (F7.out.blk_ UT.out)
          have ut := T7.out.cell
          have uf := T7.out.frozen
          have ul := T7.out.lt
          clear f7 b8 f6 HLA
          go_wp2_with fail
          have b9 : Blk ((w6.alloc (.cells #[.int .i64 0, .int .i64 0, .int .i64 0, .int .i64 0, .int .i64 0, .int .i64 0, .int .i64 0] 44)).setCell ⟨w.heap.size + 1, 0, none⟩ (.bool true)) (w.heap.size + 1) 4 #[.bool true] := by simpa using T7.out.set_ 0 (.bool true)
          have f9 : Fresh w ((w6.alloc (.cells #[.int .i64 0, .int .i64 0, .int .i64 0, .int .i64 0, .int .i64 0, .int .i64 0, .int .i64 0] 44)).setCell ⟨w.heap.size + 1, 0, none⟩ (.bool true)) := Keep.setCell (p := ⟨w.heap.size + 1, 0, none⟩) (fwW.out.step F7.out (fun _ _ h => h)) (fun h => by simp at h; omega) _
          have hDne : D ≠ w.heap.size + 1 := by omega
          have k9 : ((w6.alloc (.cells #[.int .i64 0, .int .i64 0, .int .i64 0, .int .i64 0, .int .i64 0, .int .i64 0, .int .i64 0] 44)).setCell ⟨w.heap.size + 1, 0, none⟩ (.bool true)).heap[D]? = some (.deferred (some [])) := (Below.heap_setCell _ ⟨w.heap.size + 1, 0, none⟩ _ D hDne).trans ((F7.out.block D hDl (fun h => h)).trans HK.out)
          refine ⟨by simp, .inl ⟨_, _, rfl, run_takeDeferred k9, ?_⟩⟩
          have hr : ∀ rr, some D = some rr → ∃ o : Obj, ((w6.alloc (.cells #[.int .i64 0, .int .i64 0, .int .i64 0, .int .i64 0, .int .i64 0, .int .i64 0, .int .i64 0] 44)).setCell ⟨w.heap.size + 1, 0, none⟩ (.bool true)).heap[rr]? = some o ∧ o.isCells = false := fun rr e => by cases e; exact ⟨_, k9, rfl⟩
          have hg := grownBy_putObj' ((w6.alloc (.cells #[.int .i64 0, .int .i64 0, .int .i64 0, .int .i64 0, .int .i64 0, .int .i64 0, .int .i64 0] 44)).setCell ⟨w.heap.size + 1, 0, none⟩ (.bool true)) D (.deferred none)
          have c9 := (blk_grown b9 hg hr).cell
          have g9 := ownFrom_fresh (β := Unit) (Nat.le_refl w.heap.size) () _ _ _ f9 hg (fun rr e => by cases e; exact ⟨by omega, _, k9, rfl⟩)
          exact ⟨.bool true, by simp [results, Try.results28, go_sem, c9]; try rfl, rfl, g9⟩
        · have tr : decide (r.1.t < fr) = false := decide_eq_false hrf
          have hlo : lateO ys fr = some r.1 := by unfold lateO; rw [hgl]; simp only; rw [if_neg hrf]
          clear hn0 hrm hgl hrf
          have HLA := Lib.hid (HT.out w5 F5.out)
          rw [hlo] at HLA
          simp only [evVal, Ev.val, Option.isSome_none, Option.isSome_some] at HLA
          clear HT hlo
          go_wp2_with fail
          refine HLA.out.mono ?_
          rintro e w6 ⟨rfl, f6⟩
          have f7 : Fresh W (w6.alloc (.cells #[.int .i64 r.1.a, .int .i64 r.1.s, .int .i64 r.1.t, .int .i64 r.1.n, .int .i64 r.1.d, .int .i64 r.1.k, .int .i64 r.1.x] 44)) := (F5.out.step f6 (fun _ _ h => h)).alloc _
          have b8 : Blk (w6.alloc (.cells #[.int .i64 r.1.a, .int .i64 r.1.s, .int .i64 r.1.t, .int .i64 r.1.n, .int .i64 r.1.d, .int .i64 r.1.k, .int .i64 r.1.x] 44)) w6.heap.size 44 #[.int .i64 r.1.a, .int .i64 r.1.s, .int .i64 r.1.t, .int .i64 r.1.n, .int .i64 r.1.d, .int .i64 r.1.k, .int .i64 r.1.x] := Blk.new _ _ _
          have F7 := Lib.hid f7
          have S7 := Lib.hid (UI.out.fresh f7)
          have c8 := b8.cell
          have l8 := b8.lt
          have cb := S7.out.b.cell
          have lb := S7.out.b.lt
          have cn := S7.out.n.cell
          have ln := S7.out.n.lt
          have cs7 := S7.out.s.cell
          have ls7 := S7.out.s.lt
          have cl := S7.out.l.cell
          have ll := S7.out.l.lt
          rw [HLI.out] at cl
          rw [HN.out] at cn
          rw [HSu.out] at cs7
          rw [HEL.out] at cb
          obtain ⟨gw, offw, _, hvw, lw, _, _, ccw⟩ := (OW.out.fresh S7.out.f).form (by rw [HEL.out]; omega)
          injection hvw with e1 e2 e3
          subst e1 e3
          obtain ⟨z0, z1, z2, z3, z4, z5, z6⟩ := cells_at (evs ys) m r.1 (evs_at' HRM.out)
          have z0 := ccw _ _ z0
          have z1 := ccw _ _ z1
          have z2 := ccw _ _ z2
          have z3 := ccw _ _ z3
          have z4 := ccw _ _ z4
          have z5 := ccw _ _ z5
          have z6 := ccw _ _ z6
          rw [← Nat.add_assoc] at z1 z2 z3 z4 z5 z6
          clear ccw e2
          have T7 := Lib.hid (F7.out.blk_ UT.out)
          have ut := T7.out.cell
          have uf := T7.out.frozen
          have ul := T7.out.lt
          clear f7 b8 f6 HLA
          go_wp2_with fail
          go_region
          go_wp2_with fail
          have b9 : Blk ((w6.alloc (.cells #[.int .i64 r.1.a, .int .i64 r.1.s, .int .i64 r.1.t, .int .i64 r.1.n, .int .i64 r.1.d, .int .i64 r.1.k, .int .i64 r.1.x] 44)).setCell ⟨w.heap.size + 1, 0, none⟩ (.bool true)) (w.heap.size + 1) 4 #[.bool true] := by simpa using T7.out.set_ 0 (.bool true)
          have f9 : Fresh w ((w6.alloc (.cells #[.int .i64 r.1.a, .int .i64 r.1.s, .int .i64 r.1.t, .int .i64 r.1.n, .int .i64 r.1.d, .int .i64 r.1.k, .int .i64 r.1.x] 44)).setCell ⟨w.heap.size + 1, 0, none⟩ (.bool true)) := Keep.setCell (p := ⟨w.heap.size + 1, 0, none⟩) (fwW.out.step F7.out (fun _ _ h => h)) (fun h => by simp at h; omega) _
          have hDne : D ≠ w.heap.size + 1 := by omega
          have k9 : ((w6.alloc (.cells #[.int .i64 r.1.a, .int .i64 r.1.s, .int .i64 r.1.t, .int .i64 r.1.n, .int .i64 r.1.d, .int .i64 r.1.k, .int .i64 r.1.x] 44)).setCell ⟨w.heap.size + 1, 0, none⟩ (.bool true)).heap[D]? = some (.deferred (some [])) := (Below.heap_setCell _ ⟨w.heap.size + 1, 0, none⟩ _ D hDne).trans ((F7.out.block D hDl (fun h => h)).trans HK.out)
          have b9 := b9.drew
          have f9 := Keep.drew f9
          have k9 : (((w6.alloc (.cells #[.int .i64 r.1.a, .int .i64 r.1.s, .int .i64 r.1.t, .int .i64 r.1.n, .int .i64 r.1.d, .int .i64 r.1.k, .int .i64 r.1.x] 44)).setCell ⟨w.heap.size + 1, 0, none⟩ (.bool true)).drew).heap[D]? = some (.deferred (some [])) := k9
          refine ⟨by simp, .inl ⟨_, _, rfl, run_takeDeferred k9, ?_⟩⟩
          have hr : ∀ rr, some D = some rr → ∃ o : Obj, (((w6.alloc (.cells #[.int .i64 r.1.a, .int .i64 r.1.s, .int .i64 r.1.t, .int .i64 r.1.n, .int .i64 r.1.d, .int .i64 r.1.k, .int .i64 r.1.x] 44)).setCell ⟨w.heap.size + 1, 0, none⟩ (.bool true)).drew).heap[rr]? = some o ∧ o.isCells = false := fun rr e => by cases e; exact ⟨_, k9, rfl⟩
          have hg := grownBy_putObj' (((w6.alloc (.cells #[.int .i64 r.1.a, .int .i64 r.1.s, .int .i64 r.1.t, .int .i64 r.1.n, .int .i64 r.1.d, .int .i64 r.1.k, .int .i64 r.1.x] 44)).setCell ⟨w.heap.size + 1, 0, none⟩ (.bool true)).drew) D (.deferred none)
          have c9 := (blk_grown b9 hg hr).cell
          have g9 := ownFrom_fresh (β := Unit) (Nat.le_refl w.heap.size) () _ _ _ f9 hg (fun rr e => by cases e; exact ⟨by omega, _, k9, rfl⟩)
          exact ⟨.bool true, by simp [results, Try.results28, go_sem, c9]; try rfl, rfl, g9⟩
    | some y =>
      obtain ⟨k, hk1, hk2⟩ := leastI_some hll
      have HLI := Lib.hid hk1
      have HK2 := Lib.hid hk2
      have hkN : k < N := by
        have := (List.getElem?_eq_some_iff.1 hk2).1
        rw [HN.out] at this
        exact this
      have k0 : (0 : Int) ≤ (k : Int) := by omega
      have k1 : (k : Int) < (N : Int) := by omega
      have kd : decide ((0 : Int) ≤ (k : Int)) = true := decide_eq_true k0
      rw [hll] at HL2
      clear hll hk1 hk2
      go_wp2_with fail
      refine (HL2.out _ F4.out).mono ?_
      rintro e w5 ⟨rfl, f5⟩
      have F5 := Lib.hid (F4.out.step f5 (fun _ _ h => h))
      clear f5 HL2
      by_cases hn0 : N = 0
      · subst hn0
        obtain rfl : S = 0 := by omega
        exfalso
        omega
      · obtain ⟨m, rfl⟩ : ∃ m, N = m + 1 := ⟨N - 1, by omega⟩
        obtain ⟨r, hrm⟩ : ∃ r, ys[m]? = some r := ⟨_, List.getElem?_eq_getElem (by rw [HN.out]; omega)⟩
        have HRM := Lib.hid hrm
        have hgl : ys.getLast? = some r := by rw [List.getLast?_eq_getElem?, HN.out]; exact hrm
        have ws1 : IntKind.i64.wrap (m : Int) = (m : Int) := IntWalk.i64_in _ (by omega)
        have ws2 : IntKind.i64.wrap ((m : Int) + 1 - 1) = (m : Int) := (IntWalk.i64_in _ (by omega)).trans (by omega)
        have tn0 : ((m : Int) + 1 == 0) = false := by rw [beq_eq_false_iff_ne]; omega
        have m0 : (0 : Int) ≤ (m : Int) := by omega
        have m1 : (m : Int) < (m : Int) + 1 := by omega
        have hwd : IntKind.i64.wrap ((m : Int) + 1 - (S : Int)) = (m : Int) + 1 - (S : Int) := IntWalk.i64_in _ (by omega)
        by_cases hrf : r.1.t < fr
        · have tr : decide (r.1.t < fr) = true := decide_eq_true hrf
          have hlo : lateO ys fr = none := by unfold lateO; rw [hgl]; simp only; rw [if_pos hrf]
          clear hn0 hrm hgl hrf
          have HLA := Lib.hid (HT.out w5 F5.out)
          rw [hlo] at HLA
          simp only [evVal, Ev.val, Option.isSome_none, Option.isSome_some] at HLA
          clear HT hlo
          go_wp2_with fail
          refine HLA.out.mono ?_
          rintro e w6 ⟨rfl, f6⟩
          have f7 : Fresh W (w6.alloc (.cells #[.int .i64 0, .int .i64 0, .int .i64 0, .int .i64 0, .int .i64 0, .int .i64 0, .int .i64 0] 44)) := (F5.out.step f6 (fun _ _ h => h)).alloc _
          have b8 : Blk (w6.alloc (.cells #[.int .i64 0, .int .i64 0, .int .i64 0, .int .i64 0, .int .i64 0, .int .i64 0, .int .i64 0] 44)) w6.heap.size 44 #[.int .i64 0, .int .i64 0, .int .i64 0, .int .i64 0, .int .i64 0, .int .i64 0, .int .i64 0] := Blk.new _ _ _
          have F7 := Lib.hid f7
          have S7 := Lib.hid (UI.out.fresh f7)
          have c8 := b8.cell
          have l8 := b8.lt
          have cb := S7.out.b.cell
          have lb := S7.out.b.lt
          have cn := S7.out.n.cell
          have ln := S7.out.n.lt
          have cs7 := S7.out.s.cell
          have ls7 := S7.out.s.lt
          have cl := S7.out.l.cell
          have ll := S7.out.l.lt
          rw [HLI.out] at cl
          rw [HN.out] at cn
          rw [HSu.out] at cs7
          rw [HEL.out] at cb
          obtain ⟨gw, offw, _, hvw, lw, _, _, ccw⟩ := (OW.out.fresh S7.out.f).form (by rw [HEL.out]; omega)
          injection hvw with e1 e2 e3
          subst e1 e3
          have yt := ccw _ _ (cells_at (evs ys) k y.1 (evs_at' HK2.out)).2.2.1
          rw [← Nat.add_assoc] at yt
          obtain ⟨z0, z1, z2, z3, z4, z5, z6⟩ := cells_at (evs ys) m r.1 (evs_at' HRM.out)
          have z0 := ccw _ _ z0
          have z1 := ccw _ _ z1
          have z2 := ccw _ _ z2
          have z3 := ccw _ _ z3
          have z4 := ccw _ _ z4
          have z5 := ccw _ _ z5
          have z6 := ccw _ _ z6
          rw [← Nat.add_assoc] at z1 z2 z3 z4 z5 z6
          clear ccw e2
          have T7 := Lib.hid (F7.out.blk_ UT.out)
          have ut := T7.out.cell
          have uf := T7.out.frozen
          have ul := T7.out.lt
          clear f7 b8 f6 HLA
          go_wp2_with fail
          have b9 : Blk ((w6.alloc (.cells #[.int .i64 0, .int .i64 0, .int .i64 0, .int .i64 0, .int .i64 0, .int .i64 0, .int .i64 0] 44)).setCell ⟨w.heap.size + 1, 0, none⟩ (.bool true)) (w.heap.size + 1) 4 #[.bool true] := by simpa using T7.out.set_ 0 (.bool true)
          have f9 : Fresh w ((w6.alloc (.cells #[.int .i64 0, .int .i64 0, .int .i64 0, .int .i64 0, .int .i64 0, .int .i64 0, .int .i64 0] 44)).setCell ⟨w.heap.size + 1, 0, none⟩ (.bool true)) := Keep.setCell (p := ⟨w.heap.size + 1, 0, none⟩) (fwW.out.step F7.out (fun _ _ h => h)) (fun h => by simp at h; omega) _
          have hDne : D ≠ w.heap.size + 1 := by omega
          have k9 : ((w6.alloc (.cells #[.int .i64 0, .int .i64 0, .int .i64 0, .int .i64 0, .int .i64 0, .int .i64 0, .int .i64 0] 44)).setCell ⟨w.heap.size + 1, 0, none⟩ (.bool true)).heap[D]? = some (.deferred (some [])) := (Below.heap_setCell _ ⟨w.heap.size + 1, 0, none⟩ _ D hDne).trans ((F7.out.block D hDl (fun h => h)).trans HK.out)
          refine ⟨by simp, .inl ⟨_, _, rfl, run_takeDeferred k9, ?_⟩⟩
          have hr : ∀ rr, some D = some rr → ∃ o : Obj, ((w6.alloc (.cells #[.int .i64 0, .int .i64 0, .int .i64 0, .int .i64 0, .int .i64 0, .int .i64 0, .int .i64 0] 44)).setCell ⟨w.heap.size + 1, 0, none⟩ (.bool true)).heap[rr]? = some o ∧ o.isCells = false := fun rr e => by cases e; exact ⟨_, k9, rfl⟩
          have hg := grownBy_putObj' ((w6.alloc (.cells #[.int .i64 0, .int .i64 0, .int .i64 0, .int .i64 0, .int .i64 0, .int .i64 0, .int .i64 0] 44)).setCell ⟨w.heap.size + 1, 0, none⟩ (.bool true)) D (.deferred none)
          have c9 := (blk_grown b9 hg hr).cell
          have g9 := ownFrom_fresh (β := Unit) (Nat.le_refl w.heap.size) () _ _ _ f9 hg (fun rr e => by cases e; exact ⟨by omega, _, k9, rfl⟩)
          exact ⟨.bool true, by simp [results, Try.results28, go_sem, c9]; try rfl, rfl, g9⟩
        · have tr : decide (r.1.t < fr) = false := decide_eq_false hrf
          have hlo : lateO ys fr = some r.1 := by unfold lateO; rw [hgl]; simp only; rw [if_neg hrf]
          clear hn0 hrm hgl hrf
          have HLA := Lib.hid (HT.out w5 F5.out)
          rw [hlo] at HLA
          simp only [evVal, Ev.val, Option.isSome_none, Option.isSome_some] at HLA
          clear HT hlo
          go_wp2_with fail
          refine HLA.out.mono ?_
          rintro e w6 ⟨rfl, f6⟩
          have f7 : Fresh W (w6.alloc (.cells #[.int .i64 r.1.a, .int .i64 r.1.s, .int .i64 r.1.t, .int .i64 r.1.n, .int .i64 r.1.d, .int .i64 r.1.k, .int .i64 r.1.x] 44)) := (F5.out.step f6 (fun _ _ h => h)).alloc _
          have b8 : Blk (w6.alloc (.cells #[.int .i64 r.1.a, .int .i64 r.1.s, .int .i64 r.1.t, .int .i64 r.1.n, .int .i64 r.1.d, .int .i64 r.1.k, .int .i64 r.1.x] 44)) w6.heap.size 44 #[.int .i64 r.1.a, .int .i64 r.1.s, .int .i64 r.1.t, .int .i64 r.1.n, .int .i64 r.1.d, .int .i64 r.1.k, .int .i64 r.1.x] := Blk.new _ _ _
          have F7 := Lib.hid f7
          have S7 := Lib.hid (UI.out.fresh f7)
          have c8 := b8.cell
          have l8 := b8.lt
          have cb := S7.out.b.cell
          have lb := S7.out.b.lt
          have cn := S7.out.n.cell
          have ln := S7.out.n.lt
          have cs7 := S7.out.s.cell
          have ls7 := S7.out.s.lt
          have cl := S7.out.l.cell
          have ll := S7.out.l.lt
          rw [HLI.out] at cl
          rw [HN.out] at cn
          rw [HSu.out] at cs7
          rw [HEL.out] at cb
          obtain ⟨gw, offw, _, hvw, lw, _, _, ccw⟩ := (OW.out.fresh S7.out.f).form (by rw [HEL.out]; omega)
          injection hvw with e1 e2 e3
          subst e1 e3
          have yt := ccw _ _ (cells_at (evs ys) k y.1 (evs_at' HK2.out)).2.2.1
          rw [← Nat.add_assoc] at yt
          obtain ⟨z0, z1, z2, z3, z4, z5, z6⟩ := cells_at (evs ys) m r.1 (evs_at' HRM.out)
          have z0 := ccw _ _ z0
          have z1 := ccw _ _ z1
          have z2 := ccw _ _ z2
          have z3 := ccw _ _ z3
          have z4 := ccw _ _ z4
          have z5 := ccw _ _ z5
          have z6 := ccw _ _ z6
          rw [← Nat.add_assoc] at z1 z2 z3 z4 z5 z6
          clear ccw e2
          have T7 := Lib.hid (F7.out.blk_ UT.out)
          have ut := T7.out.cell
          have uf := T7.out.frozen
          have ul := T7.out.lt
          clear f7 b8 f6 HLA
          go_wp2_with fail
          go_region
          go_wp2_with fail
          have b9 : Blk ((w6.alloc (.cells #[.int .i64 r.1.a, .int .i64 r.1.s, .int .i64 r.1.t, .int .i64 r.1.n, .int .i64 r.1.d, .int .i64 r.1.k, .int .i64 r.1.x] 44)).setCell ⟨w.heap.size + 1, 0, none⟩ (.bool true)) (w.heap.size + 1) 4 #[.bool true] := by simpa using T7.out.set_ 0 (.bool true)
          have f9 : Fresh w ((w6.alloc (.cells #[.int .i64 r.1.a, .int .i64 r.1.s, .int .i64 r.1.t, .int .i64 r.1.n, .int .i64 r.1.d, .int .i64 r.1.k, .int .i64 r.1.x] 44)).setCell ⟨w.heap.size + 1, 0, none⟩ (.bool true)) := Keep.setCell (p := ⟨w.heap.size + 1, 0, none⟩) (fwW.out.step F7.out (fun _ _ h => h)) (fun h => by simp at h; omega) _
          have hDne : D ≠ w.heap.size + 1 := by omega
          have k9 : ((w6.alloc (.cells #[.int .i64 r.1.a, .int .i64 r.1.s, .int .i64 r.1.t, .int .i64 r.1.n, .int .i64 r.1.d, .int .i64 r.1.k, .int .i64 r.1.x] 44)).setCell ⟨w.heap.size + 1, 0, none⟩ (.bool true)).heap[D]? = some (.deferred (some [])) := (Below.heap_setCell _ ⟨w.heap.size + 1, 0, none⟩ _ D hDne).trans ((F7.out.block D hDl (fun h => h)).trans HK.out)
          have b9 := b9.drew
          have f9 := Keep.drew f9
          have k9 : (((w6.alloc (.cells #[.int .i64 r.1.a, .int .i64 r.1.s, .int .i64 r.1.t, .int .i64 r.1.n, .int .i64 r.1.d, .int .i64 r.1.k, .int .i64 r.1.x] 44)).setCell ⟨w.heap.size + 1, 0, none⟩ (.bool true)).drew).heap[D]? = some (.deferred (some [])) := k9
          refine ⟨by simp, .inl ⟨_, _, rfl, run_takeDeferred k9, ?_⟩⟩
          have hr : ∀ rr, some D = some rr → ∃ o : Obj, (((w6.alloc (.cells #[.int .i64 r.1.a, .int .i64 r.1.s, .int .i64 r.1.t, .int .i64 r.1.n, .int .i64 r.1.d, .int .i64 r.1.k, .int .i64 r.1.x] 44)).setCell ⟨w.heap.size + 1, 0, none⟩ (.bool true)).drew).heap[rr]? = some o ∧ o.isCells = false := fun rr e => by cases e; exact ⟨_, k9, rfl⟩
          have hg := grownBy_putObj' (((w6.alloc (.cells #[.int .i64 r.1.a, .int .i64 r.1.s, .int .i64 r.1.t, .int .i64 r.1.n, .int .i64 r.1.d, .int .i64 r.1.k, .int .i64 r.1.x] 44)).setCell ⟨w.heap.size + 1, 0, none⟩ (.bool true)).drew) D (.deferred none)
          have c9 := (blk_grown b9 hg hr).cell
          have g9 := ownFrom_fresh (β := Unit) (Nat.le_refl w.heap.size) () _ _ _ f9 hg (fun rr e => by cases e; exact ⟨by omega, _, k9, rfl⟩)
          exact ⟨.bool true, by simp [results, Try.results28, go_sem, c9]; try rfl, rfl, g9⟩
end Go.Proofs.Ytbplomnoapndnaa
