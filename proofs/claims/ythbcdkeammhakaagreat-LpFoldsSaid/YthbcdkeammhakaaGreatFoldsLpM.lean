/- LpFolds returns true at every input: the state is what all batches up to now make of the first one, run once, in order; the sure records are what these send; and all messages less the antis are the records, and what Free took. No conditions. -/
import Derived.Test.YthbcdkeammhakaaGreatM29
import Derived.Deep.DeepCutAuto
namespace Go.Proofs.YthbcdkeammhakaaGreat
open Go.RowKit
attribute [local go_sem] eq4w run_neq_state
attribute [local go_sem ↓] Go.wp_at_zero Go.wp_at_succ RS.run_max
theorem OwnP.callsF {c : LC} {first : St} {A : AM} {n : Nat} {w0 w : World} {y : PV} {g : Nat} (h : OwnP c first A n w0 y w) (hg : y.g = g) (hn : n ≤ 62) (o : LOp) (hx : SmE o.x) : Calls Tryz.prog 15 #[.pointer (some ⟨g, 0, none⟩), .agg o.arr] w (CallsP c first y (doA (cfg c first) A o.k o.b o.x o.an) (n + 1) w) := by
  subst hg
  obtain ⟨p, h1, h2⟩ := h.r
  exact calls_any h1 h2 hn o hx
set_option maxRecDepth 100000 in
set_option maxHeartbeats 8000000 in
theorem lpfolds_no (c : LC) (first : St) (A B : Option Addr) (cA cB : Nat) (l : List Ev) (os : List LOp) (w : World) (h : EvAt w (.slice A l.length cA) l) (hl : l.length ≤ 9223372036854775807) (ho : LOps w B os) (hn : os.length ≤ 9223372036854775807) (hb : fewB c first l = false ∨ shortB os = false) : Law Tryz.prog 4 #[.agg (jarr c first (.slice A l.length cA)), .slice B os.length cB] w := by
  unfold Law
  have F0 : Fresh w (w.alloc (.cells (jarr c first (.slice A l.length cA)) 26)) := (Keep.refl _ w).alloc _
  have HF := Lib.hid (few_any c first A cA l _ (h.fresh F0) hl)
  have HS := Lib.hid (fun W (f : Fresh w W) => short_any B cB os W (ho.fresh f) hn)
  have FF := Lib.hid F0
  obtain ⟨b1, hb1⟩ : ∃ b1, fewB c first l = b1 := ⟨_, rfl⟩
  obtain ⟨b2, hb2⟩ : ∃ b2, shortB os = b2 := ⟨_, rfl⟩
  have hbb : b1 = false ∨ b2 = false := by
    rcases hb with h | h
    · exact .inl (hb1.symm.trans h)
    · exact .inr (hb2.symm.trans h)
  rw [hb1] at HF
  rw [hb2] at HS
  unfold jarr at HF FF ⊢
  clear h ho hb F0 hb1 hb2
  cases b1 <;> cases b2 <;> first
    | (simp at hbb; done)
    | (clear hbb
       go_enter Tryz.func4, Tryz.ntmps4
       go_wp2_with (first
         | (go_at_call 11; (with_reducible refine HF.out.mono ?_); rintro e w1 ⟨rfl, f1⟩; have F1 : Hid (Fresh w w1) := Lib.hid (FF.out.step f1 (fun _ _ h => h)); clear f1)
         | (go_at_call 12; (with_reducible refine (HS.out _ F1.out).mono ?_); rintro e w2 ⟨rfl, f2⟩; have F1 : Hid (Fresh w w2) := Lib.hid (F1.out.step f2 (fun _ _ h => h)); clear f2)
         | (go_at_call 13; (with_reducible refine (awake_any _).mono ?_); rintro e w3 ⟨rfl, f3⟩; have F3 : Hid (Fresh w w3) := Lib.hid (F1.out.step f3 (fun _ _ h => h)); clear f3))
       go_ret
       exact ⟨rfl, Fresh.below_ F3.out (Nat.le_refl _)⟩)
set_option maxRecDepth 100000 in
set_option maxHeartbeats 16000000 in
theorem lpfolds_ok (c : LC) (first : St) (A B : Option Addr) (cA cB : Nat) (l : List Ev) (os : List LOp) (w : World) (h : EvAt w (.slice A l.length cA) l) (hl : l.length ≤ 9223372036854775807) (ho : LOps w B os) (hn : os.length ≤ 9223372036854775807) (h1 : fewB c first l = true) (h2 : shortB os = true) : Law Tryz.prog 4 #[.agg (jarr c first (.slice A l.length cA)), .slice B os.length cB] w := by
  unfold Law
  have hff := few_facts h1
  have hl20 : l.length ≤ 1000 := by have := hff.2.2.1; omega
  have F0 : Fresh w (w.alloc (.cells (jarr c first (.slice A l.length cA)) 26)) := (Keep.refl _ w).alloc _
  have HB0 : Hid (Blk (w.alloc (.cells (jarr c first (.slice A l.length cA)) 26)) w.heap.size 26 (jarr c first (.slice A l.length cA))) := Lib.hid (Blk.new w _ _)
  have HF := Lib.hid (few_any c first A cA l _ (h.fresh F0) hl)
  have HS := Lib.hid (fun W (f : Fresh w W) => short_any B cB os W (ho.fresh f) hn)
  have HM1 : Hid (∀ W, Fresh w W → Calls Tryz.prog 14 #[.agg (jarr c first (.slice A l.length cA))] W (LMadeP c first l W)) := Lib.hid fun W f => made_any _ first A cA l W (h.fresh f) (by omega)
  have HNW : Hid (madeE c.id c.every l = 0 → ∀ W, Fresh w W → Calls Tryz.prog 21 #[.agg #[.int .i64 c.md], .int .i64 c.id, first.val, .bool c.lz, .slice A l.length cA] W (RNewP c first l W)) := Lib.hid fun he W f => rnew_ok c first A cA l W (h.fresh f) hl20 (newE_zero (madeE_zero he).2.2.2)
  have HR1 : Hid (madeE c.id c.every l = 0 → RefP c first (newLp first (insAll l)) (newA (insAll l)) 0) := Lib.hid fun he => made_ref h1 he
  have HO := Lib.hid (fun i o => lop_cells ho (i := i) (o := o))
  have H60 : os.length ≤ 60 := by
    unfold shortB at h2
    rw [Bool.and_eq_true] at h2
    exact of_decide_eq_true h2.2
  have HSM : Hid (∀ o ∈ os, SmE o.x) := Lib.hid fun o hm => by
    unfold shortB at h2
    rw [Bool.and_eq_true] at h2
    exact (smallB_iff o.x).1 (List.all_eq_true.1 h2.1 o hm)
  have FF := Lib.hid F0
  rw [h1] at HF
  rw [h2] at HS
  unfold jarr at HF FF HM1 HB0 ⊢
  unfold St.val at HNW
  obtain ⟨nl, hnl⟩ : ∃ nl, insAll l = nl := ⟨_, rfl⟩
  rw [hnl] at HR1
  have HNL := Lib.hid hnl
  clear h ho h1 h2 F0 hff hnl
  go_enter Tryz.func4, Tryz.ntmps4
  go_wp2_with (first
    | (go_at_call 11; (with_reducible refine HF.out.mono ?_); rintro e w1 ⟨rfl, f1⟩; have F1 : Hid (Fresh w w1) := Lib.hid (FF.out.step f1 (fun _ _ h => h)); have B1 := Lib.hid (f1.blk_ HB0.out); clear f1)
    | (go_at_call 12; (with_reducible refine (HS.out _ F1.out).mono ?_); rintro e w2 ⟨rfl, f2⟩; have F2 : Hid (Fresh w w2) := Lib.hid (F1.out.step f2 (fun _ _ h => h)); have B2 := Lib.hid (f2.blk_ B1.out); have c2 := B2.out.cell; have r2 := B2.out.frozen; have l2 := B2.out.lt; clear f2))
  clear c2 r2 l2 HF HS B1 HB0 F1 FF
  refine (HM1.out _ F2.out).mono ?_
  rintro e w3 (⟨he1, y1, rfl, s3, f3, n3⟩ | ⟨he1, rfl, f3⟩)
  rotate_left
  · -- [a
    have F3 : Hid (Fresh w w3) := Lib.hid (F2.out.step f3 (fun _ _ h => h))
    obtain ⟨er, her⟩ : ∃ er, madeE c.id c.every l = er := ⟨_, rfl⟩
    have u1 : (er != 0) = true := by rw [← her]; simpa using he1
    have u2 : (er == 0) = false := by rw [← her]; simpa using he1
    simp only [her]
    clear f3 B2 he1 her HM1 HR1 HNW
    go_wp2_with (go_at_call 13; (with_reducible refine (awake_any _).mono ?_); rintro e w9 ⟨rfl, f9⟩)
    go_ret
    exact ⟨rfl, Fresh.below_ (F3.out.step f9 (fun _ _ h => h)) (Nat.le_refl _)⟩
    -- a]
  have F3 : Hid (Fresh w w3) := Lib.hid (F2.out.step f3 (fun _ _ h => h))
  have B3 := Lib.hid (f3.blk_ B2.out)
  rw [HNL.out] at s3
  have O3 : Hid (OwnP c first (newA nl) 0 w y1 w3) := Lib.hid ⟨⟨_, s3, HR1.out he1⟩, F3.out, fun k hk => Nat.le_trans F2.out.size (n3 k hk)⟩
  have HNW := Lib.hid (HNW.out he1)
  have c3 := B3.out.cell
  have r3 := B3.out.frozen
  have l3 := B3.out.lt
  obtain ⟨g1, hg1⟩ : ∃ g1, y1.g = g1 := ⟨_, rfl⟩
  have HG1 := Lib.hid hg1
  rw [hg1]
  clear s3 f3 n3 B2 HM1 HR1 he1 hg1 F2
  go_wp2_with fail
  refine (HNW.out _ F3.out).mono ?_
  rintro e w5 ⟨g, gi, go, v1, v2, L, rfl, r5, p5, f5, x5, d5, go5, bo5⟩
  have I5 : Hid (FldI w c first (newA nl) 0 nl [] y1 g gi go (.slice none 0 0) [] w5) := Lib.hid ⟨O3.out.fresh f5, ⟨v1, v2, L, [], r5, HNL.out ▸ p5, List.Perm.refl _, fun k hk => ⟨Nat.le_trans F3.out.size (x5 k hk), fun hf => by have := O3.out.lt k hf; have := x5 k hk; omega⟩, d5⟩, OwnS.nil _ _ _, by simp [Value.ownBlock]⟩
  have NA0 : Hid (NetA (cfg c first) (newA nl) []) := Lib.hid (by
    unfold NetA earls AM.fold
    obtain ⟨p, _, hr⟩ := O3.out.r
    have e : foldT (cfg c first).R (newA nl).l (newA nl).now (-1) (cfg c first).first = (-1, first, []) := foldT_stop _ (fun x hx => (nx_some hr.inv.sl hx).1)
    rw [e]
    exact List.Perm.refl _)
  clear r5 p5 f5 x5 d5 go5 bo5 O3 c3 r3 l3 B3 F3 HNW HNL
  go_wp2_with fail
  go_loopg [9, 10, 11, 12, 13, 14, 15, 16, 17, 18, 19, 20, 21, 22, 23, 24, 25] os.length (fun gk u9 u10 u11 u12 u13 u14 u15 u16 u17 u18 u19 u20 u21 u22 u23 u24 u25 wr => ∃ (i : Nat) (A : AM) (y : PV) (M : List OMsg) (out : List Ev), i ≤ os.length ∧ gk = os.length - i ∧ u10 = .int .i64 A.freed ∧ u11 = .int .i64 i ∧ FldI w c first A i A.l A.m y g gi go u9 M wr ∧ y.g = g1 ∧ lessF [] M = some out ∧ NetA (cfg c first) A out ∧ M.length + A.q.length ≤ 164 * i ∧ ∀ m ∈ M, Rg m.1)
  case atStart => exact ⟨0, _, y1, [], [], by omega, rfl, rfl, rfl, I5.out, HG1.out, rfl, NA0.out, by simp [newA], by simp⟩
  case round =>
    clear I5 HG1 NA0
    obtain ⟨i, A, y, M, out, hi, rfl, rfl, rfl, hI, hg1, hl1, hna, hml, hrg⟩ := hrel
    have HI := Lib.hid hI
    have HG1 := Lib.hid hg1
    have HL1 := Lib.hid hl1
    have HNA := Lib.hid hna
    have HML := Lib.hid hml
    have HRG := Lib.hid hrg
    obtain ⟨AM9, cM9, rfl, _, _⟩ := hI.om.shape
    clear hI hg1 hl1 hna hml hrg
    by_cases hlt : i < os.length
    · obtain ⟨o, hoo⟩ : ∃ o, os[i]? = some o := ⟨_, List.getElem?_eq_getElem hlt⟩
      have HX := Lib.hid (HSM.out o (List.mem_of_getElem? hoo))
      obtain ⟨b, off, rfl, hce⟩ := HO.out i o hoo
      have HCELL := Lib.hid hce
      obtain ⟨c0, c1, c2, c3, c4, c5, c6, c7, c8, c9⟩ := HCELL.out wr HI.out.o.f
      have tq : decide ((i : Int) < (os.length : Int)) = true := decide_eq_true (by omega)
      have tq' : decide (i < os.length) = true := decide_eq_true hlt
      have q1 : (i : Int) < (os.length : Int) := by omega
      clear hce hoo
      by_cases k5 : o.k = 5
      · -- [b
        have t5 : (o.k == 5) = true := by simpa using k5
        clear k5
        go_wp2_with fail
        go_roundg (os.length - (i + 1))
        case measure => omega
        case rel => exact ⟨i + 1, A, y, M, out, by omega, rfl, rfl, by go_num, (HI.out.fresh ((Keep.refl _ wr).alloc _)).mono (Nat.le_succ i), HG1.out, HL1.out, HNA.out, by have := HML.out; omega, HRG.out⟩
        -- b]
      have t5 : (o.k == 5) = false := by simpa using k5
      by_cases k6 : o.k = 6
      · -- [c
        have t6 : (o.k == 6) = true := by simpa using k6
        clear k5 k6
        go_wp2_with fail
        go_roundg (os.length - (i + 1))
        case measure => omega
        case rel => exact ⟨i + 1, A, y, M, out, by omega, rfl, rfl, by go_num, (HI.out.fresh ((Keep.refl _ wr).alloc _)).mono (Nat.le_succ i), HG1.out, HL1.out, HNA.out, by have := HML.out; omega, HRG.out⟩
        -- c]
      have t6 : (o.k == 6) = false := by simpa using k6
      have K5 := Lib.hid k5
      have K6 := Lib.hid k6
      clear k5 k6
      go_upto_region 16 with fail
      obtain ⟨gb, hgb⟩ : ∃ gb, wr.heap.size = gb := ⟨_, rfl⟩
      obtain ⟨w6, hw6⟩ : ∃ w6, wr.alloc (.cells #[.int .i64 o.k, .int .i64 o.b, .int .i64 o.x.a, .int .i64 o.x.s, .int .i64 o.x.t, .int .i64 o.x.n, .int .i64 o.x.d, .int .i64 o.x.k, .int .i64 o.x.x, .bool o.an] 45) = w6 := ⟨_, rfl⟩
      have BB6 : Hid (Blk w6 gb 45 #[.int .i64 o.k, .int .i64 o.b, .int .i64 o.x.a, .int .i64 o.x.s, .int .i64 o.x.t, .int .i64 o.x.n, .int .i64 o.x.d, .int .i64 o.x.k, .int .i64 o.x.x, .bool o.an]) := Lib.hid (hw6 ▸ hgb ▸ Blk.new wr _ _)
      have I6 := Lib.hid (HI.out.fresh ((Keep.refl _ wr).alloc (.cells #[.int .i64 o.k, .int .i64 o.b, .int .i64 o.x.a, .int .i64 o.x.s, .int .i64 o.x.t, .int .i64 o.x.n, .int .i64 o.x.d, .int .i64 o.x.k, .int .i64 o.x.x, .bool o.an] 45)))
      rw [hw6] at I6 ⊢
      rw [hgb]
      obtain ⟨p6, hp6, hr6⟩ := I6.out.o.r
      have HN62 : Hid (i ≤ 62) := Lib.hid (by omega)
      have HC1 := I6.out.o.callsF HG1.out HN62.out o HX.out
      have DT0 := fun h1 he => do_take (C := cfg c first) (A := A) (k := o.k) (b := o.b) (x := o.x) (an := o.an) h1 he
      have DS0 := fun h1 => do_same (C := cfg c first) (A := A) (k := o.k) (b := o.b) (x := o.x) (an := o.an) K5.out K6.out h1
      have DF0 := do_freed (C := cfg c first) (A := A) (k := o.k) (b := o.b) (x := o.x) (an := o.an) K5.out K6.out
      have DN := net_do (k := o.k) (b := o.b) (x := o.x) (an := o.an) hr6.laws hr6.okf hr6.inv K5.out K6.out (fun _ => HX.out) HNA.out
      have DL := do_len2 (k := o.k) (b := o.b) (x := o.x) (an := o.an) hr6.laws hr6.okf hr6.inv K5.out K6.out
      have DR := fun m hm => do_rg (k := o.k) (b := o.b) (x := o.x) (an := o.an) (m := m) hr6.laws hr6.okf hr6.inv K5.out K6.out hm
      have hal := hr6.al
      have HAL := Lib.hid hr6.al
      have HSL := Lib.hid (show Srt A.l ∧ Srt A.m from ⟨hr6.inv.sl, hr6.inv.sm_⟩)
      have L1 := ans_len hr6.laws hr6.inv hr6.okf o.k o.b o.x o.an (fun _ => HX.out)
      have hql := hr6.ql
      obtain ⟨AA, hAA⟩ : ∃ AA, doA (cfg c first) A o.k o.b o.x o.an = AA := ⟨_, rfl⟩
      rw [hAA] at HC1 DF0 DN DL L1
      have DT : Hid (o.k = 1 → AA.e = 0 → AA.A.l = putL A.l A.m o.x o.an ∧ AA.A.m = putB A.l A.m o.x o.an ∧ 0 ≤ o.x.a ∧ o.x.a ≤ 1073741824) := Lib.hid (by rw [hAA] at DT0; exact DT0)
      have DS : Hid (¬ (o.k = 1 ∧ AA.e = 0) → AA.A.l = A.l ∧ AA.A.m = A.m) := Lib.hid (by rw [hAA] at DS0; exact DS0)
      have DF := Lib.hid DF0
      clear DT0 DS0 DF0
      obtain ⟨out2, dn1, dn2⟩ := DN
      have DN1 : Hid (lessF [] (M ++ AA.M) = some out2) := Lib.hid (by rw [lessF_append _ _ HL1.out]; exact dn1)
      have DN2 := Lib.hid dn2
      have DL2 : Hid ((M ++ AA.M).length + AA.A.q.length ≤ 164 * (i + 1)) := Lib.hid (by have := HML.out; rw [List.length_append]; omega)
      have DR2 : Hid (∀ m ∈ M ++ AA.M, Rg m.1) := Lib.hid (fun m hm => by
        rcases List.mem_append.1 hm with hm | hm
        · exact HRG.out m hm
        · rw [← hAA] at hm; exact DR m hm)
      have HAM : Hid (AA.M.length ≤ 10000 ∧ M.length ≤ 10000) := Lib.hid (by have := HML.out; omega)
      have HC1 := Lib.hid HC1
      unfold LOp.arr at HC1
      have b6 := BB6.out.cell
      have lb6 := BB6.out.lt
      clear c0 c1 c2 c3 c4 c5 c6 c7 c8 c9 hp6 hr6 p6 DR hal L1 hql hAA dn1 dn2 DL hw6 hgb HI HL1 HNA HML HRG HCELL
      go_upto_region 17 with (go_at_call 15; (with_reducible refine HC1.out.mono ?_); rintro e w7 ⟨va, vb, rfl, m7, e7, y7, p7, s7, t7, x7, r7⟩; have M7 := Lib.hid m7.1; have N7 := Lib.hid m7.2; have I7 : Hid (FldI w c first AA.A (i + 1) A.l A.m y7 g gi go (.slice AM9 M.length cM9) M w7) := Lib.hid (I6.out.turn t7 ⟨p7, s7, r7⟩); have G7 : Hid (y7.g = g1) := Lib.hid (t7.g.trans HG1.out); have BB7 : Hid (Blk w7 gb 45 #[.int .i64 o.k, .int .i64 o.b, .int .i64 o.x.a, .int .i64 o.x.s, .int .i64 o.x.t, .int .i64 o.x.n, .int .i64 o.x.d, .int .i64 o.x.k, .int .i64 o.x.x, .bool o.an]) := Lib.hid (I6.out.o.r.elim fun p hp => hp.1.blk_turn t7 BB6.out (by decide)); clear m7 e7 s7 t7 x7 r7 b6 lb6)
      obtain ⟨A13, c13, rfl, _, _⟩ := M7.out.shape
      obtain ⟨i1, hi1, hy0, hy1, hy2⟩ := info_parts info_msg
      have h08 : Hid (0 < 8) := Lib.hid (by omega)
      have hL1 := Lib.hid (show M.length + AA.M.length ≤ maxLen by have := HAM.out; unfold maxLen; omega)
      have hL2 := Lib.hid (show (M.length + AA.M.length) * 64 ≤ 140737488355328 by have := HAM.out; omega)
      clear I6 BB6 HC1 HG1 N7
      go_upto_region 18 with (at_builtin; refine wpList_append_OwnS _ rfl _ _ 35 rfl 43 i1 _ 8 64 Tryz.underlying35 hi1 hy0 hy1 hy2 rfl h08.out (.slice AM9 M.length cM9) M.length (rcells M) rfl I7.out.om (.slice A13 AA.M.length c13) AA.M.length (rcells AA.M) rfl M7.out.src (rcells_one _) hL1.out hL2.out ?_; intro v8 w8 o8 k8 n8; have I8 : Hid (FldI w c first AA.A (i + 1) A.l A.m y7 g gi go v8 (M ++ AA.M) w8) := Lib.hid (I7.out.app k8 o8 n8); have BB8 : Hid (Blk w8 gb 45 #[.int .i64 o.k, .int .i64 o.b, .int .i64 o.x.a, .int .i64 o.x.s, .int .i64 o.x.t, .int .i64 o.x.n, .int .i64 o.x.d, .int .i64 o.x.k, .int .i64 o.x.x, .bool o.an]) := Lib.hid (BB7.out.keep k8 (fun e => I7.out.om.ne_blk BB7.out (by decide) e)); clear o8 k8 n8)
      have b8 := BB8.out.cell
      have l8 := BB8.out.lt
      obtain ⟨MM, hMM⟩ : ∃ MM, M ++ AA.M = MM := ⟨_, rfl⟩
      rw [hMM] at DN1 DL2 DR2 I8
      clear I7 BB7 M7 hL1 hL2 h08 hi1 hy0 hy1 hy2 HAM hMM
      obtain ⟨bP, hbP⟩ : ∃ bP, decide (o.k = 1 ∧ AA.e = 0) = bP := ⟨_, rfl⟩
      have HBP := Lib.hid hbP
      have KK1 : Hid ((o.k == 1) = true ∧ o.k = 1 ∨ (o.k == 1) = false ∧ o.k ≠ 1) := Lib.hid (by by_cases h : o.k = 1; exact .inl ⟨by simpa using h, h⟩; exact .inr ⟨by simpa using h, h⟩)
      have EE0 : Hid ((AA.e == 0) = true ∧ AA.e = 0 ∨ (AA.e == 0) = false ∧ AA.e ≠ 0) := Lib.hid (by by_cases h : AA.e = 0; exact .inl ⟨by simpa using h, h⟩; exact .inr ⟨by simpa using h, h⟩)
      clear hbP
      go_cut [106] (fun u wx => u = .bool bP ∧ wx = w8)
      case first =>
        -- [d
        rcases KK1.out with ⟨k1, k1'⟩ | ⟨k1, k1'⟩
        · rcases EE0.out with ⟨e0, e0'⟩ | ⟨e0, e0'⟩
          · have hb : bP = true := HBP.out.symm.trans (decide_eq_true ⟨k1', e0'⟩)
            subst hb
            clear k1' e0'
            go_wp2_with fail
            go_meet
            exact ⟨rfl, rfl⟩
          · have hb : bP = false := HBP.out.symm.trans (decide_eq_false (fun h => e0' h.2))
            subst hb
            clear k1' e0'
            go_wp2_with fail
            go_meet
            exact ⟨rfl, rfl⟩
        · have hb : bP = false := HBP.out.symm.trans (decide_eq_false (fun h => k1' h.1))
          subst hb
          clear k1'
          go_wp2_with fail
          go_meet
          exact ⟨rfl, rfl⟩
        -- d]
      case rest =>
      obtain ⟨rfl, rfl⟩ := hcut
      clear b8 l8
      go_upto_if 106 with fail
      go_cut [] (fun wx => FldI w c first AA.A (i + 1) AA.A.l AA.A.m y7 g gi go v8 MM wx ∧ Blk wx gb 45 #[.int .i64 o.k, .int .i64 o.b, .int .i64 o.x.a, .int .i64 o.x.s, .int .i64 o.x.t, .int .i64 o.x.n, .int .i64 o.x.d, .int .i64 o.x.k, .int .i64 o.x.x, .bool o.an])
      case first =>
        -- [e
        cases bP with
        | false =>
          have hs := DS.out (of_decide_eq_false HBP.out)
          have I8b : Hid (FldI w c first AA.A (i + 1) AA.A.l AA.A.m y7 g gi go v8 MM wc) := Lib.hid (by rw [hs.1, hs.2]; exact I8.out)
          clear hs
          go_wp2_with fail
          go_meet
          exact ⟨I8b.out, BB8.out⟩
        | true =>
          have hp := of_decide_eq_true HBP.out
          have ht := Lib.hid (DT.out hp.1 hp.2)
          obtain ⟨v1', v2', L', B', h1, h2, h3, h4, h5⟩ := I8.out.r
          have H1 := Lib.hid h1
          have H4 := Lib.hid h4
          have H5 := Lib.hid h5
          obtain ⟨p8, hp8, hr8⟩ := I8.out.o.r
          have hlen : A.l.length + A.m.length ≤ 1000 := Nat.le_of_lt_succ (by have := HAL.out; omega)
          have HP := rput_any gi v1' v2' L' B' A.l A.m o.x o.an wc.drew (h1.q.fresh (Keep.refl _ wc).drew) HSL.out.1 HSL.out.2 h2 h3 (by rw [h2.length_eq]; omega) (by rw [h3.length_eq]; omega) ht.out.2.2
          unfold Ev.msg at HP
          have HP := Lib.hid HP
          have cg := h1.blk.cell
          have lg := h1.blk.lt
          have b8 := BB8.out.cell
          have l8 := BB8.out.lt
          unfold rlarr at cg
          clear hp h1 h2 h3 h4 h5 hp8 hr8 hlen p8
          go_wp2_with fail
          have ID := Lib.hid (I8.out.fresh (Keep.refl _ wc).drew)
          have HD1 := Lib.hid (H1.out.fresh (Keep.refl _ wc).drew)
          have BD := Lib.hid BB8.out.drew
          clear H1
          go_still_tail 6, (by kernel_rfl)
          change wpList _ _ _ _ _ wc.drew
          go_wp2_with (go_at_call 22; (with_reducible refine HP.out.mono ?_); rintro e w10 ⟨rfl, v1'', v2'', L'', B'', q10, pl10, pm10, t10⟩; have Q10 := Lib.hid q10; have PL10 := Lib.hid pl10; have PM10 := Lib.hid pm10; have T10 := Lib.hid t10; clear q10 pl10 pm10 t10)
          go_meet
          exact ⟨ID.out.put HD1.out H4.out H5.out Q10.out (by rw [ht.out.1]; exact PL10.out) (by rw [ht.out.2.1]; exact PM10.out) T10.out, BD.out.keep T10.out.keep (fun hf => HD1.out.not_blk BD.out (by decide) (by decide) (by decide) (.inr hf))⟩
        -- e]
      case rest =>
      obtain ⟨hi9, hb9⟩ := hcut
      have I9 := Lib.hid hi9
      have BB9 := Lib.hid hb9
      have b9 := BB9.out.cell
      have l9 := BB9.out.lt
      clear hi9 hb9 KK1 HBP DT DS HAL HSL
      obtain ⟨bF, hbF⟩ : ∃ bF, decide ((o.k < 0 ∨ 3 < o.k) ∧ AA.e = 0) = bF := ⟨_, rfl⟩
      have HBF := Lib.hid hbF
      have KK2 : Hid (decide (o.k < 0) = true ∧ o.k < 0 ∨ decide (o.k < 0) = false ∧ decide (3 < o.k) = true ∧ 3 < o.k ∨ decide (o.k < 0) = false ∧ decide (3 < o.k) = false ∧ ¬ (o.k < 0 ∨ 3 < o.k)) := Lib.hid (by
        by_cases h : o.k < 0
        · exact .inl ⟨decide_eq_true h, h⟩
        · by_cases h2 : 3 < o.k
          · exact .inr (.inl ⟨decide_eq_false h, decide_eq_true h2, h2⟩)
          · exact .inr (.inr ⟨decide_eq_false h, decide_eq_false h2, by omega⟩))
      clear hbF
      go_upto_region 20 with fail
      go_cut [125] (fun u wx => u = .bool bF ∧ Fresh wc wx)
      case first =>
        -- [f
        rcases KK2.out with ⟨k1, k1'⟩ | ⟨k1, k2, k2'⟩ | ⟨k1, k2, k2'⟩
        · rcases EE0.out with ⟨e0, e0'⟩ | ⟨e0, e0'⟩
          · have hb : bF = true := HBF.out.symm.trans (decide_eq_true ⟨.inl k1', e0'⟩)
            subst hb
            clear k1' e0'
            go_wp2_with fail
            go_meet
            exact ⟨rfl, Keep.refl _ _⟩
          · have hb : bF = false := HBF.out.symm.trans (decide_eq_false (fun h => e0' h.2))
            subst hb
            clear k1' e0'
            go_wp2_with fail
            go_meet
            exact ⟨rfl, Keep.refl _ _⟩
        · rcases EE0.out with ⟨e0, e0'⟩ | ⟨e0, e0'⟩
          · have hb : bF = true := HBF.out.symm.trans (decide_eq_true ⟨.inr k2', e0'⟩)
            subst hb
            clear k2' e0'
            go_wp2_with fail
            go_meet
            exact ⟨rfl, Keep.refl _ _⟩
          · have hb : bF = false := HBF.out.symm.trans (decide_eq_false (fun h => e0' h.2))
            subst hb
            clear k2' e0'
            go_wp2_with fail
            go_meet
            exact ⟨rfl, Keep.refl _ _⟩
        · have hb : bF = false := HBF.out.symm.trans (decide_eq_false (fun h => k2' h.1))
          subst hb
          clear k2'
          go_wp2_with fail
          go_meet
          exact ⟨rfl, Keep.refl _ _⟩
        -- f]
      case rest =>
      obtain ⟨rfl, hf10⟩ := hcut
      have F10 := Lib.hid hf10
      clear b9 l9 hf10
      go_upto_if 125 with fail
      go_cut [10] (fun u wx => u = .int .i64 AA.A.freed ∧ Fresh wc wx)
      case first =>
        -- [g
        cases bF with
        | false =>
          have hf : AA.A.freed = A.freed := by
            have h := DF.out
            rw [if_neg (of_decide_eq_false HBF.out)] at h
            exact h
          have HFF := Lib.hid hf
          clear hf
          go_wp2_with fail
          go_meet
          exact ⟨by rw [HFF.out], Keep.refl _ _⟩
        | true =>
          have hf : AA.A.freed = max A.freed o.b := by
            have h := DF.out
            rw [if_pos (of_decide_eq_true HBF.out)] at h
            exact h
          have HFF := Lib.hid hf
          have BC := Lib.hid (F10.out.blk_ BB9.out)
          have b9 := BC.out.cell
          have l9 := BC.out.lt
          clear hf
          go_wp2_with fail
          go_meet
          exact ⟨by rw [HFF.out], Keep.refl _ _⟩
        -- g]
      case rest =>
      obtain ⟨rfl, hf11⟩ := hcut
      obtain ⟨w9, rfl⟩ : ∃ w9, w9 = wc := ⟨_, rfl⟩
      have I11 := Lib.hid (I9.out.fresh (F10.out.step hf11 (fun _ _ h => h)))
      clear hf11 F10 HBF DF KK2 EE0 I9 BB9 BB8 I8
      obtain ⟨⟨v1', v2', L', B', hr1, hr2, hr3, hr4, hr5⟩, ⟨p11, hp11, hq11⟩⟩ : (∃ v1 v2 L B, RLp w9 c first g gi go v1 v2 L B (-1) 0 0 ∧ L.Perm AA.A.l ∧ B.Perm AA.A.m ∧ (∀ k, rlfoot g gi v1 v2 k → w.heap.size ≤ k ∧ ¬ lfoot y7 k) ∧ ¬ foot gi v1 v2 g) ∧ ∃ p, SLP w9 c y7 p ∧ RefP c first p AA.A (i + 1) := ⟨I11.out.r, I11.out.o.r⟩
      have HIV := Lib.hid hq11.inv
      have HLW := Lib.hid hq11.laws
      have HOF := Lib.hid hq11.okf
      have HQA : Hid (AA.A.q.length ≤ 5000 ∧ AA.A.l.length ≤ 82) := Lib.hid (by have h1 := hq11.ql; have h2 := hq11.al; have h3 := HN62.out; omega)
      have HFO : Hid (∀ W, Fresh w9 W → Calls Tryz.prog 23 #[.pointer (some ⟨g, 0, none⟩), .int .i64 AA.A.now] W (FoldP c first AA.A.l AA.A.now W)) := Lib.hid fun W f => rfold_any c first g gi go v1' v2' L' B' AA.A.l (-1) 0 0 AA.A.now W (hr1.fresh f) hr2 hq11.inv.sl (by have := HQA.out; omega) hq11.inv.ev hq11.good.cid hq11.good.md hq11.okf hq11.inv.lo
      obtain ⟨⟨a9, ⟨s0, s1, s2, s3⟩, S⟩, hFS⟩ : ∃ t, AA.A.fold (cfg c first) = t := ⟨_, rfl⟩
      have HFS := Lib.hid hFS
      have hFS2 : foldT (cfg c first).R AA.A.l AA.A.now (-1) first = (a9, ⟨s0, s1, s2, s3⟩, S) := hFS
      have HSL : Hid (S.length ≤ 1000) := Lib.hid (by
        have h1 := fold_len hq11.laws hq11.inv.sl hq11.inv.ev AA.A.now (-1) first hq11.okf
        rw [hFS2] at h1
        have h2 : above AA.A.l (-1) ≤ AA.A.l.length := List.countP_le_length
        have h3 := HQA.out
        simp only at h1
        omega)
      have HNO : Hid (∀ W, Fresh w9 W → Calls Tryz.prog 19 #[.pointer (some ⟨g1, 0, none⟩)] W fun e w' => e = .returned (.int .i64 AA.A.now) ∧ Fresh w9 w') := Lib.hid fun W f => ((I11.out.o.fresh f).now G7.out).mono fun e w' hh => ⟨hh.1, f.step hh.2 (fun _ _ h => h)⟩
      unfold FoldP at HFO
      rw [hFS2] at HFO
      unfold St.val at HFO
      simp only at HFO
      have KF : Hid (Fresh w9 w9) := Lib.hid (Keep.refl _ _)
      clear hr1 hr2 hr3 hr4 hr5 hp11 hq11 p11 hFS hFS2
      go_wp2_with (first
        | (go_at_call 19; (with_reducible refine (HNO.out _ KF.out).mono ?_); rintro e w10 ⟨rfl, f10⟩; have F10 : Hid (Fresh w9 w10) := Lib.hid f10; clear f10)
        | (go_at_call 23; (with_reducible refine (HFO.out _ F10.out).mono ?_); rintro e w11 ⟨vS, vl, lst, rfl, o11, o11b, h11, f11, n11, n11b⟩; have OS := Lib.hid o11; have F11 : Hid (Fresh w9 w11) := Lib.hid (F10.out.step f11 (fun _ _ h => h)); clear o11 o11b h11 f11 n11 n11b))
      obtain ⟨gS, hgS⟩ : ∃ gS, w11.heap.size = gS := ⟨_, rfl⟩
      obtain ⟨w12, hw12⟩ : ∃ w12, w11.alloc (.cells #[.int .i64 s0, .int .i64 s1, .int .i64 s2, .int .i64 s3] 23) = w12 := ⟨_, rfl⟩
      have BS12 : Hid (Blk w12 gS 23 #[.int .i64 s0, .int .i64 s1, .int .i64 s2, .int .i64 s3]) := Lib.hid (hw12 ▸ hgS ▸ Blk.new w11 _ _)
      have F12 : Hid (Fresh w9 w12) := Lib.hid (hw12 ▸ F11.out.alloc _)
      have OS12 : Hid (OwnS w12 41 7 vS S.length (cells S)) := Lib.hid (hw12 ▸ OS.out.alloc _)
      rw [hw12, hgS]
      obtain ⟨AS, cS, rfl, _, _⟩ := OS12.out.shape
      have SP0 : Hid (SpI w12 AA.A.freed S 0 (.slice none 0 0) (.slice none 0 0) w12) := Lib.hid ⟨Keep.refl _ _, OwnS.nil _ _ _, OwnS.nil _ _ _, by simp [Value.ownBlock], by simp [Value.ownBlock], by simp [Value.ownBlock]⟩
      clear hw12 hgS OS F11 HFO HNO KF F10
      go_loopg [19, 20, 21] S.length (fun gk u19 u20 u21 wr => ∃ k : Nat, k ≤ S.length ∧ gk = S.length - k ∧ u21 = .int .i64 k ∧ SpI w12 AA.A.freed S k u19 u20 wr)
      case atStart => exact ⟨0, by omega, rfl, rfl, SP0.out⟩
      case round =>
      clear SP0
      obtain ⟨k, hk, rfl, rfl, hs⟩ := hrel
      have HS := Lib.hid hs
      obtain ⟨A19, c19, rfl, _, _⟩ := hs.oa.shape
      obtain ⟨A20, c20, rfl, _, _⟩ := hs.ob.shape
      clear hs
      by_cases hkl : k < S.length
      · -- [h
        obtain ⟨z, hz⟩ : ∃ z, S[k]? = some z := ⟨_, List.getElem?_eq_getElem hkl⟩
        have HZ := Lib.hid hz
        obtain ⟨A', c', hv, hAt⟩ := (OS12.out.fresh HS.out.fw).evs
        injection hv with hv1 _ hv2
        subst hv1 hv2
        obtain ⟨bb, ofz, hA, ltb, hO⟩ := hAt k z hz
        subst hA
        have x0 := hO 0 _ rfl
        have x1 := hO 1 _ rfl
        have x2 := hO 2 _ rfl
        have x3 := hO 3 _ rfl
        have x4 := hO 4 _ rfl
        have x5 := hO 5 _ rfl
        have x6 := hO 6 _ rfl
        rw [Nat.add_zero] at x0
        have tk : decide ((k : Int) < (S.length : Int)) = true := decide_eq_true (by omega)
        have tk' : decide (k < S.length) = true := decide_eq_true hkl
        have qk : (k : Int) < (S.length : Int) := by omega
        clear hAt hO hz ltb
        by_cases ht : AA.A.freed ≤ z.t
        · have tt : decide (AA.A.freed ≤ z.t) = true := decide_eq_true ht
          have HTT := Lib.hid ht
          have HOA := Lib.hid (HS.out.oa.alloc (.cells #[.int .i64 z.a, .int .i64 z.s, .int .i64 z.t, .int .i64 z.n, .int .i64 z.d, .int .i64 z.k, .int .i64 z.x] 41))
          have HC : Hid (Src (wr.alloc (.cells #[.int .i64 z.a, .int .i64 z.s, .int .i64 z.t, .int .i64 z.n, .int .i64 z.d, .int .i64 z.k, .int .i64 z.x] 41)) 7 (.slice (some ⟨wr.heap.size, 0, none⟩) 1 1) 1 (cells [z])) := Lib.hid (Src.one_new wr 41 7 #[.int .i64 z.a, .int .i64 z.s, .int .i64 z.t, .int .i64 z.n, .int .i64 z.d, .int .i64 z.k, .int .i64 z.x] rfl)
          have FA : Hid (Fresh wr (wr.alloc (.cells #[.int .i64 z.a, .int .i64 z.s, .int .i64 z.t, .int .i64 z.n, .int .i64 z.d, .int .i64 z.k, .int .i64 z.x] 41))) := Lib.hid ((Keep.refl _ _).alloc _)
          have HLL : Hid ((lat AA.A.freed (S.take k)).length ≤ k) := Lib.hid (Nat.le_trans (List.length_filter_le _ _) (by rw [List.length_take]; omega))
          obtain ⟨LA, hLA⟩ : ∃ LA, lat AA.A.freed (S.take k) = LA := ⟨_, rfl⟩
          have HLE := Lib.hid hLA
          rw [hLA] at HOA HLL ⊢
          have hL1 := Lib.hid (show LA.length + 1 ≤ maxLen from one_le_maxLen (by have := HLL.out; have := HSL.out; omega))
          have hL2 := Lib.hid (show (LA.length + 1) * 56 ≤ 140737488355328 by have := HLL.out; have := HSL.out; omega)
          obtain ⟨i0, hi9, hz0, hz1, hz2⟩ := info_parts info_ev
          have h07 : Hid (0 < 7) := Lib.hid (by omega)
          clear ht hLA
          go_wp2_with (at_builtin; refine wpList_append_OwnS _ rfl _ _ 24 rfl 41 i0 _ 7 56 Tryz.underlying24 hi9 hz0 hz1 hz2 rfl h07.out (.slice A19 LA.length c19) LA.length (cells LA) rfl HOA.out (.slice (some ⟨wr.heap.size, 0, none⟩) 1 1) 1 (cells [z]) rfl HC.out (cells_one _) hL1.out hL2.out ?_; intro v13 w13 o13 k13 n13; have O13 := Lib.hid o13; have K13 := Lib.hid k13; have N13 := Lib.hid n13; clear o13 k13 n13)
          go_roundg (S.length - (k + 1))
          case measure => omega
          case rel =>
            have o := O13.out
            have e := HLE.out
            have kk := K13.out
            have nn := N13.out
            rw [← e] at o kk nn
            refine ⟨k + 1, by omega, rfl, congrArg (Value.int .i64) ((IntWalk.wrap64_in _ (by have := HSL.out; omega)).trans (by omega)), HS.out.late HZ.out HTT.out FA.out kk o nn⟩
        · have tt : decide (AA.A.freed ≤ z.t) = false := decide_eq_false ht
          have HTT := Lib.hid ht
          have HOB := Lib.hid (HS.out.ob.alloc (.cells #[.int .i64 z.a, .int .i64 z.s, .int .i64 z.t, .int .i64 z.n, .int .i64 z.d, .int .i64 z.k, .int .i64 z.x] 41))
          have HC : Hid (Src (wr.alloc (.cells #[.int .i64 z.a, .int .i64 z.s, .int .i64 z.t, .int .i64 z.n, .int .i64 z.d, .int .i64 z.k, .int .i64 z.x] 41)) 7 (.slice (some ⟨wr.heap.size, 0, none⟩) 1 1) 1 (cells [z])) := Lib.hid (Src.one_new wr 41 7 #[.int .i64 z.a, .int .i64 z.s, .int .i64 z.t, .int .i64 z.n, .int .i64 z.d, .int .i64 z.k, .int .i64 z.x] rfl)
          have FA : Hid (Fresh wr (wr.alloc (.cells #[.int .i64 z.a, .int .i64 z.s, .int .i64 z.t, .int .i64 z.n, .int .i64 z.d, .int .i64 z.k, .int .i64 z.x] 41))) := Lib.hid ((Keep.refl _ _).alloc _)
          have HLL : Hid ((ear AA.A.freed (S.take k)).length ≤ k) := Lib.hid (Nat.le_trans (List.length_filter_le _ _) (by rw [List.length_take]; omega))
          obtain ⟨LE, hLE⟩ : ∃ LE, ear AA.A.freed (S.take k) = LE := ⟨_, rfl⟩
          have HLE := Lib.hid hLE
          rw [hLE] at HOB HLL ⊢
          have hL1 := Lib.hid (show LE.length + 1 ≤ maxLen from one_le_maxLen (by have := HLL.out; have := HSL.out; omega))
          have hL2 := Lib.hid (show (LE.length + 1) * 56 ≤ 140737488355328 by have := HLL.out; have := HSL.out; omega)
          obtain ⟨i0, hi9, hz0, hz1, hz2⟩ := info_parts info_ev
          have h07 : Hid (0 < 7) := Lib.hid (by omega)
          clear ht hLE
          go_wp2_with (at_builtin; refine wpList_append_OwnS _ rfl _ _ 24 rfl 41 i0 _ 7 56 Tryz.underlying24 hi9 hz0 hz1 hz2 rfl h07.out (.slice A20 LE.length c20) LE.length (cells LE) rfl HOB.out (.slice (some ⟨wr.heap.size, 0, none⟩) 1 1) 1 (cells [z]) rfl HC.out (cells_one _) hL1.out hL2.out ?_; intro v13 w13 o13 k13 n13; have O13 := Lib.hid o13; have K13 := Lib.hid k13; have N13 := Lib.hid n13; clear o13 k13 n13)
          go_roundg (S.length - (k + 1))
          case measure => omega
          case rel =>
            have o := O13.out
            have e := HLE.out
            have kk := K13.out
            have nn := N13.out
            rw [← e] at o kk nn
            refine ⟨k + 1, by omega, rfl, congrArg (Value.int .i64) ((IntWalk.wrap64_in _ (by have := HSL.out; omega)).trans (by omega)), HS.out.early HZ.out (by have := HTT.out; omega) FA.out kk o nn⟩
        -- h]
      · obtain rfl : k = S.length := by omega
        have tk : decide ((S.length : Int) < (S.length : Int)) = false := decide_eq_false (by omega)
        have hta : S.take S.length = S := List.take_length
        have hoa := HS.out.oa
        have hob := HS.out.ob
        rw [hta] at hoa hob ⊢
        have OL := Lib.hid hoa
        have OE := Lib.hid hob
        have hnb := HS.out.nb
        rw [hta] at hnb
        have NB := Lib.hid hnb
        have FR : Hid (Fresh w9 wr) := Lib.hid (F12.out.step HS.out.fw (fun _ _ h => h))
        have BSR := Lib.hid (HS.out.fw.blk_ BS12.out)
        have HLT : Hid (lat AA.A.freed S = lates (cfg c first) AA.A) := Lib.hid (by show lat AA.A.freed S = lat AA.A.freed (AA.A.fold (cfg c first)).2.2; rw [HFS.out])
        have HER : Hid (ear AA.A.freed S = earls (cfg c first) AA.A) := Lib.hid (by show ear AA.A.freed S = ear AA.A.freed (AA.A.fold (cfg c first)).2.2; rw [HFS.out])
        have HLL : Hid ((lat AA.A.freed S).length ≤ 1000 ∧ (ear AA.A.freed S).length ≤ 1000) := Lib.hid ⟨Nat.le_trans (List.length_filter_le _ _) HSL.out, Nat.le_trans (List.length_filter_le _ _) HSL.out⟩
        have HRC : Hid (∀ W', Fresh w9 W' → Calls Tryz.prog 24 #[.pointer (some ⟨g1, 0, none⟩)] W' (RecQ AA.A.q W')) := Lib.hid fun W' f => (I11.out.o.fresh f).recs G7.out HQA.out.1
        unfold RecQ at HRC
        clear hta hoa hob hnb
        go_upto_region 32 with (go_at_call 24; (with_reducible refine (HRC.out _ FR.out).mono ?_); rintro e w14 ⟨vr1, vr2, rfl, o14, o14b, f14, n14, n14b, d14⟩; have V1 := Lib.hid o14; have V2 := Lib.hid o14b; have F14 : Hid (Fresh wr w14) := Lib.hid f14; have N2 := Lib.hid n14b; clear o14 o14b f14 n14 n14b d14)
        obtain ⟨A22, c22, rfl, _, _⟩ := V1.out.shape
        obtain ⟨A23, c23, rfl, _, _⟩ := V2.out.shape
        have F914 : Hid (Fresh w9 w14) := Lib.hid (FR.out.step F14.out (fun _ _ h => h))
        have OL14 := Lib.hid (OL.out.fresh F14.out)
        have OE14 := Lib.hid (OE.out.fresh F14.out)
        have BS14 := Lib.hid (F14.out.blk_ BSR.out)
        have HQL : Hid ((sureL AA.A.q).length ≤ 5000 ∧ (unsL AA.A.q).length ≤ 5000) := Lib.hid (by have h1 := sure_uns AA.A.q; have h2 := HQA.out; omega)
        have HT1 : Hid (∀ W, Fresh w14 W → Calls Tryz.prog 18 #[.pointer (some ⟨g1, 0, none⟩)] W fun e w' => e = .returned (.agg #[.int .i64 s0, .int .i64 s1, .int .i64 s2, .int .i64 s3]) ∧ Fresh w14 w') := Lib.hid fun W f => by
          have h := (I11.out.o.fresh (F914.out.step f (fun _ _ h => h))).state G7.out
          rw [HFS.out] at h
          exact h.mono fun e w' hh => ⟨hh.1, f.step hh.2 (fun _ _ h => h)⟩
        have HSO : Hid (∀ W, Fresh w14 W → Calls Tryz.prog 25 #[.slice A19 (lat AA.A.freed S).length c19] W fun e w' => ∃ vs, e = .returned vs ∧ (∀ W2, Fresh w' W2 → EvAt W2 vs (sureL AA.A.q)) ∧ Fresh w14 w') := Lib.hid fun W f => by
          refine (sLtsort_any _ (lat AA.A.freed S) W (OL14.out.fresh f).evs (by have := HLL.out; omega)).mono ?_
          rintro e w' ⟨vs, s', rfl, q1, q2, q3, q4, _⟩
          have he : s' = sureL AA.A.q := sure_sort HLW.out HOF.out HIV.out q1 (by rw [← HLT.out]; exact q2)
          subst he
          exact ⟨vs, rfl, fun W2 f2 => (q3.fresh f2).evs, f.step q4 (fun _ _ h => h)⟩
        have HEV : Hid (∀ (vs : Value) W, EvAt W vs (sureL AA.A.q) → Fresh w14 W → Calls Tryz.prog 17 #[.slice A22 (sureL AA.A.q).length c22, vs] W fun e w' => e = .returned (.bool true) ∧ Fresh w14 w') := Lib.hid fun vs W hvs f => by
          refine (events_any _ vs _ _ W (V1.out.fresh f).evs hvs (by have := HQL.out; omega) (by have := HQL.out; omega)).mono fun e w' hh => ⟨?_, f.step hh.2 (fun _ _ h => h)⟩
          rw [hh.1, decide_eq_true rfl]
        have yc := fun (W : World) (f : Fresh w14 W) (i : Nat) => (f.blk_ BS14.out).cell i
        clear HRC OL OE BSR
        go_region_held3 (fun W' => Fresh w14 W') (exact (fun (f : Fresh w14 _) => f) (by (repeat (first | (with_reducible exact Keep.refl _ _) | (with_reducible assumption) | (with_reducible refine Keep.drew ?_) | (with_reducible refine Keep.drewN ?_ _) | (with_reducible refine Keep.alloc ?_ _) | (with_reducible refine Keep.setCell ?_ ?_ _) | (with_reducible refine fun _ => rfl))))) ((first
          | (go_at_call 18; (with_reducible refine (HT1.out _ ?_).mono ?_); assumption; rintro e z ⟨rfl, gz⟩)
          | (go_at_call 25; (with_reducible refine (HSO.out _ ?_).mono ?_); assumption; rintro e z ⟨vs, rfl, qs, gz⟩; have QS := Lib.hid qs; clear qs)
          | (go_at_call 17; (with_reducible refine (HEV.out _ _ ?_ ?_).mono ?_); exact QS.out _ (Keep.refl _ _); assumption; rintro e z ⟨rfl, gz⟩)))
        have FZ : Hid (Fresh w14 z) := Lib.hid gz
        have E15 := Lib.hid (OE14.out.fresh gz)
        have W1 := Lib.hid (V1.out.fresh gz)
        have W2 := Lib.hid (V2.out.fresh gz)
        have F915 : Hid (Fresh w9 z) := Lib.hid (F914.out.step gz (fun _ _ h => h))
        have NE : Hid (∀ k, (Value.slice A20 (ear AA.A.freed S).length c20).ownBlock = some k → w9.heap.size ≤ k) := Lib.hid (fun k hk => Nat.le_trans F12.out.size (NB.out k hk))
        have DE : Hid (∀ k, (Value.slice A23 (unsL AA.A.q).length c23).ownBlock = some k → ¬ (Value.slice A20 (ear AA.A.freed S).length c20).ownBlock = some k) := Lib.hid (fun k h1 h2 => by have h3 := N2.out k h1; have h4 := HS.out.ob; rw [List.take_length] at h4; have h5 := h4.lt h2; omega)
        obtain ⟨i0, hi9, hz0, hz1, hz2⟩ := info_parts info_ev
        have h07 : Hid (0 < 7) := Lib.hid (by omega)
        obtain ⟨LE, hLE⟩ : ∃ LE, ear AA.A.freed S = LE := ⟨_, rfl⟩
        obtain ⟨LS, hLS⟩ : ∃ LS, sureL AA.A.q = LS := ⟨_, rfl⟩
        obtain ⟨LU, hLU⟩ : ∃ LU, unsL AA.A.q = LU := ⟨_, rfl⟩
        have HEE := Lib.hid hLE
        have HSS := Lib.hid hLS
        have HUU := Lib.hid hLU
        rw [hLE] at E15 NE DE HLL ⊢
        rw [hLS] at W1 HQL ⊢
        rw [hLU] at W2 DE HQL ⊢
        have hL1 := Lib.hid (show LE.length + LS.length ≤ maxLen by have := HLL.out; have := HQL.out; unfold maxLen; omega)
        have hL2 := Lib.hid (show (LE.length + LS.length) * 56 ≤ 140737488355328 by have := HLL.out; have := HQL.out; omega)
        have hL3 := Lib.hid (show LE.length + LS.length + LU.length ≤ maxLen by have := HLL.out; have := HQL.out; unfold maxLen; omega)
        have hL4 := Lib.hid (show (LE.length + LS.length + LU.length) * 56 ≤ 140737488355328 by have := HLL.out; have := HQL.out; omega)
        clear yc HT1 HSO HEV hLE hLS hLU gz FZ OE14 OL14 V1 V2 BS14 F14 F914 HS NB
        go_upto_region 35 with (at_builtin; refine wpList_append_OwnS _ rfl _ _ 24 rfl 41 i0 _ 7 56 Tryz.underlying24 hi9 hz0 hz1 hz2 rfl h07.out (.slice A20 LE.length c20) LE.length (cells LE) rfl E15.out (.slice A22 LS.length c22) LS.length (cells LS) rfl W1.out.src (cells_one _) hL1.out hL2.out ?_; intro v16 w16 o16 k16 n16; have E16 := Lib.hid o16; have K16 := Lib.hid k16; have N16 := Lib.hid n16; clear o16 k16 n16)
        have F16 : Hid (Fresh w9 w16) := Lib.hid (F915.out.step K16.out (fun k h e => by have := NE.out k e; omega))
        have U16 := Lib.hid (W2.out.kept K16.out DE.out)
        have NE16 : Hid (∀ k, v16.ownBlock = some k → w9.heap.size ≤ k) := Lib.hid (fun k hk => (N16.out k hk).elim (fun h => NE.out k h) (fun h => by have := F915.out.size; omega))
        obtain ⟨A16, c16, rfl, _, _⟩ := E16.out.shape
        clear E15 W1 W2 K16 N16 F915 NE DE
        go_upto_region 36 with (at_builtin; refine wpList_append_OwnS _ rfl _ _ 24 rfl 41 i0 _ 7 56 Tryz.underlying24 hi9 hz0 hz1 hz2 rfl h07.out (.slice A16 (LE.length + LS.length) c16) (LE.length + LS.length) (cells LE ++ cells LS) rfl E16.out (.slice A23 LU.length c23) LU.length (cells LU) rfl U16.out.src (cells_one _) hL3.out hL4.out ?_; intro v17 w17 o17 k17 n17; have E17 := Lib.hid o17; have K17 := Lib.hid k17; clear o17 k17 n17)
        have F17 : Hid (Fresh w9 w17) := Lib.hid (F16.out.step K17.out (fun k h e => by have := NE16.out k e; omega))
        have VE17 : Hid (EvAt w17 v17 (LE ++ LS ++ LU)) := Lib.hid (by
          have h := E17.out
          rw [← cells_append, ← cells_append, show LE.length + LS.length + LU.length = (LE ++ LS ++ LU).length by (simp only [List.length_append])] at h
          exact h.evs)
        have MV17 : Hid (MsgAt w17 v8 MM) := Lib.hid (I11.out.om.fresh F17.out).msgs
        have HLS := Lib.hid (less_any v8 MM out2 w17 MV17.out (by have := DL2.out; omega) DN1.out DR2.out)
        have HPE : Hid (out2.Perm (LE ++ LS ++ LU)) := Lib.hid (by
          have h1 := DN2.out
          unfold NetA at h1
          refine h1.trans ?_
          rw [← HEE.out, ← HSS.out, ← HUU.out, HER.out, List.append_assoc]
          exact (List.Perm.append_right _ (sure_uns_perm AA.A.q).symm).trans List.perm_append_comm)
        clear E16 U16 E17 K17 NE16 F16 hL1 hL2 hL3 hL4 h07 hi9 hz0 hz1 hz2
        go_upto_region 37 with (go_at_call 26; (with_reducible refine HLS.out.mono ?_); rintro e w18 ⟨vn, sn, rfl, q1, q2, q3, q4, q5⟩; have SN := Lib.hid q1; have PN := Lib.hid q2; have VN := Lib.hid q3.evs; have F18 : Hid (Fresh w17 w18) := Lib.hid q4; clear q1 q2 q3 q4 q5)
        have VE18 := Lib.hid (VE17.out.fresh F18.out)
        have HLL2 : Hid ((LE ++ LS ++ LU).length ≤ 20000) := Lib.hid (by have := HLL.out; have := HQL.out; simp only [List.length_append]; omega)
        have HSN : Hid (sn.length ≤ 20000) := Lib.hid (by rw [(PN.out.trans HPE.out).length_eq]; exact HLL2.out)
        have HSO : Hid (Calls Tryz.prog 27 #[v17] w18 fun e w' => ∃ vs, e = .returned vs ∧ (∀ W2, Fresh w' W2 → EvAt W2 vs sn) ∧ Fresh w18 w') := Lib.hid (by
          refine (sort_any _ (LE ++ LS ++ LU) w18 VE18.out (by have := HLL2.out; omega)).mono ?_
          rintro e w' ⟨vs, s', rfl, q1, q2, q3, q4, _⟩
          have he : s' = sn := srt_ext q1 SN.out (fun z => by rw [cnt_count, cnt_count]; exact (q2.trans (PN.out.trans HPE.out).symm).count_eq z)
          subst he
          exact ⟨vs, rfl, fun W2 f2 => (q3.fresh f2).evs, q4⟩)
        have HEV2 : Hid (∀ (vs : Value) W, EvAt W vs sn → Fresh w18 W → Calls Tryz.prog 17 #[vn, vs] W fun e w' => e = .returned (.bool true) ∧ Fresh w18 w') := Lib.hid fun vs W hvs f => by
          refine (events_any vn vs sn sn W (VN.out.fresh f) hvs (by have := HSN.out; omega) (by have := HSN.out; omega)).mono fun e w' hh => ⟨?_, f.step hh.2 (fun _ _ h => h)⟩
          rw [hh.1, decide_eq_true rfl]
        clear VE17 VE18 VN SN PN HPE HLS HLL2 HSN
        go_wp2_with (first
          | (go_at_call 27; (with_reducible refine HSO.out.mono ?_); rintro e w19 ⟨vs, rfl, qs, f19⟩; have QS := Lib.hid qs; have F19 : Hid (Fresh w18 w19) := Lib.hid f19; clear qs f19)
          | (go_at_call 17; (with_reducible refine (HEV2.out _ _ (QS.out _ (Keep.refl _ _)) F19.out).mono ?_); rintro e w20 ⟨rfl, f20⟩; have F20 : Hid (Fresh w18 w20) := Lib.hid f20; clear f20))
        go_roundg (os.length - (i + 1))
        case measure => omega
        case rel => exact ⟨i + 1, AA.A, y7, MM, out2, by omega, rfl, rfl, by go_num, I11.out.fresh (F17.out.step (F18.out.step F20.out (fun _ _ h => h)) (fun _ _ h => h)), G7.out, DN1.out, DN2.out, DL2.out, DR2.out⟩
    · obtain rfl : i = os.length := by omega
      have tq : decide ((os.length : Int) < (os.length : Int)) = false := decide_eq_false (by omega)
      go_wp2_with (go_at_call 13; (with_reducible refine (awake_any _).mono ?_); rintro e w9 ⟨rfl, f9⟩)
      go_ret
      exact ⟨rfl, Fresh.below_ (HI.out.o.f.step f9 (fun _ _ h => h)) (Nat.le_refl _)⟩
theorem lpfolds_any (c : LC) (first : St) (A B : Option Addr) (cA cB : Nat) (l : List Ev) (os : List LOp) (w : World) (h : EvAt w (.slice A l.length cA) l) (hl : l.length ≤ 9223372036854775807) (ho : LOps w B os) (hn : os.length ≤ 9223372036854775807) : Law Tryz.prog 4 #[.agg (jarr c first (.slice A l.length cA)), .slice B os.length cB] w := by
  by_cases hb : fewB c first l = false ∨ shortB os = false
  · exact lpfolds_no c first A B cA cB l os w h hl ho hn hb
  · refine lpfolds_ok c first A B cA cB l os w h hl ho hn ?_ ?_
    · cases hf : fewB c first l
      · exact absurd (.inl hf) hb
      · rfl
    · cases hf : shortB os
      · exact absurd (.inr hf) hb
      · rfl
open Go.ChangeShapes Go.WideShapes Go.ChangeAt
set_option maxRecDepth 100000 in
theorem lpFolds_lifted (os : Os) (started : os.Started) (H : Type) (enc : TypeId × Value → H) :
    ReturnsInHanded {} Tryz.checked os 4 .any (Rows.lpFoldsSpec.pre6 enc Tryz.prog Tryz.f4 Rows.lpFoldsRow.domain false) (Rows.lpFoldsSpec.post enc Tryz.prog Tryz.f4 false true false false) := by
  refine law_lifted (C := Tryz.checked) (tb := 4) (by kernel_rfl) (by kernel_rfl) started (by kernel_rfl) Tryz.func4 rfl ?_ rfl Tryz.underlying4 (by kernel_rfl)
    (ChangeSpec.witness6 (enc := enc) (C := Tryz.checked) false ⟨#[], #[.agg #[.int .i64 0, .int .i64 0, .int .i64 0, .int .i64 0, .int .i64 0, .int .i64 0, .int .i64 0, .bool false, .slice none 0 0], .slice none 0 0], []⟩ 12 (by kernel_rfl) (by kernel_rfl) (by kernel_rfl) (by kernel_rfl)) ?_
  · intro ds hds
    match ds, hds with
    | [e0, e1], _ => rfl
  · intro W base args ds p hval hA hreach
    rw [Tryz.params4] at hA hval hreach
    obtain ⟨v0, vs0, d0, ds0, p0, q0, hargs, rfl, rfl, h0, r0⟩ := trodAll_cons hA
    obtain ⟨v1, vs1, d1, ds1, p1, q1, rfl, rfl, rfl, h1, r1⟩ := trodAll_cons r0
    obtain ⟨rfl, rfl, rfl⟩ := trodAll_nil r1
    obtain rfl : args = #[v0, v1] := by cases args; simp_all
    obtain ⟨l0, rfl, hl0⟩ := arg_struct (n := 6) Tryz.underlying26 (by kernel_rfl) (hval 0 26 v0 rfl rfl) h0
    have hfl : flat Tryz.prog 6 26 = [3, 3, 3, 3, 3, 3, 3, 4, 24] := by kernel_rfl
    rw [hfl] at hl0; clear hfl
    obtain ⟨md, l1, e1, w_md, hl1⟩ := all2_int Tryz.underlying3 hl0
    obtain ⟨id, l2, e2, w_id, hl2⟩ := all2_int Tryz.underlying3 hl1
    obtain ⟨f0, l3, e3, w_f0, hl3⟩ := all2_int Tryz.underlying3 hl2
    obtain ⟨f1, l4, e4, w_f1, hl4⟩ := all2_int Tryz.underlying3 hl3
    obtain ⟨f2, l5, e5, w_f2, hl5⟩ := all2_int Tryz.underlying3 hl4
    obtain ⟨f3, l6, e6, w_f3, hl6⟩ := all2_int Tryz.underlying3 hl5
    obtain ⟨ev, l7, e7, w_ev, hl7⟩ := all2_int Tryz.underlying3 hl6
    obtain ⟨lz, l8, e8, hl8⟩ := all2_bool Tryz.underlying4 hl7
    obtain ⟨u_L, l9, e9, h_L, hl9⟩ := all2_cons hl8
    obtain rfl := all2_nil hl9
    subst e9 e8 e7 e6 e5 e4 e3 e2 e1
    clear hl9 hl8 hl7 hl6 hl5 hl4 hl3 hl2 hl1 hl0
    obtain ⟨A_o, n_o, c_o, rows_o, rfl, len_o, cap_o, max_o, leaf_o, at_o⟩ := arg_slice (n := 6) Tryz.underlying27 (by kernel_rfl) (by kernel_rfl) (by rw [show Tryz.prog.cellsOf 45 = 10 by kernel_rfl]; decide) (hval 1 27 v1 rfl rfl) h1
    rw [show flat Tryz.prog 6 45 = [3, 3, 3, 3, 3, 3, 3, 3, 3, 4] by kernel_rfl] at leaf_o
    rw [show Tryz.prog.cellsOf 45 = 10 by kernel_rfl] at at_o
    obtain ⟨A, n, cp, rows, rfl, hlen, hcap, hmax, hleaf, hat⟩ := leaf_slice (n := 6) Tryz.underlying24 (by kernel_rfl) (by kernel_rfl) (by rw [show Tryz.prog.cellsOf 41 = 7 by kernel_rfl]; decide) h_L
    rw [show flat Tryz.prog 6 41 = [3, 3, 3, 3, 3, 3, 3] by kernel_rfl] at hleaf
    rw [show Tryz.prog.cellsOf 41 = 7 by kernel_rfl] at hat
    obtain ⟨es, hes, hev⟩ := evs_arg hleaf hat
    have hn : es.length = n := hes.trans hlen
    subst hn
    obtain ⟨os, hos, ho⟩ := lops_arg leaf_o at_o
    have hm : os.length = n_o := hos.trans len_o
    subst hm
    exact lpfolds_any ⟨md, id, ev, lz⟩ ⟨f0, f1, f2, f3⟩ A A_o cp c_o es os W ⟨A, cp, rfl, hev⟩ (by unfold maxLen at hmax; omega) ho (by unfold maxLen at max_o; omega)

theorem lpFolds_holds : Rows.LpFoldsSaid :=
  OpenClaim.holds_of_wide 4 Tryz.f4 rfl rfl rfl rfl rfl rfl rfl ⟨rfl, rfl, rfl, rfl, rfl⟩ rfl rfl rfl rfl rfl (by kernel_rfl) Tryz.func4 (by kernel_rfl)
    (of_decide_eq_true (by kernel_rfl)) (by unfold Func.isWrapper; first | (rw [if_pos (by decide +kernel)]; kernel_rfl) | (rw [if_neg (by decide +kernel)]; exact ⟨rfl, rfl⟩))
    (fun os started H enc _ => lpFolds_lifted os started H enc)
end Go.Proofs.YthbcdkeammhakaaGreat
