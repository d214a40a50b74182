/- LpLazy returns true at every input: lazily or not, the state, the time and the sure records are the same, and lazily no more messages went out in the end. No conditions. -/
import Derived.Test.YthbcdkeammhakaaGreatM27
import Derived.Test.YthbcdkeammhakaaGreatM26
import Derived.Deep.DeepCutAuto
namespace Go.Proofs.YthbcdkeammhakaaGreat
open Go.RowKit
attribute [local go_sem] eq4w
attribute [local go_sem ↓] Go.wp_at_zero Go.wp_at_succ
theorem TwoP.mono {c1 c2 : LC} {first : St} {A B : AM} {n m n' m' : Nat} {w0 w : World} {y1 y2 : PV} (h : TwoP c1 c2 first A n B m w0 y1 y2 w) (h1 : n ≤ n') (h2 : m ≤ m') : TwoP c1 c2 first A n' B m' w0 y1 y2 w := ⟨h.p.mono h1, h.q.mono h2, h.d⟩
theorem OwnP.step_ {c : LC} {first : St} {A : AM} {n : Nat} {w0 w : World} {y : PV} {g : Nat} (h : OwnP c first A n w0 y w) (hg : y.g = g) (hn : n ≤ 62) : Calls Tryz.prog 28 #[.pointer (some ⟨g, 0, none⟩)] w (LpP c first y (stpA (cfg c first) A) n w) := by
  subst hg
  obtain ⟨p, h1, h2⟩ := h.r
  exact ref_step h1 h2 hn
theorem OwnP.settle_ {c : LC} {first : St} {A : AM} {n : Nat} {w0 w : World} {y : PV} {g : Nat} (h : OwnP c first A n w0 y w) (hg : y.g = g) (hn : n ≤ 62) : Calls Tryz.prog 29 #[.pointer (some ⟨g, 0, none⟩)] w (SettleP c first y (setA A) n w) := by
  subst hg
  obtain ⟨p, h1, h2⟩ := h.r
  exact ref_settle h1 h2 hn
theorem OwnP.calls_ {c : LC} {first : St} {A : AM} {n : Nat} {w0 w : World} {y : PV} {g : Nat} (h : OwnP c first A n w0 y w) (hg : y.g = g) (hn : n ≤ 62) (o : LOp) (hx : SmE o.x) : Calls Tryz.prog 15 #[.pointer (some ⟨g, 0, none⟩), .agg o.arr] w (CallsP c first y (doA (cfg c first) A o.k o.b o.x o.an) (n + 1) w) := by
  subst hg
  obtain ⟨p, h1, h2⟩ := h.r
  exact calls_any h1 h2 hn o hx
/-- a slice's blocks apart of a process's -/
def OffU (v : Value) (y : PV) : Prop := ∀ k, v.ownBlock = some k → ¬ lfoot y k
set_option maxRecDepth 100000 in
set_option maxHeartbeats 8000000 in
theorem lplazy_no (c : LC) (first : St) (A B : Option Addr) (cA cB : Nat) (l : List Ev) (os : List LOp) (w : World) (h : EvAt w (.slice A l.length cA) l) (hl : l.length ≤ 9223372036854775807) (ho : LOps w B os) (hn : os.length ≤ 9223372036854775807) (hb : fewB c first l = false ∨ shortB os = false) : Law Tryz.prog 5 #[.agg (jarr c first (.slice A l.length cA)), .slice B os.length cB] w := by
  unfold Law
  have F0 : Fresh w (w.alloc (.cells (jarr c first (.slice A l.length cA)) 26)) := (Keep.refl _ w).alloc _
  have HF := Lib.hid (few_any c first A cA l _ (h.fresh F0) hl)
  have HS := Lib.hid (fun W (f : Fresh w W) => short_any B cB os W (ho.fresh f) hn)
  have FF := Lib.hid F0
  obtain ⟨b1, hb1⟩ : ∃ b1, fewB c first l = b1 := ⟨_, rfl⟩
  obtain ⟨b2, hb2⟩ : ∃ b2, shortB os = b2 := ⟨_, rfl⟩
  have hbb : b1 = false ∨ b2 = false := by
    rcases hb with h | h
    · exact .inl (hb1.symm.trans h)
    · exact .inr (hb2.symm.trans h)
  rw [hb1] at HF
  rw [hb2] at HS
  unfold jarr at HF FF ⊢
  clear h ho hb F0 hb1 hb2
  cases b1 <;> cases b2 <;> first
    | (simp at hbb; done)
    | (clear hbb
       go_enter Tryz.func5, Tryz.ntmps5
       go_wp2_with (first
         | (go_at_call 11; (with_reducible refine HF.out.mono ?_); rintro e w1 ⟨rfl, f1⟩; have F1 : Hid (Fresh w w1) := Lib.hid (FF.out.step f1 (fun _ _ h => h)); clear f1)
         | (go_at_call 12; (with_reducible refine (HS.out _ F1.out).mono ?_); rintro e w2 ⟨rfl, f2⟩; have F1 : Hid (Fresh w w2) := Lib.hid (F1.out.step f2 (fun _ _ h => h)); clear f2)
         | (go_at_call 13; (with_reducible refine (awake_any _).mono ?_); rintro e w3 ⟨rfl, f3⟩; have F3 : Hid (Fresh w w3) := Lib.hid (F1.out.step f3 (fun _ _ h => h)); clear f3))
       go_ret
       exact ⟨rfl, Fresh.below_ F3.out (Nat.le_refl _)⟩)
set_option maxRecDepth 100000 in
set_option maxHeartbeats 16000000 in
theorem lplazy_ok (md id ev : Int) (lz : Bool) (first : St) (A B : Option Addr) (cA cB : Nat) (l : List Ev) (os : List LOp) (w : World) (h : EvAt w (.slice A l.length cA) l) (hl : l.length ≤ 9223372036854775807) (ho : LOps w B os) (hn : os.length ≤ 9223372036854775807) (h1 : fewB ⟨md, id, ev, lz⟩ first l = true) (h2 : shortB os = true) : Law Tryz.prog 5 #[.agg (jarr ⟨md, id, ev, lz⟩ first (.slice A l.length cA)), .slice B os.length cB] w := by
  unfold Law
  have hff := few_facts h1
  have hl20 : l.length ≤ 100000 := by have := hff.2.2.1; omega
  have F0 : Fresh w (w.alloc (.cells (jarr ⟨md, id, ev, lz⟩ first (.slice A l.length cA)) 26)) := (Keep.refl _ w).alloc _
  have HB0 : Hid (Blk (w.alloc (.cells (jarr ⟨md, id, ev, lz⟩ first (.slice A l.length cA)) 26)) w.heap.size 26 (jarr ⟨md, id, ev, lz⟩ first (.slice A l.length cA))) := Lib.hid (Blk.new w _ _)
  have HF := Lib.hid (few_any ⟨md, id, ev, lz⟩ first A cA l _ (h.fresh F0) hl)
  have HS := Lib.hid (fun W (f : Fresh w W) => short_any B cB os W (ho.fresh f) hn)
  have HM1 : Hid (∀ W, Fresh w W → Calls Tryz.prog 14 #[.agg (jarr ⟨md, id, ev, true⟩ first (.slice A l.length cA))] W (LMadeP ⟨md, id, ev, true⟩ first l W)) := Lib.hid fun W f => made_any _ first A cA l W (h.fresh f) hl20
  have HM2 : Hid (∀ W, Fresh w W → Calls Tryz.prog 14 #[.agg (jarr ⟨md, id, ev, false⟩ first (.slice A l.length cA))] W (LMadeP ⟨md, id, ev, false⟩ first l W)) := Lib.hid fun W f => made_any _ first A cA l W (h.fresh f) hl20
  have HR1 : Hid (madeE id ev l = 0 → RefP ⟨md, id, ev, true⟩ first (newLp first (insAll l)) (newA (insAll l)) 0) := Lib.hid fun he => made_ref (c := ⟨md, id, ev, true⟩) h1 he
  have HR2 : Hid (madeE id ev l = 0 → RefP ⟨md, id, ev, false⟩ first (newLp first (insAll l)) (newA (insAll l)) 0) := Lib.hid fun he => made_ref (c := ⟨md, id, ev, false⟩) h1 he
  have HO := Lib.hid (fun i o => lop_cells ho (i := i) (o := o))
  have H60 : os.length ≤ 60 := by
    unfold shortB at h2
    rw [Bool.and_eq_true] at h2
    exact of_decide_eq_true h2.2
  have HSM : Hid (∀ o ∈ os, SmE o.x) := Lib.hid fun o hm => by
    unfold shortB at h2
    rw [Bool.and_eq_true] at h2
    exact (smallB_iff o.x).1 (List.all_eq_true.1 h2.1 o hm)
  have FF := Lib.hid F0
  rw [h1] at HF
  rw [h2] at HS
  unfold jarr at HF FF HM1 HM2 HB0 ⊢
  simp only at HF FF HM1 HM2 HB0 ⊢
  obtain ⟨nl, hnl⟩ : ∃ nl, insAll l = nl := ⟨_, rfl⟩
  rw [hnl] at HR1 HR2
  clear h ho h1 h2 F0 hff
  go_enter Tryz.func5, Tryz.ntmps5
  go_wp2_with (first
    | (go_at_call 11; (with_reducible refine HF.out.mono ?_); rintro e w1 ⟨rfl, f1⟩; have F1 : Hid (Fresh w w1) := Lib.hid (FF.out.step f1 (fun _ _ h => h)); have B1 := Lib.hid (f1.blk_ HB0.out); clear f1)
    | (go_at_call 12; (with_reducible refine (HS.out _ F1.out).mono ?_); rintro e w2 ⟨rfl, f2⟩; have F2 : Hid (Fresh w w2) := Lib.hid (F1.out.step f2 (fun _ _ h => h)); have B2 := Lib.hid (f2.blk_ B1.out); have c2 := B2.out.cell; have r2 := B2.out.frozen; have l2 := B2.out.lt; clear f2))
  have F2b : Hid (Fresh w (w2.setCell ⟨w.heap.size, 7, none⟩ (.bool true))) := Lib.hid (F2.out.setCell (p := ⟨w.heap.size, 7, none⟩) (fun h => absurd h (Nat.lt_irrefl _)) _)
  have B2b : Hid (Blk (w2.setCell ⟨w.heap.size, 7, none⟩ (.bool true)) w.heap.size 26 #[.int .i64 md, .int .i64 id, .int .i64 first.s0, .int .i64 first.s1, .int .i64 first.s2, .int .i64 first.s3, .int .i64 ev, .bool true, .slice A l.length cA]) := Lib.hid (by simpa using B2.out.set_ 7 (.bool true))
  have l2b : Hid (w.heap.size < (w2.setCell ⟨w.heap.size, 7, none⟩ (.bool true)).heap.size) := Lib.hid B2b.out.lt
  clear c2 r2 l2 HF HS B1 HB0 F1 FF
  refine (HM1.out _ F2b.out).mono ?_
  rintro e w3 (⟨he1, y1, rfl, s3, f3, n3⟩ | ⟨he1, rfl, f3⟩)
  · have F3 : Hid (Fresh w w3) := Lib.hid (F2b.out.step f3 (fun _ _ h => h))
    have B3 := Lib.hid (f3.blk_ B2b.out)
    rw [hnl] at s3
    have O3 : Hid (OwnP ⟨md, id, ev, true⟩ first (newA nl) 0 w y1 w3) := Lib.hid ⟨⟨_, s3, HR1.out he1⟩, F3.out, fun k hk => Nat.le_trans F2b.out.size (n3 k hk)⟩
    have N3 : Hid (NewP y1 (w2.setCell ⟨w.heap.size, 7, none⟩ (.bool true))) := Lib.hid n3
    have c3 := B3.out.cell
    have r3 := B3.out.frozen
    have l3 := B3.out.lt
    clear s3 f3 n3 B2 B2b HM1
    go_wp2_with fail
    have F4 : Hid (Fresh w (w3.setCell ⟨w.heap.size, 7, none⟩ (.bool false))) := Lib.hid (F3.out.setCell (p := ⟨w.heap.size, 7, none⟩) (fun h => absurd h (Nat.lt_irrefl _)) _)
    have O4 := Lib.hid (O3.out.far (p := ⟨w.heap.size, 7, none⟩) (fun hf => by have h1 := N3.out _ hf; have h2 := l2b.out; exact absurd h1 (Nat.not_le_of_lt h2)) (Nat.le_refl _) (.bool false))
    clear c3 r3 l3 B3 O3 F3
    refine (HM2.out _ F4.out).mono ?_
    rintro e w5 (⟨he2, y2, rfl, s5, f5, n5⟩ | ⟨he2, rfl, f5⟩)
    · rw [hnl] at s5
      have T5 : Hid (TwoP ⟨md, id, ev, true⟩ ⟨md, id, ev, false⟩ first (newA nl) 0 (newA nl) 0 w y1 y2 w5) := Lib.hid ⟨O4.out.fresh f5, ⟨⟨_, s5, HR2.out he2⟩, F4.out.step f5 (fun _ _ h => h), fun k hk => Nat.le_trans F4.out.size (n5 k hk)⟩, fun k h1 h2 => by have := O4.out.lt k h1; have := n5 k h2; omega⟩
      have Z0 : Hid (LzA (newA nl) (newA nl) 0 0) := Lib.hid ⟨rfl, rfl, rfl, rfl, Lz.new⟩
      clear s5 f5 n5 O4 N3 F4 HM2 HR1 HR2 he1 he2 l2b F2 F2b
      go_wp2_with fail
      obtain ⟨g1, hg1⟩ : ∃ g1, y1.g = g1 := ⟨_, rfl⟩
      obtain ⟨g2, hg2⟩ : ∃ g2, y2.g = g2 := ⟨_, rfl⟩
      have HG1 := Lib.hid hg1
      have HG2 := Lib.hid hg2
      rw [hg1, hg2]
      clear hg1 hg2 hnl
      go_loopg [9, 10, 11, 12, 13, 14, 15, 16, 17, 18, 19, 20, 21] os.length (fun gk u9 u10 u11 u12 u13 u14 u15 u16 u17 u18 u19 u20 u21 wr => ∃ (i : Nat) (A B : AM) (y1 y2 : PV) (n m : Nat), i ≤ os.length ∧ gk = os.length - i ∧ u9 = .int .i64 n ∧ u10 = .int .i64 m ∧ u11 = .int .i64 i ∧ TwoP ⟨md, id, ev, true⟩ ⟨md, id, ev, false⟩ first A i B i w y1 y2 wr ∧ y1.g = g1 ∧ y2.g = g2 ∧ LzA A B n m ∧ n ≤ 10000 * i ∧ m ≤ 10000 * i)
      case atStart => exact ⟨0, _, _, y1, y2, 0, 0, by omega, rfl, rfl, rfl, rfl, T5.out, HG1.out, HG2.out, Z0.out, by omega, by omega⟩
      case round =>
        clear T5 HG1 HG2 Z0
        obtain ⟨i, A, B', y1, y2, n, m, hi, rfl, rfl, rfl, rfl, hT, hg1, hg2, hZ, hbn, hbm⟩ := hrel
        have HT := Lib.hid hT
        have HG1 := Lib.hid hg1
        have HG2 := Lib.hid hg2
        have HZ := Lib.hid hZ
        clear hT hg1 hg2 hZ
        by_cases hlt : i < os.length
        · obtain ⟨o, ho⟩ : ∃ o, os[i]? = some o := ⟨_, List.getElem?_eq_getElem hlt⟩
          have HX := Lib.hid (HSM.out o (List.mem_of_getElem? ho))
          obtain ⟨b, off, rfl, hce⟩ := HO.out i o ho
          have HCELL := Lib.hid hce
          obtain ⟨c0, c1, c2, c3, c4, c5, c6, c7, c8, c9⟩ := HCELL.out wr HT.out.p.f
          have tq : decide ((i : Int) < (os.length : Int)) = true := decide_eq_true (by omega)
          have tq' : decide (i < os.length) = true := decide_eq_true hlt
          have q1 : (i : Int) < (os.length : Int) := by omega
          clear hce ho
          by_cases hk : 0 ≤ o.k ∧ o.k ≤ 3
          · have k1 : decide (o.k < 0) = false := decide_eq_false (by omega)
            have k2 : decide (3 < o.k) = false := decide_eq_false (by omega)
            have HC1 := HT.out.p.calls_ HG1.out (by omega) o HX.out
            obtain ⟨pa, hpa, hra⟩ := HT.out.p.r
            obtain ⟨pb, hpb, hrb⟩ := HT.out.q.r
            have DL := HZ.out.do_ (C := cfg ⟨md, id, ev, true⟩ first) hra.inv rfl o.k o.b o.x o.an hk
            have L1 := ans_len hra.laws hra.inv hra.okf o.k o.b o.x o.an (fun _ => HX.out)
            have L2 := ans_len hrb.laws hrb.inv hrb.okf o.k o.b o.x o.an (fun _ => HX.out)
            have e2 : eag (cfg ⟨md, id, ev, true⟩ first) = cfg ⟨md, id, ev, false⟩ first := rfl
            rw [e2] at DL
            obtain ⟨AA, hAA⟩ : ∃ AA, doA (cfg ⟨md, id, ev, true⟩ first) A o.k o.b o.x o.an = AA := ⟨_, rfl⟩
            obtain ⟨BB, hBB⟩ : ∃ BB, doA (cfg ⟨md, id, ev, false⟩ first) B' o.k o.b o.x o.an = BB := ⟨_, rfl⟩
            rw [hAA] at HC1 DL L1
            rw [hBB] at DL L2
            have HBB := Lib.hid hBB
            have HML : Hid (AA.M.length ≤ 10000 ∧ BB.M.length ≤ 10000) := Lib.hid (by
              have h1 := hra.ql
              have h2 := hra.al
              have h3 := hrb.ql
              have h4 := hrb.al
              omega)
            have HE : Hid (BB.e = AA.e) := Lib.hid DL.1
            have Z6 := Lib.hid DL.2
            have HC1 := Lib.hid HC1
            unfold LOp.arr at HC1
            clear hAA hBB L1 L2 DL e2 hpa hra hpb hrb pa pb hk
            go_upto_region 16 with (go_at_call 15; (with_reducible refine HC1.out.mono ?_); rintro e w6 ⟨va, vb, rfl, m6, e6, y1', p6, s6, t6, x6, r6⟩; have M6 := Lib.hid m6.1; have T6 : Hid (TwoP ⟨md, id, ev, true⟩ ⟨md, id, ev, false⟩ first AA.A (i + 1) B' i w y1' y2 w6) := Lib.hid (HT.out.turnP t6 ⟨p6, s6, r6⟩); have G6 : Hid (y1'.g = g1) := Lib.hid (t6.g.trans HG1.out); clear m6 e6 s6 t6 x6 r6 c0 c1 c2 c3 c4 c5 c6 c7 c8 c9)
            obtain ⟨c0, c1, c2, c3, c4, c5, c6, c7, c8, c9⟩ := HCELL.out w6 T6.out.p.f
            obtain ⟨A5, cap5, rfl, _, _⟩ := M6.out.shape
            have HC2 := T6.out.q.calls_ HG2.out (by omega) o HX.out
            rw [HBB.out] at HC2
            have HC2 := Lib.hid HC2
            unfold LOp.arr at HC2
            clear HC1 M6 HT
            go_upto_region 17 with (go_at_call 15; (with_reducible refine HC2.out.mono ?_); rintro e w7 ⟨vx, vy, rfl, m7, e7, y2', p7, s7, t7, x7, r7⟩; have M7 := Lib.hid m7.1; have T7 : Hid (TwoP ⟨md, id, ev, true⟩ ⟨md, id, ev, false⟩ first AA.A (i + 1) BB.A (i + 1) w y1' y2' w7) := Lib.hid (T6.out.turnQ t7 ⟨p7, s7, r7⟩); have G7 : Hid (y2'.g = g2) := Lib.hid (t7.g.trans HG2.out); clear m7 e7 s7 t7 x7 r7 c0 c1 c2 c3 c4 c5 c6 c7 c8 c9)
            obtain ⟨A6, cap6, rfl, _, _⟩ := M7.out.shape
            have ws1 : IntKind.i64.wrap ((n : Int) + (AA.M.length : Int)) = ((n + AA.M.length : Nat) : Int) := (IntWalk.i64_in _ (by have := HML.out; omega)).trans (by omega)
            have ws2 : IntKind.i64.wrap ((m : Int) + (BB.M.length : Int)) = ((m + BB.M.length : Nat) : Int) := (IntWalk.i64_in _ (by have := HML.out; omega)).trans (by omega)
            have hq5 : AA.A.q.length ≤ 5000 ∧ BB.A.q.length ≤ 5000 := by
              obtain ⟨pa, hpa, hra⟩ := T7.out.p.r
              obtain ⟨pb, hpb, hrb⟩ := T7.out.q.r
              have h1 := hra.ql
              have h2 := hrb.ql
              omega
            have HQ5 := Lib.hid hq5
            have SU := Z6.out.sures
            have HRA : Hid (∀ W', Fresh w7 W' → Calls Tryz.prog 24 #[.pointer (some ⟨g1, 0, none⟩)] W' (RecQ AA.A.q W')) := Lib.hid fun W' f => (T7.out.fresh f).p.recs G6.out hq5.1
            have HRB : Hid (∀ W', Fresh w7 W' → Calls Tryz.prog 24 #[.pointer (some ⟨g2, 0, none⟩)] W' (RecQ BB.A.q W')) := Lib.hid fun W' f => (T7.out.fresh f).q.recs G7.out hq5.2
            have HSL : Hid ((evs BB.A.q).length ≤ 1000000) := Lib.hid (by
              have h3 : (evs BB.A.q).length = BB.A.q.length := by simp [evs]
              omega)
            unfold RecQ at HRA HRB
            rw [SU.1] at HRA
            rw [SU.2.1, SU.2.2] at HRB
            clear SU hq5 HC2 M7 T6 HBB
            go_upto_region 20 with (go_at_call 24; (with_reducible refine (HRA.out _ (Keep.refl _ _)).mono ?_); rintro e w8 ⟨vr1, vr2, rfl, o8, o8b, f8, n8, n8b, d8⟩; have V8 := Lib.hid o8.evs; have F8 : Hid (Fresh w7 w8) := Lib.hid f8; clear o8 o8b f8 n8 n8b d8)
            go_upto_region 21 with (go_at_call 24; (with_reducible refine (HRB.out _ F8.out).mono ?_); rintro e w9 ⟨vr3, vr4, rfl, o9, o9b, f9, n9, n9b, d9⟩; have V9 := Lib.hid o9.evs; have U9 := Lib.hid o9b; have F9 : Hid (Fresh w8 w9) := Lib.hid f9; clear o9 o9b f9 n9 n9b d9)
            obtain ⟨A9, cap9, rfl, _, _⟩ := U9.out.shape
            have F79 : Hid (Fresh w7 w9) := Lib.hid (F8.out.step F9.out (fun _ _ h => h))
            have T9 := Lib.hid (T7.out.fresh F79.out)
            have V8 := Lib.hid (V8.out.fresh F9.out)
            have HES : Hid (∀ W, Fresh w9 W → Calls Tryz.prog 17 #[vr1, vr3] W fun e w' => e = .returned (.bool true) ∧ Fresh w9 w') := Lib.hid fun W f => by
              refine (events_any vr1 vr3 (evs BB.A.q) (evs BB.A.q) W (V8.out.fresh f) (V9.out.fresh f) HSL.out HSL.out).mono fun e w' hh => ⟨?_, f.step hh.2 (fun _ _ h => h)⟩
              rw [hh.1, decide_eq_true rfl]
            have HT1 : Hid (∀ W, Fresh w9 W → Calls Tryz.prog 18 #[.pointer (some ⟨g1, 0, none⟩)] W fun e w' => e = .returned (AA.A.fold (cfg ⟨md, id, ev, true⟩ first)).2.1.val ∧ Fresh w9 w') := Lib.hid fun W f => ((T9.out.fresh f).p.state G6.out).mono fun e w' hh => ⟨hh.1, f.step hh.2 (fun _ _ h => h)⟩
            have HT2 : Hid (∀ W, Fresh w9 W → Calls Tryz.prog 18 #[.pointer (some ⟨g2, 0, none⟩)] W fun e w' => e = .returned (AA.A.fold (cfg ⟨md, id, ev, true⟩ first)).2.1.val ∧ Fresh w9 w') := Lib.hid fun W f => ((T9.out.fresh f).q.state G7.out).mono fun e w' hh => ⟨by rw [hh.1, ← Z6.out.fold (C := cfg ⟨md, id, ev, true⟩ first)]; rfl, f.step hh.2 (fun _ _ h => h)⟩
            have HN1 : Hid (∀ W, Fresh w9 W → Calls Tryz.prog 19 #[.pointer (some ⟨g1, 0, none⟩)] W fun e w' => e = .returned (.int .i64 AA.A.now) ∧ Fresh w9 w') := Lib.hid fun W f => ((T9.out.fresh f).p.now G6.out).mono fun e w' hh => ⟨hh.1, f.step hh.2 (fun _ _ h => h)⟩
            have HN2 : Hid (∀ W, Fresh w9 W → Calls Tryz.prog 19 #[.pointer (some ⟨g2, 0, none⟩)] W fun e w' => e = .returned (.int .i64 AA.A.now) ∧ Fresh w9 w') := Lib.hid fun W f => ((T9.out.fresh f).q.now G7.out).mono fun e w' hh => ⟨by rw [hh.1, Z6.out.now], f.step hh.2 (fun _ _ h => h)⟩
            obtain ⟨⟨s0, s1, s2, s3⟩, hst⟩ : ∃ st, (AA.A.fold (cfg ⟨md, id, ev, true⟩ first)).2.1 = st := ⟨_, rfl⟩
            rw [hst] at HT1 HT2
            unfold St.val at HT1 HT2
            simp only at HT1 HT2
            have KF : Hid (Fresh w9 w9) := Lib.hid (Keep.refl _ _)
            rw [HE.out]
            clear hst V8 V9 U9 F8 F9 F79 T7 HRA HRB HSL HQ5 ws1 ws2
            go_wp2_with (first
              | (go_at_call 17; (with_reducible refine (HES.out _ KF.out).mono ?_); rintro e z ⟨rfl, gz⟩; have KF := Lib.hid gz; clear gz)
              | (go_at_call 18; (with_reducible refine (HT1.out _ KF.out).mono ?_); rintro e z ⟨rfl, gz⟩; have KF := Lib.hid gz; clear gz)
              | (go_at_call 18; (with_reducible refine (HT2.out _ KF.out).mono ?_); rintro e z ⟨rfl, gz⟩; have KF := Lib.hid gz; clear gz)
              | (go_at_call 19; (with_reducible refine (HN1.out _ KF.out).mono ?_); rintro e z ⟨rfl, gz⟩; have KF := Lib.hid gz; clear gz)
              | (go_at_call 19; (with_reducible refine (HN2.out _ KF.out).mono ?_); rintro e z ⟨rfl, gz⟩; have KF := Lib.hid gz; clear gz))
            go_roundg (os.length - (i + 1))
            case measure => omega
            case rel => exact ⟨i + 1, AA.A, BB.A, y1', y2', n + AA.M.length, m + BB.M.length, by omega, rfl, rfl, rfl, by go_num, T9.out.fresh KF.out, G6.out, G7.out, Z6.out, by have := HML.out; omega, by have := HML.out; omega⟩
          · by_cases hk0 : o.k < 0
            · have k1 : decide (o.k < 0) = true := decide_eq_true hk0
              go_wp2_with fail
              go_roundg (os.length - (i + 1))
              case measure => omega
              case rel => exact ⟨i + 1, A, B', y1, y2, n, m, by omega, rfl, rfl, rfl, by go_num, HT.out.mono (Nat.le_succ i) (Nat.le_succ i), HG1.out, HG2.out, HZ.out, by omega, by omega⟩
            · have k1 : decide (o.k < 0) = false := decide_eq_false hk0
              have k2 : decide (3 < o.k) = true := decide_eq_true (by omega)
              go_wp2_with fail
              go_roundg (os.length - (i + 1))
              case measure => omega
              case rel => exact ⟨i + 1, A, B', y1, y2, n, m, by omega, rfl, rfl, rfl, by go_num, HT.out.mono (Nat.le_succ i) (Nat.le_succ i), HG1.out, HG2.out, HZ.out, by omega, by omega⟩
        · obtain rfl : i = os.length := by omega
          have tq : decide ((os.length : Int) < (os.length : Int)) = false := decide_eq_false (by omega)
          obtain ⟨N, hN⟩ : ∃ N, os.length = N := ⟨_, rfl⟩
          rw [hN] at HT hbn hbm H60
          have HN62 : Hid (N ≤ 62) := Lib.hid (by omega)
          have HBD : Hid (n ≤ 600000 ∧ m ≤ 600000) := Lib.hid (by omega)
          have HAB : Hid (above A.l A.now ≤ 82) := Lib.hid (by
            obtain ⟨pa, hpa, hra⟩ := HT.out.p.r
            have h1 : above A.l A.now ≤ A.l.length := List.countP_le_length
            have h2 := hra.al
            omega)
          clear hbn hbm HSM HO hN
          go_wp2_with fail
          go_loopg [9, 10, 22, 23, 24, 25, 26] 1000 (fun gk u9 u10 u22 u23 u24 u25 u26 wr => ∃ (j : Nat) (A B : AM) (y1 y2 : PV) (n m : Nat), gk = 1000 - j ∧ u9 = .int .i64 n ∧ u10 = .int .i64 m ∧ u22 = .int .i64 j ∧ TwoP ⟨md, id, ev, true⟩ ⟨md, id, ev, false⟩ first A N B N w y1 y2 wr ∧ y1.g = g1 ∧ y2.g = g2 ∧ LzA A B n m ∧ j + above A.l A.now ≤ 82 ∧ n ≤ 600000 + 10000 * j ∧ m ≤ 600000 + 10000 * j)
          case atStart => exact ⟨0, A, B', y1, y2, n, m, rfl, rfl, rfl, rfl, HT.out, HG1.out, HG2.out, HZ.out, by have := HAB.out; omega, by have := HBD.out; omega, by have := HBD.out; omega⟩
          case round =>
            clear HT HG1 HG2 HZ HAB HBD
            obtain ⟨j, A, B', y1, y2, n, m, rfl, rfl, rfl, rfl, hT, hg1, hg2, hZ, hab, hbn, hbm⟩ := hrel
            have HT := Lib.hid hT
            have HG1 := Lib.hid hg1
            have HG2 := Lib.hid hg2
            have HZ := Lib.hid hZ
            have HAB := Lib.hid hab
            have HBD : Hid (n ≤ 600000 + 10000 * j ∧ m ≤ 600000 + 10000 * j ∧ j ≤ 82) := Lib.hid (by omega)
            have tq2 : decide ((j : Int) < 1000) = true := decide_eq_true (by omega)
            have HC1 := HT.out.p.step_ HG1.out HN62.out
            have HBX : Hid (nx B'.l B'.now = nx A.l A.now) := Lib.hid (by rw [hZ.l, hZ.now])
            clear hT hg1 hg2 hZ hab hbn hbm
            cases hx : nx A.l A.now with
            | some x =>
              obtain ⟨pa, hpa, hra⟩ := HT.out.p.r
              obtain ⟨pb, hpb, hrb⟩ := HT.out.q.r
              have DL := HZ.out.stp (C := cfg ⟨md, id, ev, true⟩ first) hra.inv
              have L1 := ans_len hra.laws hra.inv hra.okf 0 0 ⟨0, 0, 0, 0, 0, 0, 0⟩ false (fun h => by omega)
              have L2 := ans_len hrb.laws hrb.inv hrb.okf 0 0 ⟨0, 0, 0, 0, 0, 0, 0⟩ false (fun h => by omega)
              have d1 : ∀ (C : Cfg) (A : AM), doA C A 0 0 ⟨0, 0, 0, 0, 0, 0, 0⟩ false = stpA C A := fun _ _ => rfl
              have e2 : eag (cfg ⟨md, id, ev, true⟩ first) = cfg ⟨md, id, ev, false⟩ first := rfl
              rw [d1] at L1 L2
              rw [e2] at DL
              have EA0 : (stpA (cfg ⟨md, id, ev, true⟩ first) A).e = 0 ∧ above (stpA (cfg ⟨md, id, ev, true⟩ first) A).A.l (stpA (cfg ⟨md, id, ev, true⟩ first) A).A.now < above A.l A.now := by
                unfold stpA
                rw [hx]
                exact ⟨rfl, step_above (C := cfg ⟨md, id, ev, true⟩ first) hra.inv.sl hx⟩
              obtain ⟨⟨A2, M2, E2, er2⟩, hAA⟩ : ∃ AA, stpA (cfg ⟨md, id, ev, true⟩ first) A = AA := ⟨_, rfl⟩
              obtain ⟨⟨B2, N2, F2, es2⟩, hBB⟩ : ∃ BB, stpA (cfg ⟨md, id, ev, false⟩ first) B' = BB := ⟨_, rfl⟩
              rw [hAA] at HC1 DL L1 EA0
              rw [hBB] at DL L2
              simp only at DL L1 L2 EA0
              obtain ⟨re, DL⟩ := DL
              obtain ⟨rfl, EA1⟩ := EA0
              obtain rfl : es2 = 0 := re
              have HBB := Lib.hid hBB
              have HML : Hid (M2.length ≤ 10000 ∧ N2.length ≤ 10000) := Lib.hid (by
                have h1 := hra.ql
                have h2 := hra.al
                have h3 := hrb.ql
                have h4 := hrb.al
                have h5 := HN62.out
                omega)
              have Z6 := Lib.hid DL
              have HC1 : Hid (Calls Tryz.prog 28 #[.pointer (some ⟨g1, 0, none⟩)] wr (LpP ⟨md, id, ev, true⟩ first y1 ⟨A2, M2, E2, 0⟩ N wr)) := Lib.hid HC1
              have HAB2 : Hid (j + 1 + above A2.l A2.now ≤ 82) := Lib.hid (by have := HAB.out; omega)
              clear hAA hBB L1 L2 DL d1 e2 hpa hra hpb hrb pa pb hx EA1 HAB HBX
              go_upto_region 27 with (go_at_call 28; (with_reducible refine HC1.out.mono ?_); rintro e w6 ⟨va, rfl, m6, y1', p6, s6, t6, r6⟩; have M6 := Lib.hid m6.1; have T6 : Hid (TwoP ⟨md, id, ev, true⟩ ⟨md, id, ev, false⟩ first A2 N B' N w y1' y2 w6) := Lib.hid (HT.out.turnP t6 ⟨p6, s6, r6⟩); have G6 : Hid (y1'.g = g1) := Lib.hid (t6.g.trans HG1.out); clear m6 s6 t6 r6)
              obtain ⟨A5, cap5, rfl, _, _⟩ := M6.out.shape
              have HC2 := T6.out.q.step_ HG2.out HN62.out
              rw [HBB.out] at HC2
              have HC2 : Hid (Calls Tryz.prog 28 #[.pointer (some ⟨g2, 0, none⟩)] w6 (LpP ⟨md, id, ev, false⟩ first y2 ⟨B2, N2, F2, 0⟩ N w6)) := Lib.hid HC2
              clear HC1 M6 HT
              go_upto_region 28 with (go_at_call 28; (with_reducible refine HC2.out.mono ?_); rintro e w7 ⟨vx, rfl, m7, y2', p7, s7, t7, r7⟩; have M7 := Lib.hid m7.1; have T7 : Hid (TwoP ⟨md, id, ev, true⟩ ⟨md, id, ev, false⟩ first A2 N B2 N w y1' y2' w7) := Lib.hid (T6.out.turnQ t7 ⟨p7, s7, r7⟩); have G7 : Hid (y2'.g = g2) := Lib.hid (t7.g.trans HG2.out); clear m7 s7 t7 r7)
              obtain ⟨A6, cap6, rfl, _, _⟩ := M7.out.shape
              have ws1 : IntKind.i64.wrap ((n : Int) + (M2.length : Int)) = ((n + M2.length : Nat) : Int) := (IntWalk.i64_in _ (by have := HML.out; have := HBD.out; omega)).trans (by omega)
              have ws2 : IntKind.i64.wrap ((m : Int) + (N2.length : Int)) = ((m + N2.length : Nat) : Int) := (IntWalk.i64_in _ (by have := HML.out; have := HBD.out; omega)).trans (by omega)
              have j82 := HBD.out.2.2
              clear HC2 M7 T6 HBB
              go_wp2_with fail
              go_roundg (1000 - (j + 1))
              case measure => omega
              case rel => exact ⟨j + 1, A2, B2, y1', y2', n + M2.length, m + N2.length, rfl, rfl, rfl, by go_num, T7.out, G6.out, G7.out, Z6.out, HAB2.out, by have := HML.out; have := HBD.out; omega, by have := HML.out; have := HBD.out; omega⟩
            | none =>
              obtain ⟨pa, hpa, hra⟩ := HT.out.p.r
              have ED := HZ.out.end_ (C := cfg ⟨md, id, ev, true⟩ first) hra.laws hra.okf hra.inv hx
              have e1 : stpA (cfg ⟨md, id, ev, true⟩ first) A = ⟨A, [], [], 14⟩ := by unfold stpA; rw [hx]
              have e2 : stpA (cfg ⟨md, id, ev, false⟩ first) B' = ⟨B', [], [], 14⟩ := by unfold stpA; rw [HBX.out, hx]
              rw [e1] at HC1
              have HE2 := Lib.hid e2
              have HC1 : Hid (Calls Tryz.prog 28 #[.pointer (some ⟨g1, 0, none⟩)] wr (LpP ⟨md, id, ev, true⟩ first y1 ⟨A, [], [], 14⟩ N wr)) := Lib.hid HC1
              have HD1 := Lib.hid ED.1
              have HD2 := Lib.hid ED.2.1
              have HD3 := Lib.hid ED.2.2.1
              have HD4 := Lib.hid ED.2.2.2
              clear hpa hra ED e1 e2 pa hx HAB HBX
              go_upto_region 27 with (go_at_call 28; (with_reducible refine HC1.out.mono ?_); rintro e w6 ⟨va, rfl, m6, y1', p6, s6, t6, r6⟩; have M6 := Lib.hid m6.1; have T6 : Hid (TwoP ⟨md, id, ev, true⟩ ⟨md, id, ev, false⟩ first A N B' N w y1' y2 w6) := Lib.hid (HT.out.turnP t6 ⟨p6, s6, r6⟩); have G6 : Hid (y1'.g = g1) := Lib.hid (t6.g.trans HG1.out); clear m6 s6 t6 r6)
              obtain ⟨A5, cap5, rfl, _, _⟩ := M6.out.shape
              have HC2 := T6.out.q.step_ HG2.out HN62.out
              rw [HE2.out] at HC2
              have HC2 : Hid (Calls Tryz.prog 28 #[.pointer (some ⟨g2, 0, none⟩)] w6 (LpP ⟨md, id, ev, false⟩ first y2 ⟨B', [], [], 14⟩ N w6)) := Lib.hid HC2
              clear HC1 M6 HT
              go_upto_region 28 with (go_at_call 28; (with_reducible refine HC2.out.mono ?_); rintro e w7 ⟨vx, rfl, m7, y2', p7, s7, t7, r7⟩; have M7 := Lib.hid m7.1; have T7 : Hid (TwoP ⟨md, id, ev, true⟩ ⟨md, id, ev, false⟩ first A N B' N w y1' y2' w7) := Lib.hid (T6.out.turnQ t7 ⟨p7, s7, r7⟩); have G7 : Hid (y2'.g = g2) := Lib.hid (t7.g.trans HG2.out); clear m7 s7 t7 r7)
              obtain ⟨A6, cap6, rfl, _, _⟩ := M7.out.shape
              have ws0 : IntKind.i64.wrap (n : Int) = (n : Int) := IntWalk.i64_in _ (by have := HBD.out; omega)
              have ws1 : IntKind.i64.wrap (m : Int) = (m : Int) := IntWalk.i64_in _ (by have := HBD.out; omega)
              have HS8 := T7.out.p.settle_ G6.out HN62.out
              unfold setA at HS8
              obtain ⟨K1, hK1⟩ : ∃ K1, antis (flushP (nextB A)) A.q = K1 := ⟨_, rfl⟩
              rw [hK1] at HS8 HD3
              have HS8 := Lib.hid HS8
              obtain ⟨n2, hn2⟩ : ∃ n2, n + K1.length = n2 := ⟨_, rfl⟩
              have ws2 : IntKind.i64.wrap ((n : Int) + (K1.length : Int)) = (n2 : Int) := (IntWalk.i64_in _ (by have := HD3.out; have := HBD.out; omega)).trans (by omega)
              have HN2 : Hid (n2 ≤ m) := Lib.hid (by have := HD3.out; omega)
              clear HC2 M7 T6 HE2 hK1 hn2
              go_upto_region 34 with (go_at_call 29; (with_reducible refine HS8.out.mono ?_); rintro e w8 ⟨v8, rfl, m8, y8, p8, s8, t8, r8⟩; have M8 := Lib.hid m8.1; have T8 : Hid (TwoP ⟨md, id, ev, true⟩ ⟨md, id, ev, false⟩ first (settleA A) N B' N w y8 y2' w8) := Lib.hid (T7.out.turnP t8 ⟨p8, s8, r8⟩); have G8 : Hid (y8.g = g1) := Lib.hid (t8.g.trans G6.out); clear m8 s8 t8 r8; obtain ⟨A8, cap8, rfl, _, _⟩ := M8.out.shape)
              have hq5 : (settleA A).q.length ≤ 5000 ∧ B'.q.length ≤ 5000 := by
                obtain ⟨pa, hpa, hra⟩ := T8.out.p.r
                obtain ⟨pb, hpb, hrb⟩ := T8.out.q.r
                have h1 := hra.ql
                have h2 := hrb.ql
                omega
              have SU := HZ.out.sures
              have HRA : Hid (∀ W', Fresh w8 W' → Calls Tryz.prog 24 #[.pointer (some ⟨g1, 0, none⟩)] W' (RecQ (settleA A).q W')) := Lib.hid fun W' f => (T8.out.fresh f).p.recs G8.out hq5.1
              have HRB : Hid (∀ W', Fresh w8 W' → Calls Tryz.prog 24 #[.pointer (some ⟨g2, 0, none⟩)] W' (RecQ B'.q W')) := Lib.hid fun W' f => (T8.out.fresh f).q.recs G7.out hq5.2
              have HSL : Hid ((evs B'.q).length ≤ 1000000) := Lib.hid (by
                have h3 : (evs B'.q).length = B'.q.length := by simp [evs]
                omega)
              unfold RecQ at HRA HRB
              rw [HD1.out, HD2.out] at HRA
              rw [SU.2.1, SU.2.2] at HRB
              clear SU hq5 HS8 M8 T7 ws0 ws1 ws2 HD1 HD2
              go_upto_region 35 with (go_at_call 24; (with_reducible refine (HRA.out _ (Keep.refl _ _)).mono ?_); rintro e w9 ⟨vr1, vr2, rfl, o9, o9b, f9, n9, n9b, d9⟩; have V9 := Lib.hid o9; have U9 := Lib.hid o9b; have N9 := Lib.hid n9; have F9 : Hid (Fresh w8 w9) := Lib.hid f9; clear o9 o9b f9 n9 n9b d9; obtain ⟨A9, cap9, rfl, _, _⟩ := U9.out.shape)
              go_upto_region 36 with (go_at_call 24; (with_reducible refine (HRB.out _ F9.out).mono ?_); rintro e w10 ⟨vr3, vr4, rfl, o10, o10b, f10, n10, n10b, d10⟩; have V10 := Lib.hid o10; have N10 := Lib.hid n10; have F10 : Hid (Fresh w9 w10) := Lib.hid f10; clear o10 o10b f10 n10 n10b d10)
              have X9 : Hid (OffU vr1 y2') := Lib.hid (fun k hk hf => by have := N9.out k hk; have := T8.out.q.lt k hf; omega)
              have X10 : Hid (OffU vr3 y2') := Lib.hid (fun k hk hf => by have h1 := N10.out k hk; have h2 := T8.out.q.lt k hf; have h3 := F9.out.size; omega)
              have V9 := Lib.hid (V9.out.fresh F10.out)
              have T10 := Lib.hid (T8.out.fresh (F9.out.step F10.out (fun _ _ h => h)))
              have HS9 := T10.out.q.settle_ G7.out HN62.out
              unfold setA at HS9
              rw [HD4.out] at HS9
              have HS9 := Lib.hid HS9
              have HES : Hid (∀ W0 y', LTurn w10 W0 y2' y' → ∀ W, Fresh W0 W → Calls Tryz.prog 17 #[vr1, vr3] W fun e w' => e = .returned (.bool true) ∧ Fresh W0 w') := Lib.hid fun W0 y' t W f => by
                refine (events_any vr1 vr3 (evs B'.q) (evs B'.q) W ((V9.out.kept t.keep X9.out).evs.fresh f) ((V10.out.kept t.keep X10.out).evs.fresh f) HSL.out HSL.out).mono fun e w' hh => ⟨?_, f.step hh.2 (fun _ _ h => h)⟩
                rw [hh.1, decide_eq_true rfl]
              obtain ⟨⟨s0, s1, s2, s3⟩, hst⟩ : ∃ st, (A.fold (cfg ⟨md, id, ev, true⟩ first)).2.1 = st := ⟨_, rfl⟩
              have hsb : ((settleA B').fold (cfg ⟨md, id, ev, false⟩ first)).2.1 = ⟨s0, s1, s2, s3⟩ := by
                rw [← hst, ← HZ.out.fold (C := cfg ⟨md, id, ev, true⟩ first)]
                rfl
              have HT1 : Hid (∀ W0 y', TwoP ⟨md, id, ev, true⟩ ⟨md, id, ev, false⟩ first (settleA A) N (settleA B') N w y8 y' W0 → ∀ W, Fresh W0 W → Calls Tryz.prog 18 #[.pointer (some ⟨g1, 0, none⟩)] W fun e w' => e = .returned (.agg #[.int .i64 s0, .int .i64 s1, .int .i64 s2, .int .i64 s3]) ∧ Fresh W0 w') := Lib.hid fun W0 y' t W f => ((t.fresh f).p.state G8.out).mono fun e w' hh => ⟨by rw [hh.1]; show Ending.returned (A.fold (cfg ⟨md, id, ev, true⟩ first)).2.1.val = _; rw [hst]; rfl, f.step hh.2 (fun _ _ h => h)⟩
              have HT2 : Hid (∀ W0 y', TwoP ⟨md, id, ev, true⟩ ⟨md, id, ev, false⟩ first (settleA A) N (settleA B') N w y8 y' W0 → y'.g = g2 → ∀ W, Fresh W0 W → Calls Tryz.prog 18 #[.pointer (some ⟨g2, 0, none⟩)] W fun e w' => e = .returned (.agg #[.int .i64 s0, .int .i64 s1, .int .i64 s2, .int .i64 s3]) ∧ Fresh W0 w') := Lib.hid fun W0 y' t hg W f => ((t.fresh f).q.state hg).mono fun e w' hh => ⟨by rw [hh.1, hsb]; rfl, f.step hh.2 (fun _ _ h => h)⟩
              have tn : decide ((n2 : Int) ≤ (m : Int)) = true := decide_eq_true (by have := HN2.out; omega)
              have tn' : decide (n2 ≤ m) = true := decide_eq_true HN2.out
              have tn2 : (n2 : Int) ≤ (m : Int) := by have := HN2.out; omega
              clear hst hsb HRA HRB U9 N9 N10 F9 F10 T8 X9 X10 V9 V10 HD3 HD4
              go_wp2_with (first
                | (go_at_call 29; (with_reducible refine HS9.out.mono ?_); rintro e w11 ⟨v11, rfl, m11, y11, p11, s11, t11, r11⟩; have M11 := Lib.hid m11.1; have T11 : Hid (TwoP ⟨md, id, ev, true⟩ ⟨md, id, ev, false⟩ first (settleA A) N (settleA B') N w y8 y11 w11) := Lib.hid (T10.out.turnQ t11 ⟨p11, s11, r11⟩); have G11 : Hid (y11.g = g2) := Lib.hid (t11.g.trans G7.out); have L11 := Lib.hid t11; have KF : Hid (Fresh w11 w11) := Lib.hid (Keep.refl _ _); clear m11 s11 t11 r11; obtain ⟨A11, cap11, rfl, _, _⟩ := M11.out.shape)
                | (go_at_call 17; (with_reducible refine (HES.out _ _ L11.out _ KF.out).mono ?_); rintro e z ⟨rfl, gz⟩; have KF := Lib.hid gz; clear gz)
                | (go_at_call 18; (with_reducible refine (HT1.out _ _ T11.out _ KF.out).mono ?_); rintro e z ⟨rfl, gz⟩; have KF := Lib.hid gz; clear gz)
                | (go_at_call 18; (with_reducible refine (HT2.out _ _ T11.out G11.out _ KF.out).mono ?_); rintro e z ⟨rfl, gz⟩; have KF := Lib.hid gz; clear gz)
                | (go_at_call 13; (with_reducible refine (awake_any _).mono ?_); rintro e z ⟨rfl, gz⟩; have KF : Hid (Fresh w11 z) := Lib.hid (KF.out.step gz (fun _ _ h => h)); clear gz))
              go_ret
              exact ⟨rfl, Fresh.below_ (T11.out.p.f.step KF.out (fun _ _ h => h)) (Nat.le_refl _)⟩
    · exact absurd he1 he2
  · have F3 : Hid (Fresh w w3) := Lib.hid (F2b.out.step f3 (fun _ _ h => h))
    have B3 := Lib.hid (f3.blk_ B2b.out)
    have c3 := B3.out.cell
    have r3 := B3.out.frozen
    have l3 := B3.out.lt
    obtain ⟨er, her⟩ : ∃ er, madeE id ev l = er := ⟨_, rfl⟩
    have u1 : (er != 0) = true := by rw [← her]; simpa using he1
    have u2 : (er == 0) = false := by rw [← her]; simpa using he1
    have HHE := Lib.hid her
    have HNE := Lib.hid he1
    simp only [her]
    clear f3 B2 B2b he1 her HM1 HR1 HR2
    go_wp2_with fail
    have F4 : Hid (Fresh w (w3.setCell ⟨w.heap.size, 7, none⟩ (.bool false))) := Lib.hid (F3.out.setCell (p := ⟨w.heap.size, 7, none⟩) (fun h => absurd h (Nat.lt_irrefl _)) _)
    clear c3 r3 l3 B3 F3
    refine (HM2.out _ F4.out).mono ?_
    rintro e w5 (⟨he2, y2, rfl, s5, f5, n5⟩ | ⟨he2, rfl, f5⟩)
    · exact absurd he2 HNE.out
    · have F5 : Hid (Fresh w w5) := Lib.hid (F4.out.step f5 (fun _ _ h => h))
      simp only [HHE.out]
      clear he2 f5 HHE HNE HM2
      go_wp2_with (go_at_call 13; (with_reducible refine (awake_any _).mono ?_); rintro e w9 ⟨rfl, f9⟩)
      go_ret
      exact ⟨rfl, Fresh.below_ (F5.out.step f9 (fun _ _ h => h)) (Nat.le_refl _)⟩
theorem lplazy_any (md id ev : Int) (lz : Bool) (first : St) (A B : Option Addr) (cA cB : Nat) (l : List Ev) (os : List LOp) (w : World) (h : EvAt w (.slice A l.length cA) l) (hl : l.length ≤ 9223372036854775807) (ho : LOps w B os) (hn : os.length ≤ 9223372036854775807) : Law Tryz.prog 5 #[.agg (jarr ⟨md, id, ev, lz⟩ first (.slice A l.length cA)), .slice B os.length cB] w := by
  by_cases hb : fewB ⟨md, id, ev, lz⟩ first l = false ∨ shortB os = false
  · exact lplazy_no ⟨md, id, ev, lz⟩ first A B cA cB l os w h hl ho hn hb
  · refine lplazy_ok md id ev lz first A B cA cB l os w h hl ho hn ?_ ?_
    · cases hf : fewB ⟨md, id, ev, lz⟩ first l
      · exact absurd (.inl hf) hb
      · rfl
    · cases hf : shortB os
      · exact absurd (.inr hf) hb
      · rfl
open Go.ChangeShapes Go.WideShapes Go.ChangeAt
set_option maxRecDepth 100000 in
theorem lpLazy_lifted (os : Os) (started : os.Started) (H : Type) (enc : TypeId × Value → H) :
    ReturnsInHanded {} Tryz.checked os 5 .any (Rows.lpLazySpec.pre6 enc Tryz.prog Tryz.f5 Rows.lpLazyRow.domain false) (Rows.lpLazySpec.post enc Tryz.prog Tryz.f5 false true false false) := by
  refine law_lifted (C := Tryz.checked) (tb := 4) (by kernel_rfl) (by kernel_rfl) started (by kernel_rfl) Tryz.func5 rfl ?_ rfl Tryz.underlying4 (by kernel_rfl)
    (ChangeSpec.witness6 (enc := enc) (C := Tryz.checked) false ⟨#[], #[.agg #[.int .i64 0, .int .i64 0, .int .i64 0, .int .i64 0, .int .i64 0, .int .i64 0, .int .i64 0, .bool false, .slice none 0 0], .slice none 0 0], []⟩ 12 (by kernel_rfl) (by kernel_rfl) (by kernel_rfl) (by kernel_rfl)) ?_
  · intro ds hds
    match ds, hds with
    | [e0, e1], _ => rfl
  · intro W base args ds p hval hA hreach
    rw [Tryz.params5] at hA hval hreach
    obtain ⟨v0, vs0, d0, ds0, p0, q0, hargs, rfl, rfl, h0, r0⟩ := trodAll_cons hA
    obtain ⟨v1, vs1, d1, ds1, p1, q1, rfl, rfl, rfl, h1, r1⟩ := trodAll_cons r0
    obtain ⟨rfl, rfl, rfl⟩ := trodAll_nil r1
    obtain rfl : args = #[v0, v1] := by cases args; simp_all
    obtain ⟨l0, rfl, hl0⟩ := arg_struct (n := 6) Tryz.underlying26 (by kernel_rfl) (hval 0 26 v0 rfl rfl) h0
    have hfl : flat Tryz.prog 6 26 = [3, 3, 3, 3, 3, 3, 3, 4, 24] := by kernel_rfl
    rw [hfl] at hl0; clear hfl
    obtain ⟨md, l1, e1, w_md, hl1⟩ := all2_int Tryz.underlying3 hl0
    obtain ⟨id, l2, e2, w_id, hl2⟩ := all2_int Tryz.underlying3 hl1
    obtain ⟨f0, l3, e3, w_f0, hl3⟩ := all2_int Tryz.underlying3 hl2
    obtain ⟨f1, l4, e4, w_f1, hl4⟩ := all2_int Tryz.underlying3 hl3
    obtain ⟨f2, l5, e5, w_f2, hl5⟩ := all2_int Tryz.underlying3 hl4
    obtain ⟨f3, l6, e6, w_f3, hl6⟩ := all2_int Tryz.underlying3 hl5
    obtain ⟨ev, l7, e7, w_ev, hl7⟩ := all2_int Tryz.underlying3 hl6
    obtain ⟨lz, l8, e8, hl8⟩ := all2_bool Tryz.underlying4 hl7
    obtain ⟨u_L, l9, e9, h_L, hl9⟩ := all2_cons hl8
    obtain rfl := all2_nil hl9
    subst e9 e8 e7 e6 e5 e4 e3 e2 e1
    clear hl9 hl8 hl7 hl6 hl5 hl4 hl3 hl2 hl1 hl0
    obtain ⟨A_o, n_o, c_o, rows_o, rfl, len_o, cap_o, max_o, leaf_o, at_o⟩ := arg_slice (n := 6) Tryz.underlying27 (by kernel_rfl) (by kernel_rfl) (by rw [show Tryz.prog.cellsOf 45 = 10 by kernel_rfl]; decide) (hval 1 27 v1 rfl rfl) h1
    rw [show flat Tryz.prog 6 45 = [3, 3, 3, 3, 3, 3, 3, 3, 3, 4] by kernel_rfl] at leaf_o
    rw [show Tryz.prog.cellsOf 45 = 10 by kernel_rfl] at at_o
    obtain ⟨A, n, cp, rows, rfl, hlen, hcap, hmax, hleaf, hat⟩ := leaf_slice (n := 6) Tryz.underlying24 (by kernel_rfl) (by kernel_rfl) (by rw [show Tryz.prog.cellsOf 41 = 7 by kernel_rfl]; decide) h_L
    rw [show flat Tryz.prog 6 41 = [3, 3, 3, 3, 3, 3, 3] by kernel_rfl] at hleaf
    rw [show Tryz.prog.cellsOf 41 = 7 by kernel_rfl] at hat
    obtain ⟨es, hes, hev⟩ := evs_arg hleaf hat
    have hn : es.length = n := hes.trans hlen
    subst hn
    obtain ⟨os, hos, ho⟩ := lops_arg leaf_o at_o
    have hm : os.length = n_o := hos.trans len_o
    subst hm
    exact lplazy_any md id ev lz ⟨f0, f1, f2, f3⟩ A A_o cp c_o es os W ⟨A, cp, rfl, hev⟩ (by unfold maxLen at hmax; omega) ho (by unfold maxLen at max_o; omega)

theorem lpLazy_holds : Rows.LpLazySaid :=
  OpenClaim.holds_of_wide 5 Tryz.f5 rfl rfl rfl rfl rfl rfl rfl ⟨rfl, rfl, rfl, rfl, rfl⟩ rfl rfl rfl rfl rfl (by kernel_rfl) Tryz.func5 (by kernel_rfl)
    (of_decide_eq_true (by kernel_rfl)) (by unfold Func.isWrapper; first | (rw [if_pos (by decide +kernel)]; kernel_rfl) | (rw [if_neg (by decide +kernel)]; exact ⟨rfl, rfl⟩))
    (fun os started H enc _ => lpLazy_lifted os started H enc)
end Go.Proofs.YthbcdkeammhakaaGreat
