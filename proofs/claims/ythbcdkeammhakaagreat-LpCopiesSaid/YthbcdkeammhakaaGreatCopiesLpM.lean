import Derived.Test.YthbcdkeammhakaaGreatP49
import Derived.Test.YthbcdkeammhakaaGreatP48
namespace Go.Proofs.YthbcdkeammhakaaGreat
open Go.RowKit
attribute [local go_sem ↓] Go.wp_at_zero Go.wp_at_succ RS.run_max
set_option maxRecDepth 100000 in
set_option maxHeartbeats 8000000 in
theorem lpcopies_no (c : LC) (first : St) (A B D : Option Addr) (cA cB cD : Nat) (l : List Ev) (os ms : List LOp) (w : World) (h : EvAt w (.slice A l.length cA) l) (hl : l.length ≤ 9223372036854775807) (ho : LOps w B os) (hn : os.length ≤ 9223372036854775807) (hO : LOps w D ms) (hN : ms.length ≤ 9223372036854775807) (hb : fewB c first l = false ∨ shortB os = false ∨ shortB ms = false) : Law Tryz.prog 8 #[.agg (jarr c first (.slice A l.length cA)), .slice B os.length cB, .slice D ms.length cD] w := by
  unfold Law
  have F0 : Fresh w (w.alloc (.cells (jarr c first (.slice A l.length cA)) 26)) := (Keep.refl _ w).alloc _
  have HF := Lib.hid (few_any c first A cA l _ (h.fresh F0) hl)
  have HS := Lib.hid (fun W (f : Fresh w W) => short_any B cB os W (ho.fresh f) hn)
  have HT := Lib.hid (fun W (f : Fresh w W) => short_any D cD ms W (hO.fresh f) hN)
  have FF := Lib.hid F0
  obtain ⟨b1, hb1⟩ : ∃ b1, fewB c first l = b1 := ⟨_, rfl⟩
  obtain ⟨b2, hb2⟩ : ∃ b2, shortB os = b2 := ⟨_, rfl⟩
  obtain ⟨b3, hb3⟩ : ∃ b3, shortB ms = b3 := ⟨_, rfl⟩
  have hbb : b1 = false ∨ b2 = false ∨ b3 = false := by
    rcases hb with h | h | h
    · exact .inl (hb1.symm.trans h)
    · exact .inr (.inl (hb2.symm.trans h))
    · exact .inr (.inr (hb3.symm.trans h))
  rw [hb1] at HF
  rw [hb2] at HS
  rw [hb3] at HT
  unfold jarr at HF FF ⊢
  clear h ho hO hb F0 hb1 hb2 hb3
  cases b1 <;> cases b2 <;> cases b3 <;> first
    | (simp at hbb; done)
    | (clear hbb
       go_enter Tryz.func8, Tryz.ntmps8
       go_wp2_with (first
         | (go_at_call 11; (with_reducible refine HF.out.mono ?_); rintro e w1 ⟨rfl, f1⟩; have F1 : Hid (Fresh w w1) := Lib.hid (FF.out.step f1 (fun _ _ h => h)); clear f1)
         | (go_at_call 12; (with_reducible refine (HS.out _ F1.out).mono ?_); rintro e w2 ⟨rfl, f2⟩; have F1 : Hid (Fresh w w2) := Lib.hid (F1.out.step f2 (fun _ _ h => h)); clear f2)
         | (go_at_call 12; (with_reducible refine (HT.out _ F1.out).mono ?_); rintro e w2 ⟨rfl, f2⟩; have F1 : Hid (Fresh w w2) := Lib.hid (F1.out.step f2 (fun _ _ h => h)); clear f2)
         | (go_at_call 13; (with_reducible refine (awake_any _).mono ?_); rintro e w3 ⟨rfl, f3⟩; have F3 : Hid (Fresh w w3) := Lib.hid (F1.out.step f3 (fun _ _ h => h)); clear f3))
       go_ret
       exact ⟨rfl, Fresh.below_ F3.out (Nat.le_refl _)⟩)
set_option maxRecDepth 100000 in
set_option maxHeartbeats 16000000 in
theorem lpcopies_ok (c : LC) (first : St) (A B D : Option Addr) (cA cB cD : Nat) (l : List Ev) (os ms : List LOp) (w : World) (h : EvAt w (.slice A l.length cA) l) (hl : l.length ≤ 9223372036854775807) (ho : LOps w B os) (hn : os.length ≤ 9223372036854775807) (hO : LOps w D ms) (hN : ms.length ≤ 9223372036854775807) (h1 : fewB c first l = true) (h2 : shortB os = true) (h3 : shortB ms = true) : Law Tryz.prog 8 #[.agg (jarr c first (.slice A l.length cA)), .slice B os.length cB, .slice D ms.length cD] w := by
  unfold Law
  have hff := few_facts h1
  have hl20 : l.length ≤ 1000 := by have := hff.2.2.1; omega
  have F0 : Fresh w (w.alloc (.cells (jarr c first (.slice A l.length cA)) 26)) := (Keep.refl _ w).alloc _
  have HB0 : Hid (Blk (w.alloc (.cells (jarr c first (.slice A l.length cA)) 26)) w.heap.size 26 (jarr c first (.slice A l.length cA))) := Lib.hid (Blk.new w _ _)
  have HF := Lib.hid (few_any c first A cA l _ (h.fresh F0) hl)
  have HS := Lib.hid (fun W (f : Fresh w W) => short_any B cB os W (ho.fresh f) hn)
  have HT := Lib.hid (fun W (f : Fresh w W) => short_any D cD ms W (hO.fresh f) hN)
  have HM1 : Hid (∀ W, Fresh w W → Calls Tryz.prog 14 #[.agg (jarr c first (.slice A l.length cA))] W (LMadeP c first l W)) := Lib.hid fun W f => made_any _ first A cA l W (h.fresh f) (by omega)
  have HNE : Hid (∀ W, Fresh w W → Calls Tryz.prog 21 #[.agg #[.int .i64 c.md], .int .i64 c.id, first.val, .bool c.lz, .slice A l.length cA] W fun e w' => (∃ v er, e = .returned (.tuple #[v, .int .i64 er])) ∧ Fresh W w') := Lib.hid fun W f => rnew_ever c first A cA l W (h.fresh f) hl20
  have HNW : Hid (madeE c.id c.every l = 0 → ∀ W, Fresh w W → Calls Tryz.prog 21 #[.agg #[.int .i64 c.md], .int .i64 c.id, first.val, .bool c.lz, .slice A l.length cA] W (RNewP c first l W)) := Lib.hid fun he W f => rnew_ok c first A cA l W (h.fresh f) hl20 (newE_zero (madeE_zero he).2.2.2)
  have HR1 : Hid (madeE c.id c.every l = 0 → RefP c first (newLp first (insAll l)) (newA (insAll l)) 0) := Lib.hid fun he => made_ref h1 he
  have HID : Hid (madeE c.id c.every l = 0 → ∀ e ∈ (newA (insAll l)).l, e.d = c.id) := Lib.hid fun he e hm => (newE_zero (madeE_zero he).2.2.2 e ((insAll_perm l).mem_iff.1 hm)).1
  have HO := Lib.hid (fun i o => lop_cells ho (i := i) (o := o))
  have HP := Lib.hid (fun i o => lop_cells hO (i := i) (o := o))
  have h60 : os.length ≤ 60 := by
    unfold shortB at h2
    rw [Bool.and_eq_true] at h2
    exact of_decide_eq_true h2.2
  have h61 : ms.length ≤ 60 := by
    unfold shortB at h3
    rw [Bool.and_eq_true] at h3
    exact of_decide_eq_true h3.2
  have H60 := Lib.hid h60
  have H61 := Lib.hid h61
  have HSM : Hid (∀ o ∈ os, SmE o.x) := Lib.hid fun o hm => by
    unfold shortB at h2
    rw [Bool.and_eq_true] at h2
    exact (smallB_iff o.x).1 (List.all_eq_true.1 h2.1 o hm)
  have HSN : Hid (∀ o ∈ ms, SmE o.x) := Lib.hid fun o hm => by
    unfold shortB at h3
    rw [Bool.and_eq_true] at h3
    exact (smallB_iff o.x).1 (List.all_eq_true.1 h3.1 o hm)
  have FF := Lib.hid F0
  rw [h1] at HF
  rw [h2] at HS
  rw [h3] at HT
  unfold jarr at HF FF HM1 HB0 ⊢
  unfold St.val at HNW HNE
  clear h ho hO h1 h2 h3 F0 hff
  go_enter Tryz.func8, Tryz.ntmps8
  go_wp2_with (first
    | (go_at_call 11; (with_reducible refine HF.out.mono ?_); rintro e w1 ⟨rfl, f1⟩; have F1 : Hid (Fresh w w1) := Lib.hid (FF.out.step f1 (fun _ _ h => h)); have B1 := Lib.hid (f1.blk_ HB0.out); clear f1)
    | (go_at_call 12; (with_reducible refine (HS.out _ F1.out).mono ?_); rintro e w2 ⟨rfl, f2⟩; have F2 : Hid (Fresh w w2) := Lib.hid (F1.out.step f2 (fun _ _ h => h)); have B2 := Lib.hid (f2.blk_ B1.out); clear f2)
    | (go_at_call 12; (with_reducible refine (HT.out _ F2.out).mono ?_); rintro e w9 ⟨rfl, f9⟩; have F9 : Hid (Fresh w w9) := Lib.hid (F2.out.step f9 (fun _ _ h => h)); have B9 := Lib.hid (f9.blk_ B2.out); have c9 := B9.out.cell; have r9 := B9.out.frozen; have l9 := B9.out.lt; clear f9))
  clear c9 r9 l9 HF HS HT B1 B2 HB0 F1 F2 FF
  refine (HM1.out _ F9.out).mono ?_
  rintro e w3 (⟨he1, y1, rfl, s3, f3, n3⟩ | ⟨he1, rfl, f3⟩)
  rotate_left
  · -- [a
    have F3 : Hid (Fresh w w3) := Lib.hid (F9.out.step f3 (fun _ _ h => h))
    have B3 := Lib.hid (f3.blk_ B9.out)
    have c3 := B3.out.cell
    have r3 := B3.out.frozen
    have l3 := B3.out.lt
    obtain ⟨er, her⟩ : ∃ er, madeE c.id c.every l = er := ⟨_, rfl⟩
    have u1 : (er != 0) = true := by rw [← her]; simpa using he1
    have u2 : (er == 0) = false := by rw [← her]; simpa using he1
    simp only [her]
    clear f3 B9 he1 her HM1 HR1 HNW F9
    go_wp2_with (first
      | (go_at_call 21; (with_reducible refine (HNE.out _ F3.out).mono ?_); rintro e w4 ⟨⟨v4, e4, rfl⟩, f4⟩; have F4 : Hid (Fresh w w4) := Lib.hid (F3.out.step f4 (fun _ _ h => h)); clear f4)
      | (go_at_call 13; (with_reducible refine (awake_any _).mono ?_); rintro e w9 ⟨rfl, f9⟩))
    go_ret
    exact ⟨rfl, Fresh.below_ (F4.out.step f9 (fun _ _ h => h)) (Nat.le_refl _)⟩
    -- a]
  have F3 : Hid (Fresh w w3) := Lib.hid (F9.out.step f3 (fun _ _ h => h))
  have B3 := Lib.hid (f3.blk_ B9.out)
  have S3 : Hid (SLP w3 c y1 (newLp first (insAll l)) ∧ RefP c first (newLp first (insAll l)) (newA (insAll l)) 0 ∧ NewP y1 w ∧ (∀ e ∈ (newA (insAll l)).l, e.d = c.id)) := Lib.hid ⟨s3, HR1.out he1, fun k hk => Nat.le_trans F9.out.size (n3 k hk), HID.out he1⟩
  have HNW := Lib.hid (HNW.out he1)
  have c3 := B3.out.cell
  have r3 := B3.out.frozen
  have l3 := B3.out.lt
  obtain ⟨g1, hg1⟩ : ∃ g1, y1.g = g1 := ⟨_, rfl⟩
  have HG1 := Lib.hid hg1
  rw [hg1]
  clear s3 f3 n3 B9 HM1 HR1 HNE HID he1 hg1 F9
  go_wp2_with fail
  refine (HNW.out _ F3.out).mono ?_
  rintro e w5 ⟨g, gi, go, v1, v2, L, rfl, r5, p5, f5, x5, d5, go5, bo5⟩
  obtain ⟨A0, z0, i5, hz0, hd0⟩ : ∃ A0 z0, CpyI w c first A0 0 0 A0 0 y1 z0 w5 ∧ z0.g = g ∧ ∀ e ∈ A0.l, e.d = c.id := ⟨_, _, CpyI.start S3.out.1 S3.out.2.1 F3.out S3.out.2.2.1 r5 p5 f5 x5 d5 go5 bo5, rfl, S3.out.2.2.2⟩
  have I5 := Lib.hid i5
  have HZ0 := Lib.hid hz0
  have HD0 := Lib.hid hd0
  clear i5 hz0 hd0 r5 p5 f5 x5 d5 go5 bo5 S3 c3 r3 l3 B3 F3 HNW
  go_wp2_with fail
  go_loopg [11] os.length (fun gk u11 wr => ∃ (i : Nat) (A : AM) (st : Int) (y : PV) (z : RZ), i ≤ os.length ∧ gk = os.length - i ∧ u11 = .int .i64 i ∧ CpyI w c first A i st A st y z wr ∧ y.g = g1 ∧ z.g = g ∧ ∀ e ∈ A.l, e.d = c.id)
  case atStart => exact ⟨0, A0, 0, y1, z0, by omega, rfl, rfl, I5.out, HG1.out, HZ0.out, HD0.out⟩
  case round =>
    clear I5 HG1 HZ0 HD0
    obtain ⟨i, A, st, y, z, hi, rfl, rfl, hI, hg1, hz1, hd1⟩ := hrel
    have HI := Lib.hid hI
    have HG1 := Lib.hid hg1
    have HZ1 := Lib.hid hz1
    have HD1 := Lib.hid hd1
    clear hI hg1 hz1 hd1
    by_cases hlt : i < os.length
    · -- [b
      obtain ⟨o, hoo⟩ : ∃ o, os[i]? = some o := ⟨_, List.getElem?_eq_getElem hlt⟩
      have HX := Lib.hid (HSM.out o (List.mem_of_getElem? hoo))
      obtain ⟨b, off, rfl, hce⟩ := HO.out i o hoo
      have HCELL := Lib.hid hce
      obtain ⟨c0, c1, c2, c3, c4, c5, c6, c7, c8, c9⟩ := HCELL.out wr HI.out.f
      have tq : decide ((i : Int) < (os.length : Int)) = true := decide_eq_true (by omega)
      have tq' : decide (i < os.length) = true := decide_eq_true hlt
      have q1 : (i : Int) < (os.length : Int) := by omega
      obtain ⟨p6, hp6, hr6, hs6⟩ := HI.out.o
      have hal := hr6.al
      have hql := hr6.ql
      obtain ⟨AA, hAA⟩ : ∃ AA, doA (cfg c first) A o.k o.b o.x o.an = AA := ⟨_, rfl⟩
      obtain ⟨sS, hsS⟩ : ∃ sS, doS A o.k st = sS := ⟨_, rfl⟩
      have HC1 := scalls_any hp6 hr6 (by omega) o HX.out (st := sS) (by rw [hs6]; exact hsS)
      have HAS := fun W (hW : RD W c first z A st) => asked_any hW hr6.inv (by omega) (by omega) HD1.out hr6.good.cid hr6.good.md hr6.okf o HX.out
      have HD2 : Hid (∀ e ∈ AA.A.l, e.d = c.id) := Lib.hid (by rw [← hAA]; exact do_id hr6.inv.sl HD1.out o.k o.b o.x o.an)
      rw [hAA] at HC1
      rw [hAA, hsS] at HAS
      rw [HG1.out] at HC1
      rw [HZ1.out] at HAS
      have HC1 := Lib.hid HC1
      have HAS := Lib.hid HAS
      unfold LOp.arr at HC1 HAS
      clear hce hoo hp6 hr6 hs6 hal hql hAA hsS p6
      go_wp2_with (first
        | (go_at_call 15; (with_reducible refine HC1.out.mono ?_); rintro e w6 ⟨va, vb, rfl, _, _, y6, p6, s6, t6, x6, r6, st6⟩; have I6 : Hid (CpyI w c first AA.A (i + 1) sS A st y6 z w6) := Lib.hid (HI.out.turn t6 ⟨p6, s6, r6, st6⟩); have G6 : Hid (y6.g = g1) := Lib.hid (t6.g.trans HG1.out); clear s6 t6 x6 r6 st6 c0 c1 c2 c3 c4 c5 c6 c7 c8 c9; obtain ⟨c0, c1, c2, c3, c4, c5, c6, c7, c8, c9⟩ := HCELL.out w6 I6.out.f)
        | (go_at_call 37; (with_reducible refine (HAS.out _ I6.out.r).mono ?_); rintro e w7 ⟨⟨v7, rfl⟩, d7⟩; have D7 := Lib.hid (I6.out.ask d7); clear d7))
      obtain ⟨z7, gz7, i7⟩ := D7.out
      go_roundg (os.length - (i + 1))
      case measure => omega
      case rel => exact ⟨i + 1, AA.A, sS, y6, z7, by omega, rfl, by go_num, i7, G6.out, gz7.trans HZ1.out, HD2.out⟩
      -- b]
    · obtain rfl : i = os.length := by omega
      have tq : decide ((os.length : Int) < (os.length : Int)) = false := decide_eq_false (by omega)
      obtain ⟨p6, hp6, hr6, hs6⟩ := HI.out.o
      obtain ⟨b1, b2, b3, b4, b5⟩ := hr6.bounds (by omega)
      have HCP := lcopy_any c y p6 wr hp6 (by omega) (by omega) (by omega) b4 (by omega)
      rw [HG1.out] at HCP
      have HCP := Lib.hid HCP
      have HCO : Hid (∀ y2 w', SLP w' c y2 p6 → Fresh wr w' → NewP y2 wr → CpyJ w c first os.length A os.length st y y2 z w') := Lib.hid fun y2 w' s f n => HI.out.copied f n ⟨p6, s, hr6, hs6⟩
      have HSA : Hid (∀ y' y2 m W, CpyJ w c first m A os.length st y' y2 z W → Calls Tryz.prog 38 #[.pointer (some ⟨y2.g, 0, none⟩), .pointer (some ⟨g, 0, none⟩)] W fun e w' => e = .returned (.bool true) ∧ Fresh W w') := Lib.hid fun y' y2 m W hJ => by
        obtain ⟨q, h1, h2, h3⟩ := hJ.q
        have hh := same_any h1 h2 H60.out h3 hJ.r
        rw [HZ1.out] at hh
        exact hh
      unfold LCopyP at HCP
      clear hp6 hr6 hs6 b1 b2 b3 b4 b5 HI HD1
      go_upto_region 13 with (go_at_call 33; (with_reducible refine HCP.out.mono ?_); rintro e w8 ⟨y2, rfl, s8, f8, n8⟩; have J8 := Lib.hid (HCO.out y2 w8 s8 f8 n8); clear s8 f8 n8)
      obtain ⟨g2, hg2⟩ : ∃ g2, y2.g = g2 := ⟨_, rfl⟩
      have HSA2 : Hid (∀ y' m W, CpyJ w c first m A os.length st y' y2 z W → Calls Tryz.prog 38 #[.pointer (some ⟨g2, 0, none⟩), .pointer (some ⟨g, 0, none⟩)] W fun e w' => e = .returned (.bool true) ∧ Fresh W w') := Lib.hid (hg2 ▸ fun y' m W hJ => HSA.out y' y2 m W hJ)
      rw [hg2]
      clear hg2 HCO HSA HCP
      go_wp2_with (go_at_call 38; (with_reducible refine (HSA2.out _ _ _ J8.out).mono ?_); rintro e w9 ⟨rfl, f9⟩; have J9 := Lib.hid (J8.out.fresh f9); clear f9)
      go_loopg [13] ms.length (fun gk u13 wr => ∃ (j : Nat) (y' : PV), j ≤ ms.length ∧ gk = ms.length - j ∧ u13 = .int .i64 j ∧ CpyJ w c first (os.length + j) A os.length st y' y2 z wr ∧ y'.g = g1)
      case atStart => exact ⟨0, y, by omega, rfl, rfl, J9.out, HG1.out⟩
      case round =>
      clear J8 J9 HG1
      obtain ⟨j, y', hj, rfl, rfl, hJ, hg1⟩ := hrel
      have HJ := Lib.hid hJ
      have HG1 := Lib.hid hg1
      clear hJ hg1
      by_cases hjl : j < ms.length
      · -- [c
        obtain ⟨o, hoo⟩ : ∃ o, ms[j]? = some o := ⟨_, List.getElem?_eq_getElem hjl⟩
        have HX := Lib.hid (HSN.out o (List.mem_of_getElem? hoo))
        obtain ⟨b, off, rfl, hce⟩ := HP.out j o hoo
        obtain ⟨c0, c1, c2, c3, c4, c5, c6, c7, c8, c9⟩ := hce _ HJ.out.f
        have tk : decide ((j : Int) < (ms.length : Int)) = true := decide_eq_true (by omega)
        have tk' : decide (j < ms.length) = true := decide_eq_true hjl
        have qk : (j : Int) < (ms.length : Int) := by omega
        obtain ⟨p6, B6, hp6, hr6⟩ := HJ.out.o
        have HC1 := Wide.calls_any hp6 hr6 (by omega) o HX.out
        rw [HG1.out] at HC1
        have HC1 := Lib.hid HC1
        unfold LOp.arr at HC1
        clear hce hoo hp6 hr6 p6
        go_wp2_with (go_at_call 15; (with_reducible refine HC1.out.mono ?_); rintro e w10 ⟨va, vb, rfl, _, _, y10, p10, s10, t10, x10, r10⟩; have J10 : Hid (CpyJ w c first (os.length + (j + 1)) A os.length st y10 y2 z w10) := Lib.hid (HJ.out.turn t10 ⟨p10, _, s10, r10⟩); have G10 : Hid (y10.g = g1) := Lib.hid (t10.g.trans HG1.out); clear s10 t10 x10 r10)
        go_roundg (ms.length - (j + 1))
        case measure => omega
        case rel => exact ⟨j + 1, y10, by omega, rfl, by go_num, J10.out, G10.out⟩
        -- c]
      · obtain rfl : j = ms.length := by omega
        have tk : decide ((ms.length : Int) < (ms.length : Int)) = false := decide_eq_false (by omega)
        go_wp2_with (first
          | (go_at_call 38; (with_reducible refine (HSA2.out _ _ _ HJ.out).mono ?_); rintro e w9 ⟨rfl, f9⟩; have J9 := Lib.hid (HJ.out.fresh f9); clear f9)
          | (go_at_call 13; (with_reducible refine (awake_any _).mono ?_); rintro e w11 ⟨rfl, f11⟩; have F11 : Hid (Fresh w w11) := Lib.hid (J9.out.f.step f11 (fun _ _ h => h)); clear f11))
        go_ret
        exact ⟨rfl, Fresh.below_ F11.out (Nat.le_refl _)⟩
theorem lpcopies_any (c : LC) (first : St) (A B D : Option Addr) (cA cB cD : Nat) (l : List Ev) (os ms : List LOp) (w : World) (h : EvAt w (.slice A l.length cA) l) (hl : l.length ≤ 9223372036854775807) (ho : LOps w B os) (hn : os.length ≤ 9223372036854775807) (hO : LOps w D ms) (hN : ms.length ≤ 9223372036854775807) : Law Tryz.prog 8 #[.agg (jarr c first (.slice A l.length cA)), .slice B os.length cB, .slice D ms.length cD] w := by
  by_cases hb : fewB c first l = false ∨ shortB os = false ∨ shortB ms = false
  · exact lpcopies_no c first A B D cA cB cD l os ms w h hl ho hn hO hN hb
  · refine lpcopies_ok c first A B D cA cB cD l os ms w h hl ho hn hO hN ?_ ?_ ?_
    · cases hf : fewB c first l
      · exact absurd (.inl hf) hb
      · rfl
    · cases hf : shortB os
      · exact absurd (.inr (.inl hf)) hb
      · rfl
    · cases hf : shortB ms
      · exact absurd (.inr (.inr hf)) hb
      · rfl
open Go.ChangeShapes Go.WideShapes Go.ChangeAt
set_option maxRecDepth 100000 in
theorem lpCopies_lifted (os : Os) (started : os.Started) (H : Type) (enc : TypeId × Value → H) :
    ReturnsInHanded {} Tryz.checked os 8 .any (Rows.lpCopiesSpec.pre6 enc Tryz.prog Tryz.f8 Rows.lpCopiesRow.domain false) (Rows.lpCopiesSpec.post enc Tryz.prog Tryz.f8 false true false false) := by
  refine law_lifted (C := Tryz.checked) (tb := 4) (by kernel_rfl) (by kernel_rfl) started (by kernel_rfl) Tryz.func8 rfl ?_ rfl Tryz.underlying4 (by kernel_rfl)
    (ChangeSpec.witness6 (enc := enc) (C := Tryz.checked) false ⟨#[], #[.agg #[.int .i64 0, .int .i64 0, .int .i64 0, .int .i64 0, .int .i64 0, .int .i64 0, .int .i64 0, .bool false, .slice none 0 0], .slice none 0 0, .slice none 0 0], []⟩ 12 (by kernel_rfl) (by kernel_rfl) (by kernel_rfl) (by kernel_rfl)) ?_
  · intro ds hds
    match ds, hds with
    | [e0, e1, e2], _ => rfl
  · intro W base args ds p hval hA hreach
    rw [Tryz.params8] at hA hval hreach
    obtain ⟨v0, vs0, d0, ds0, p0, q0, hargs, rfl, rfl, h0, r0⟩ := trodAll_cons hA
    obtain ⟨v1, vs1, d1, ds1, p1, q1, rfl, rfl, rfl, h1, r1⟩ := trodAll_cons r0
    obtain ⟨v2, vs2, d2, ds2, p2, q2, rfl, rfl, rfl, h2, r2⟩ := trodAll_cons r1
    obtain ⟨rfl, rfl, rfl⟩ := trodAll_nil r2
    obtain rfl : args = #[v0, v1, v2] := by cases args; simp_all
    obtain ⟨l0, rfl, hl0⟩ := arg_struct (n := 6) Tryz.underlying26 (by kernel_rfl) (hval 0 26 v0 rfl rfl) h0
    have hfl : flat Tryz.prog 6 26 = [3, 3, 3, 3, 3, 3, 3, 4, 24] := by kernel_rfl
    rw [hfl] at hl0; clear hfl
    obtain ⟨md, l1, e1, w_md, hl1⟩ := all2_int Tryz.underlying3 hl0
    obtain ⟨id, l2, e2, w_id, hl2⟩ := all2_int Tryz.underlying3 hl1
    obtain ⟨f0, l3, e3, w_f0, hl3⟩ := all2_int Tryz.underlying3 hl2
    obtain ⟨f1, l4, e4, w_f1, hl4⟩ := all2_int Tryz.underlying3 hl3
    obtain ⟨f2, l5, e5, w_f2, hl5⟩ := all2_int Tryz.underlying3 hl4
    obtain ⟨f3, l6, e6, w_f3, hl6⟩ := all2_int Tryz.underlying3 hl5
    obtain ⟨ev, l7, e7, w_ev, hl7⟩ := all2_int Tryz.underlying3 hl6
    obtain ⟨lz, l8, e8, hl8⟩ := all2_bool Tryz.underlying4 hl7
    obtain ⟨u_L, l9, e9, h_L, hl9⟩ := all2_cons hl8
    obtain rfl := all2_nil hl9
    subst e9 e8 e7 e6 e5 e4 e3 e2 e1
    clear hl9 hl8 hl7 hl6 hl5 hl4 hl3 hl2 hl1 hl0
    obtain ⟨A_o, n_o, c_o, rows_o, rfl, len_o, cap_o, max_o, leaf_o, at_o⟩ := arg_slice (n := 6) Tryz.underlying27 (by kernel_rfl) (by kernel_rfl) (by rw [show Tryz.prog.cellsOf 45 = 10 by kernel_rfl]; decide) (hval 1 27 v1 rfl rfl) h1
    rw [show flat Tryz.prog 6 45 = [3, 3, 3, 3, 3, 3, 3, 3, 3, 4] by kernel_rfl] at leaf_o
    rw [show Tryz.prog.cellsOf 45 = 10 by kernel_rfl] at at_o
    obtain ⟨A_m, n_m, c_m, rows_m, rfl, len_m, cap_m, max_m, leaf_m, at_m⟩ := arg_slice (n := 6) Tryz.underlying27 (by kernel_rfl) (by kernel_rfl) (by rw [show Tryz.prog.cellsOf 45 = 10 by kernel_rfl]; decide) (hval 2 27 v2 rfl rfl) h2
    rw [show flat Tryz.prog 6 45 = [3, 3, 3, 3, 3, 3, 3, 3, 3, 4] by kernel_rfl] at leaf_m
    rw [show Tryz.prog.cellsOf 45 = 10 by kernel_rfl] at at_m
    obtain ⟨A, n, cp, rows, rfl, hlen, hcap, hmax, hleaf, hat⟩ := leaf_slice (n := 6) Tryz.underlying24 (by kernel_rfl) (by kernel_rfl) (by rw [show Tryz.prog.cellsOf 41 = 7 by kernel_rfl]; decide) h_L
    rw [show flat Tryz.prog 6 41 = [3, 3, 3, 3, 3, 3, 3] by kernel_rfl] at hleaf
    rw [show Tryz.prog.cellsOf 41 = 7 by kernel_rfl] at hat
    obtain ⟨es, hes, hev⟩ := evs_arg hleaf hat
    have hn : es.length = n := hes.trans hlen
    subst hn
    obtain ⟨os, hos, ho⟩ := lops_arg leaf_o at_o
    have hm : os.length = n_o := hos.trans len_o
    subst hm
    obtain ⟨ms, hms, hO⟩ := lops_arg leaf_m at_m
    have hm : ms.length = n_m := hms.trans len_m
    subst hm
    exact lpcopies_any ⟨md, id, ev, lz⟩ ⟨f0, f1, f2, f3⟩ A A_o A_m cp c_o c_m es os ms W ⟨A, cp, rfl, hev⟩ (by unfold maxLen at hmax; omega) ho (by unfold maxLen at max_o; omega) hO (by unfold maxLen at max_m; omega)

theorem lpCopies_holds : Rows.LpCopiesSaid :=
  OpenClaim.holds_of_wide 8 Tryz.f8 rfl rfl rfl rfl rfl rfl rfl ⟨rfl, rfl, rfl, rfl, rfl⟩ rfl rfl rfl rfl rfl (by kernel_rfl) Tryz.func8 (by kernel_rfl)
    (of_decide_eq_true (by kernel_rfl)) (by unfold Func.isWrapper; first | (rw [if_pos (by decide +kernel)]; kernel_rfl) | (rw [if_neg (by decide +kernel)]; exact ⟨rfl, rfl⟩))
    (fun os started H enc _ => lpCopies_lifted os started H enc)
end Go.Proofs.YthbcdkeammhakaaGreat
