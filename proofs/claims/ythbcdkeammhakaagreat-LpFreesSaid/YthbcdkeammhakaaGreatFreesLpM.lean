/- LpFrees returns true at every input: it does not count in how many parts a process forgets. No conditions. -/
import Derived.Test.YthbcdkeammhakaaGreatM26
import Derived.Deep.DeepCutAuto
namespace Go.Proofs.YthbcdkeammhakaaGreat
open Go.RowKit
attribute [local go_sem] eq4w run_neq_count
attribute [local go_sem ↓] Go.wp_at_zero Go.wp_at_succ RS.run_max RS.run_min
theorem lop_one (w : World) (o : LOp) : LOps (w.alloc (.cells o.arr 45)) (some ⟨w.heap.size, 0, none⟩) [o] := by
  intro i o' ho
  cases i with
  | zero =>
    injection ho with ho
    subst ho
    refine ⟨_, 0, rfl, (Blk.new w _ _).lt, fun j u hu => ?_⟩
    rw [show 0 + 0 * 10 + j = j by omega]
    exact (Blk.new w 45 o.arr).cell_ j hu
  | succ i => cases ho
section
variable {c : LC} {first : St} {p1 p2 : LPs} {A1 A2 : AM} {n1 n2 : Nat} {w0 w w' : World} {y1 y2 y1' : PV} {S : Nat → Prop}
theorem TwoS.keepK (h : TwoS c first p1 A1 n1 p2 A2 n2 w0 y1 y2 w) (k : Keep S w w') (hS : ∀ i, S i → w0.heap.size ≤ i ∧ ¬ lfoot y1 i ∧ ¬ lfoot y2 i) : TwoS c first p1 A1 n1 p2 A2 n2 w0 y1 y2 w' :=
  ⟨h.s1.kept k (fun i h3 h4 => (hS i h4).2.1 h3), h.r1, h.s2.kept k (fun i h3 h4 => (hS i h4).2.2 h3), h.r2, h.f.step k (fun i hi hs => by have := (hS i hs).1; omega), h.x1, h.x2, h.d⟩
/-- blocks of a slice that lie apart of both -/
def OffV (v : Value) (y : PV) : Prop := ∀ k, v.ownBlock = some k → ¬ lfoot y k
theorem OffV.turn {v : Value} {T : TypeId} {size n : Nat} {xs : List Value} (h : OffV v y1) (o : OwnS w T size v n xs) (t : LTurn w w' y1 y1') : OffV v y1' := fun k hk hf => by
  rcases t.later k hf with h1 | h1
  · exact h k hk h1
  · have := o.lt hk; omega
end
set_option maxRecDepth 100000 in
set_option maxHeartbeats 16000000 in
theorem lpfrees_any (c : LC) (first : St) (A B : Option Addr) (cA cB : Nat) (l : List Ev) (os : List LOp) (o : LOp) (w : World) (h : EvAt w (.slice A l.length cA) l) (hl : l.length ≤ 9223372036854775807) (ho : LOps w B os) (hn : os.length ≤ 9223372036854775807) : Law Tryz.prog 7 #[.agg (jarr c first (.slice A l.length cA)), .slice B os.length cB, .agg o.arr] w := by
  unfold Law
  have F0 : Fresh w ((w.alloc (.cells (jarr c first (.slice A l.length cA)) 26)).alloc (.cells o.arr 45)) := ((Keep.refl _ w).alloc _).alloc _
  have HBO : Blk ((w.alloc (.cells (jarr c first (.slice A l.length cA)) 26)).alloc (.cells o.arr 45)) (w.heap.size + 1) 45 o.arr := Blk.at_new (by simp) _ _
  have HE := Lib.hid (early_any c first A B cA cB l os _ (h.fresh F0) hl (ho.fresh F0) hn)
  have HSH := Lib.hid (fun (W : World) => short_any (some ⟨W.heap.size, 0, none⟩) 1 [o] _ (lop_one W o) (by simp))
  have HSM : Hid (shortB [o] = true → SmE o.x) := Lib.hid fun hs => by
    unfold shortB at hs
    rw [Bool.and_eq_true] at hs
    exact (smallB_iff o.x).1 (by simpa using hs.1)
  have FF := Lib.hid F0
  obtain ⟨sb, hsb⟩ : ∃ sb, shortB [o] = sb := ⟨_, rfl⟩
  rw [hsb] at HSH HSM
  obtain ⟨k, b, ⟨a, s, t, n', d, kk, x⟩, an⟩ := o
  have HA : LOp.arr ⟨k, b, ⟨a, s, t, n', d, kk, x⟩, an⟩ = #[.int .i64 k, .int .i64 b, .int .i64 a, .int .i64 s, .int .i64 t, .int .i64 n', .int .i64 d, .int .i64 kk, .int .i64 x, .bool an] := rfl
  rw [HA] at HE FF HBO HSH ⊢
  simp only [List.length_singleton] at HSH
  unfold jarr at HE FF HBO ⊢
  have BO := Lib.hid HBO
  clear h ho F0 hl hn HA HBO hsb
  go_enter Tryz.func7, Tryz.ntmps7
  go_wp2_with fail
  obtain ⟨WB, hWB⟩ : ∃ WB, ((w.alloc (.cells #[.int .i64 c.md, .int .i64 c.id, .int .i64 first.s0, .int .i64 first.s1, .int .i64 first.s2, .int .i64 first.s3, .int .i64 c.every, .bool c.lz, .slice A l.length cA] 26)).alloc (.cells #[.int .i64 k, .int .i64 b, .int .i64 a, .int .i64 s, .int .i64 t, .int .i64 n', .int .i64 d, .int .i64 kk, .int .i64 x, .bool an] 45)) = WB := ⟨_, rfl⟩
  rw [hWB] at HE FF BO ⊢
  clear hWB
  refine HE.out.mono ?_
  rintro e w1 (⟨rfl, f1⟩ | ⟨y, A1, rfl, o1, ea, hm⟩)
  · have F1 : Hid (Fresh w w1) := Lib.hid (FF.out.step f1 (fun _ _ h => h))
    clear f1 HE FF
    go_wp2_with (go_at_call 13; (with_reducible refine (awake_any _).mono ?_); rintro e w3 ⟨rfl, f3⟩; have F3 : Hid (Fresh w w3) := Lib.hid (F1.out.step f3 (fun _ _ h => h)); clear f3)
    go_ret
    exact ⟨rfl, Fresh.below_ F3.out (Nat.le_refl _)⟩
  have O1 := Lib.hid o1
  have HM := Lib.hid hm
  have B1 := Lib.hid (o1.f.blk_ BO.out)
  have c1 := B1.out.cell
  have r1 := B1.out.frozen
  have l1 := B1.out.lt
  obtain ⟨g1, hg1⟩ : ∃ g1, y.g = g1 := ⟨_, rfl⟩
  have HG1 := Lib.hid hg1
  have HS1 := Lib.hid (HSH.out w1)
  rw [hg1]
  clear o1 ea hm hg1 HE HSH
  cases sb with
  | false =>
    go_wp2_with (first
      | (go_at_call 12; (with_reducible refine HS1.out.mono ?_); rintro e w2 ⟨rfl, f2⟩; have F2 : Hid (Fresh w1 w2) := Lib.hid (((Keep.refl (fun _ => False) w1).alloc _).step f2 (fun _ _ h => h)); clear f2 c1 r1 l1)
      | (go_at_call 13; (with_reducible refine (awake_any _).mono ?_); rintro e w3 ⟨rfl, f3⟩; have F3 : Hid (Fresh w1 w3) := Lib.hid (F2.out.step f3 (fun _ _ h => h)); clear f3))
    go_ret
    exact ⟨rfl, Fresh.below_ (FF.out.step (O1.out.f.step F3.out (fun _ _ h => h)) (fun _ _ h => h)) (Nat.le_refl _)⟩
  | true =>
    have HSX : Hid (SmE ⟨a, s, t, n', d, kk, x⟩) := Lib.hid (HSM.out rfl)
    clear HSM
    go_upto_region 4 with (go_at_call 12; (with_reducible refine HS1.out.mono ?_); rintro e w2 ⟨rfl, f2⟩; have F2 : Hid (Fresh w1 w2) := Lib.hid (((Keep.refl (fun _ => False) w1).alloc _).step f2 (fun _ _ h => h)); clear f2 c1 r1 l1)
    have O2 := Lib.hid (O1.out.fresh F2.out)
    have H62 : Hid (os.length ≤ 62) := Lib.hid (by have := HM.out; omega)
    have HEN := O2.out.ends HG1.out H62.out
    obtain ⟨p2, hp2, hr2⟩ := O2.out.r
    have EI := end_inv hr2.laws hr2.okf hr2.inv
    obtain ⟨⟨Z, MZ⟩, hZ⟩ : ∃ a, endA (cfg c first) A1 = a := ⟨_, rfl⟩
    rw [hZ] at HEN EI
    have HEN := Lib.hid HEN
    have HNX : Hid (nx Z.l Z.now = none) := Lib.hid EI.2.1
    have HUN : Hid (∀ x, (x, false) ∉ Z.q) := Lib.hid EI.2.2
    clear hp2 hr2 EI hZ p2 O1 HS1
    go_upto_region 7 with (go_at_call 31; (with_reducible refine HEN.out.mono ?_); rintro e w3 ⟨va3, rfl, m3, y3, p3, s3, t3, r3⟩; have O3 : Hid (OwnP c first Z os.length WB y3 w3) := Lib.hid (O2.out.turn t3 ⟨p3, s3, r3⟩); have S3 := Lib.hid s3; have R3 : Hid (RefP c first p3 Z os.length) := Lib.hid r3; have L3 := Lib.hid t3; clear m3 s3 t3 r3)
    have G3 : Hid (y3.g = g1) := Lib.hid (L3.out.g.trans HG1.out)
    have HLZ : Hid (leastA Z = 1073741825) := Lib.hid (end_least HUN.out HNX.out)
    obtain ⟨b1, b2, b3, b4, b5⟩ := R3.out.bounds H62.out
    have HCP := lcopy_any c y3 p3 w3 S3.out (by omega) (by omega) (by omega) b4 (by omega)
    rw [G3.out] at HCP
    have HCP := Lib.hid HCP
    clear HEN O2 F2 B1 L3 HG1 b1 b2 b3 b4 b5
    go_upto_region 10 with (go_at_call 33; (with_reducible refine HCP.out.mono ?_); rintro e w4 ⟨y4, rfl, s4, f4, n4⟩; have T4 : Hid (TwoS c first p3 Z os.length p3 Z os.length WB y3 y4 w4) := Lib.hid ⟨S3.out.fresh f4, R3.out, s4, R3.out, O3.out.f.step f4 (fun _ _ h => h), O3.out.x, fun k hk => Nat.le_trans O3.out.f.size (n4 k hk), fun k h3 h4 => by have := S3.out.lt k h3; have := n4 k h4; omega⟩; clear s4 f4 n4)
    have B4 := Lib.hid (T4.out.f.blk_ BO.out)
    have c4 := B4.out.cell
    have r4 := B4.out.frozen
    have l4 := B4.out.lt
    obtain ⟨g2, hg2⟩ : ∃ g2, y4.g = g2 := ⟨_, rfl⟩
    have G4 := Lib.hid hg2
    rw [hg2]
    have hle : min b t ≤ max b t := by omega
    obtain ⟨LT, hLT⟩ : ∃ LT, max b t = LT := ⟨_, rfl⟩
    obtain ⟨ET, hET⟩ : ∃ ET, min b t = ET := ⟨_, rfl⟩
    rw [hLT, hET] at hle
    have HLE := Lib.hid hle
    clear hg2 hle HCP S3 O3
    go_upto_region 11 with fail
    have HLS : Hid (∀ W, Fresh w4 W → Calls Tryz.prog 20 #[.pointer (some ⟨g1, 0, none⟩)] W fun e w' => e = .returned (.int .i64 1073741825) ∧ Fresh w4 w') := Lib.hid fun W f => by
      have h := ref_least (T4.out.s1.fresh f) T4.out.r1 H62.out
      rw [G3.out, HLZ.out] at h
      exact h.mono fun e w' hh => ⟨hh.1, f.step hh.2 (fun _ _ h => h)⟩
    have KF : Hid (Fresh w4 w4) := Lib.hid (Keep.refl _ _)
    clear c4 r4 l4
    by_cases hlt : 1073741825 < LT
    · have t1 : decide (1073741825 < LT) = true := decide_eq_true hlt
      go_wp2_with (first
        | (go_at_call 20; (with_reducible refine (HLS.out _ KF.out).mono ?_); rintro e z ⟨rfl, gz⟩; have KF := Lib.hid gz; clear gz)
        | (go_at_call 13; (with_reducible refine (awake_any _).mono ?_); rintro e z ⟨rfl, gz⟩; have KF : Hid (Fresh w4 z) := Lib.hid (KF.out.step gz (fun _ _ h => h)); clear gz))
      go_ret
      exact ⟨rfl, Fresh.below_ (FF.out.step (T4.out.f.step KF.out (fun _ _ h => h)) (fun _ _ h => h)) (Nat.le_refl _)⟩
    have t1 : decide (1073741825 < LT) = false := decide_eq_false hlt
    have HL1 : Hid (ET ≤ leastA Z) := Lib.hid (by have := HLE.out; have := HLZ.out; omega)
    have HL2 : Hid (LT ≤ leastA Z) := Lib.hid (by have := HLZ.out; omega)
    have HL3 : Hid (LT ≤ leastA (freX Z ET)) := Lib.hid (by have := freX_least HLZ.out HUN.out HNX.out ET; omega)
    have FT := Lib.hid (freX_two R3.out HLE.out HL1.out HL2.out HL3.out)
    have FE := Lib.hid (freX_E R3.out HLE.out HL1.out HL2.out HL3.out)
    go_upto_region 13 with (go_at_call 20; (with_reducible refine (HLS.out _ KF.out).mono ?_); rintro e w5 ⟨rfl, gz⟩; have F5 : Hid (Fresh w4 w5) := Lib.hid gz; clear gz)
    have T5 := Lib.hid (T4.out.fresh F5.out)
    have B5 := Lib.hid (T5.out.f.blk_ BO.out)
    have c5 := B5.out.cell
    have r5 := B5.out.frozen
    have l5 := B5.out.lt
    have HF1 := ref_freeX T5.out.s1 T5.out.r1 H62.out HL1.out
    rw [G3.out] at HF1
    have HF1 := Lib.hid HF1
    obtain ⟨E1, hE1⟩ : ∃ E1, (freA Z ET).E = E1 := ⟨_, rfl⟩
    obtain ⟨E2, hE2⟩ : ∃ E2, (freA (freX Z ET) LT).E = E2 := ⟨_, rfl⟩
    obtain ⟨E3, hE3⟩ : ∃ E3, (freA Z LT).E = E3 := ⟨_, rfl⟩
    have HEL : Hid (E1.length ≤ 82 ∧ E2.length ≤ 82 ∧ E3.length ≤ 82) := Lib.hid (by
      have h1 := R3.out.al
      have h2 := HM.out
      have h3 : ∀ (A : AM) (b : Int), (freA A b).E.length ≤ A.l.length := fun A b => by
        unfold freA
        split
        · simp
        · split
          · simp
          · exact List.length_filter_le _ _
      have h4 := h3 Z ET
      have h5 := h3 (freX Z ET) LT
      have h6 := h3 Z LT
      have h7 : (freX Z ET).l = Z.l := by unfold freX; split <;> rfl
      rw [hE1] at h4
      rw [hE2, h7] at h5
      rw [hE3] at h6
      omega)
    rw [hE1, hE2, hE3] at FE
    rw [hE1] at HF1
    clear T4 B4 F5 KF HLS t1 hlt hE1
    go_upto_region 14 with (go_at_call 34; (with_reducible refine HF1.out.mono ?_); rintro e w6 ⟨va6, rfl, ⟨o6, n6⟩, y6, s6, t6, x6⟩; have T6 : Hid (TwoS c first (freeX p3 ET) (freX Z ET) os.length p3 Z os.length WB y6 y4 w6) := Lib.hid (T5.out.turn1 t6 s6 (freX_ref R3.out HL1.out)); have V6 := Lib.hid o6; have N6 := Lib.hid n6; have L6 := Lib.hid t6; have X6 : Hid (OffV va6 y6) := Lib.hid x6; clear o6 n6 s6 t6 x6 c5 r5 l5)
    have G6 : Hid (y6.g = g1) := Lib.hid (L6.out.g.trans G3.out)
    have X64 : Hid (OffV va6 y4) := Lib.hid (fun k hk hf => by have := N6.out k hk; have := T5.out.s2.lt k hf; omega)
    have NB6 : Hid (∀ k, va6.ownBlock = some k → WB.heap.size ≤ k) := Lib.hid (fun k hk => Nat.le_trans T5.out.f.size (N6.out k hk))
    have HF2 := ref_freeX T6.out.s1 T6.out.r1 H62.out HL3.out
    rw [G6.out, hE2] at HF2
    have HF2 := Lib.hid HF2
    clear B5 HF1 T5 L6 N6 hE2
    go_upto_region 15 with (go_at_call 34; (with_reducible refine HF2.out.mono ?_); rintro e w7 ⟨va7, rfl, ⟨o7, n7⟩, y7, s7, t7, x7⟩; have T7 : Hid (TwoS c first (freeX (freeX p3 ET) LT) (freX (freX Z ET) LT) os.length p3 Z os.length WB y7 y4 w7) := Lib.hid (T6.out.turn1 t7 s7 (freX_ref T6.out.r1 HL3.out)); have V7 := Lib.hid o7; have N7 := Lib.hid n7; have L7 := Lib.hid t7; have X7 : Hid (OffV va7 y7) := Lib.hid x7; clear o7 n7 s7 t7 x7)
    have G7 : Hid (y7.g = g1) := Lib.hid (L7.out.g.trans G6.out)
    have V67 := Lib.hid (V6.out.kept L7.out.keep X6.out)
    have X67 : Hid (OffV va6 y7) := Lib.hid (X6.out.turn V6.out L7.out)
    have X74 : Hid (OffV va7 y4) := Lib.hid (fun k hk hf => by have := N7.out k hk; have := T6.out.s2.lt k hf; omega)
    have D67 : Hid (∀ k, va6.ownBlock = some k → k < w7.heap.size) := Lib.hid (fun k hk => V67.out.lt hk)
    have HF3 := ref_freeX T7.out.s2 T7.out.r2 H62.out HL2.out
    rw [G4.out, hE3] at HF3
    have HF3 := Lib.hid HF3
    clear HF2 T6 L7 N7 V6 X6 hE3 G6
    go_upto_region 16 with (go_at_call 34; (with_reducible refine HF3.out.mono ?_); rintro e w8 ⟨va8, rfl, ⟨o8, n8⟩, y8, s8, t8, x8⟩; have T8 : Hid (TwoS c first (freeX (freeX p3 ET) LT) (freX (freX Z ET) LT) os.length (freeX p3 LT) (freX Z LT) os.length WB y7 y8 w8) := Lib.hid (T7.out.turn2 t8 s8 (freX_ref R3.out HL2.out)); have V8 := Lib.hid o8; have N8 := Lib.hid n8; have L8 := Lib.hid t8; clear o8 n8 s8 t8 x8)
    have G8 : Hid (y8.g = g2) := Lib.hid (L8.out.g.trans G4.out)
    have V68 := Lib.hid (V67.out.kept L8.out.keep X64.out)
    have V78 := Lib.hid (V7.out.kept L8.out.keep X74.out)
    have X68 : Hid (OffV va6 y8) := Lib.hid (X64.out.turn V67.out L8.out)
    have T8 := T8.out
    rw [FT.out.1, FT.out.2] at T8
    obtain ⟨P, hP⟩ : ∃ P, freeX p3 LT = P := ⟨_, rfl⟩
    obtain ⟨Q, hQ⟩ : ∃ Q, freX Z LT = Q := ⟨_, rfl⟩
    rw [hP, hQ] at T8
    have T8 := Lib.hid T8
    have D68 : Hid (∀ k, va8.ownBlock = some k → ¬ va6.ownBlock = some k) := Lib.hid (fun k hk h6 => by have := N8.out k hk; have := D67.out k h6; omega)
    obtain ⟨A6, cap6, rfl, _, _⟩ := V68.out.shape
    obtain ⟨A7, cap7, rfl, _, _⟩ := V78.out.shape
    obtain ⟨i0, hi9, hz0, hz1, hz2⟩ := info_parts info_ev
    have h07 : Hid (0 < 7) := Lib.hid (by omega)
    have hL1 := Lib.hid (show E1.length + E2.length ≤ maxLen by have := HEL.out; unfold maxLen; omega)
    have hL2 := Lib.hid (show (E1.length + E2.length) * 56 ≤ 140737488355328 by have := HEL.out; omega)
    clear HF3 T7 L8 N8 V67 V7 X7 X64 X74 D67 hP hQ FT HL1 HL2 HL3
    go_upto_region 17 with (at_builtin; refine wpList_append_OwnS _ rfl _ _ 24 rfl 41 i0 _ 7 56 Tryz.underlying24 hi9 hz0 hz1 hz2 rfl h07.out (.slice A6 E1.length cap6) E1.length (cells E1) rfl V68.out (.slice A7 E2.length cap7) E2.length (cells E2) rfl V78.out.src (cells_one _) hL1.out hL2.out ?_; intro v9 w9 o9 k9 n9; have O9 := Lib.hid o9; have K9 := Lib.hid k9; clear o9 k9 n9)
    have T9 : Hid (TwoS c first P Q os.length P Q os.length WB y7 y8 w9) := Lib.hid (T8.out.keepK K9.out (fun i hi => ⟨NB6.out i hi, X67.out i hi, X68.out i hi⟩))
    have VA : Hid (EvAt w9 v9 E3) := Lib.hid (by
      have h := O9.out
      rw [← cells_append, ← List.length_append, FE.out] at h
      exact h.evs)
    have VB : Hid (EvAt w9 va8 E3) := Lib.hid (V8.out.kept K9.out D68.out).evs
    have HES : Hid (∀ W, Fresh w9 W → Calls Tryz.prog 17 #[v9, va8] W fun e w' => e = .returned (.bool true) ∧ Fresh w9 w') := Lib.hid fun W f => by
      refine (events_any v9 va8 E3 E3 W (VA.out.fresh f) (VB.out.fresh f) (by have := HEL.out; omega) (by have := HEL.out; omega)).mono fun e w' hh => ⟨?_, f.step hh.2 (fun _ _ h => h)⟩
      rw [hh.1, decide_eq_true rfl]
    have hPq : P.q.length ≤ 100000 := by have := (T9.out.r1.bounds H62.out).2.2.1; omega
    have HC1 : Hid (∀ W, Fresh w9 W → Calls Tryz.prog 35 #[.pointer (some ⟨g1, 0, none⟩)] W fun e w' => e = .returned (countV P) ∧ Fresh w9 w') := Lib.hid fun W f => by
      have h := lcount_any c y7 P W (T9.out.s1.fresh f) hPq
      rw [G7.out] at h
      exact h.mono fun e w' hh => ⟨hh.1, f.step hh.2 (fun _ _ h => h)⟩
    have HC2 : Hid (∀ W, Fresh w9 W → Calls Tryz.prog 35 #[.pointer (some ⟨g2, 0, none⟩)] W fun e w' => e = .returned (countV P) ∧ Fresh w9 w') := Lib.hid fun W f => by
      have h := lcount_any c y8 P W (T9.out.s2.fresh f) hPq
      rw [G8.out] at h
      exact h.mono fun e w' hh => ⟨hh.1, f.step hh.2 (fun _ _ h => h)⟩
    have HT1 : Hid (∀ W, Fresh w9 W → Calls Tryz.prog 18 #[.pointer (some ⟨g1, 0, none⟩)] W fun e w' => e = .returned (Q.fold (cfg c first)).2.1.val ∧ Fresh w9 w') := Lib.hid fun W f => by
      have h := ref_state (T9.out.s1.fresh f) T9.out.r1
      rw [G7.out] at h
      exact h.mono fun e w' hh => ⟨hh.1, f.step hh.2 (fun _ _ h => h)⟩
    have HT2 : Hid (∀ W, Fresh w9 W → Calls Tryz.prog 18 #[.pointer (some ⟨g2, 0, none⟩)] W fun e w' => e = .returned (Q.fold (cfg c first)).2.1.val ∧ Fresh w9 w') := Lib.hid fun W f => by
      have h := ref_state (T9.out.s2.fresh f) T9.out.r2
      rw [G8.out] at h
      exact h.mono fun e w' hh => ⟨hh.1, f.step hh.2 (fun _ _ h => h)⟩
    obtain ⟨⟨s0, s1, s2, s3⟩, hst⟩ : ∃ st, (Q.fold (cfg c first)).2.1 = st := ⟨_, rfl⟩
    rw [hst] at HT1 HT2
    unfold St.val at HT1 HT2
    simp only at HT1 HT2
    unfold countV at HC1 HC2
    obtain ⟨q0, hq0⟩ : ∃ q0 : Int, (P.l.length : Int) = q0 := ⟨_, rfl⟩
    obtain ⟨q1, hq1⟩ : ∃ q1 : Int, (P.m.length : Int) = q1 := ⟨_, rfl⟩
    obtain ⟨q2, hq2⟩ : ∃ q2 : Int, ((sures P.q : Nat) : Int) = q2 := ⟨_, rfl⟩
    obtain ⟨q3, hq3⟩ : ∃ q3 : Int, (P.q.length : Int) - ((sures P.q : Nat) : Int) = q3 := ⟨_, rfl⟩
    obtain ⟨q4, hq4⟩ : ∃ q4 : Int, (P.sv.length : Int) = q4 := ⟨_, rfl⟩
    obtain ⟨q5, hq5⟩ : ∃ q5 : Int, P.steps = q5 := ⟨_, rfl⟩
    obtain ⟨q6, hq6⟩ : ∃ q6 : Int, P.coasted = q6 := ⟨_, rfl⟩
    rw [hq3, hq0, hq1, hq2, hq4, hq5, hq6] at HC1 HC2
    have KF : Hid (Fresh w9 w9) := Lib.hid (Keep.refl _ _)
    clear hst hq0 hq1 hq2 hq3 hq4 hq5 hq6 hPq VA VB V8 V68 V78 O9 K9 T8 X67 X68 NB6 D68 hL1 hL2 h07 hi9 hz0 hz1 hz2 FE
    go_upto_region 19 with (first
      | (go_at_call 17; (with_reducible refine (HES.out _ KF.out).mono ?_); rintro e z ⟨rfl, gz⟩; have KF := Lib.hid gz; clear gz)
      | (go_at_call 35; (with_reducible refine (HC1.out _ KF.out).mono ?_); rintro e z ⟨rfl, gz⟩; have KF := Lib.hid gz; clear gz)
      | (go_at_call 35; (with_reducible refine (HC2.out _ KF.out).mono ?_); rintro e z ⟨rfl, gz⟩; have KF := Lib.hid gz; clear gz)
      | (go_at_call 18; (with_reducible refine (HT1.out _ KF.out).mono ?_); rintro e z ⟨rfl, gz⟩; have KF := Lib.hid gz; clear gz)
      | (go_at_call 18; (with_reducible refine (HT2.out _ KF.out).mono ?_); rintro e z ⟨rfl, gz⟩; have KF := Lib.hid gz; clear gz))
    have TA0 := Lib.hid (T9.out.fresh KF.out)
    have BA := Lib.hid (TA0.out.f.blk_ BO.out)
    have cA := BA.out.cell
    have rA := BA.out.frozen
    have lA := BA.out.lt
    obtain ⟨TK, hTK⟩ : ∃ TK, takA (cfg c first) Q ⟨a, s, t, n', d, kk, x⟩ an = TK := ⟨_, rfl⟩
    have HK1 := ref_take TA0.out.s1 TA0.out.r1 H62.out ⟨a, s, t, n', d, kk, x⟩ an HSX.out
    rw [G7.out, hTK] at HK1
    unfold Ev.msg at HK1
    have HK1 := Lib.hid HK1
    have HKT := Lib.hid hTK
    clear T9 KF HES HC1 HC2 HT1 HT2 hTK
    go_upto_region 20 with (go_at_call 36; (with_reducible refine HK1.out.mono ?_); rintro e w11 ⟨vx, rfl, m11, y11, p11, s11, t11, r11⟩; have T11 : Hid (TwoP c c first TK.A (os.length + 1) Q os.length WB y11 y8 w11) := Lib.hid (TA0.out.two.turnP t11 ⟨p11, s11, r11⟩); have M11 := Lib.hid m11; have L11 := Lib.hid t11; clear m11 s11 t11 r11 cA rA lA)
    have G11 : Hid (y11.g = g1) := Lib.hid (L11.out.g.trans G7.out)
    have B11 := Lib.hid (T11.out.p.f.blk_ BO.out)
    have cB := B11.out.cell
    have rB := B11.out.frozen
    have lB := B11.out.lt
    have HK2 := T11.out.q.take G8.out H62.out ⟨a, s, t, n', d, kk, x⟩ an HSX.out
    rw [HKT.out] at HK2
    unfold Ev.msg at HK2
    have HK2 := Lib.hid HK2
    clear HK1 BA TA0 L11
    go_upto_region 21 with (go_at_call 36; (with_reducible refine HK2.out.mono ?_); rintro e w12 ⟨vy, rfl, m12, y12, p12, s12, t12, r12⟩; have T12 : Hid (TwoP c c first TK.A (os.length + 1) TK.A (os.length + 1) WB y11 y12 w12) := Lib.hid (T11.out.turnQ t12 ⟨p12, s12, r12⟩); have M12 := Lib.hid m12; have L12 := Lib.hid t12; clear m12 s12 t12 r12 cB rB lB)
    have G12 : Hid (y12.g = g2) := Lib.hid (L12.out.g.trans G8.out)
    have MA : Hid (MsgAt w12 vx TK.M) := Lib.hid (by
      obtain ⟨p, hp1, hp2⟩ := T11.out.q.r
      exact (hp1.own_turn L12.out M11.out.1 (by decide)).msgs)
    have MB : Hid (MsgAt w12 vy TK.M) := Lib.hid M12.out.1.msgs
    have HLM : Hid (TK.M.length ≤ 1000000) := Lib.hid (by
      obtain ⟨p, hp1, hp2⟩ := T11.out.q.r
      have h1 := ans_len hp2.laws hp2.inv hp2.okf 1 0 ⟨a, s, t, n', d, kk, x⟩ an (fun _ => HSX.out)
      have h2 := hp2.ql
      have h3 := hp2.al
      have h4 : doA (cfg c first) Q 1 0 ⟨a, s, t, n', d, kk, x⟩ an = takA (cfg c first) Q ⟨a, s, t, n', d, kk, x⟩ an := rfl
      rw [h4, HKT.out] at h1
      have := HM.out
      omega)
    have HMS : Hid (∀ W, Fresh w12 W → Calls Tryz.prog 16 #[vx, vy] W fun e w' => e = .returned (.bool true) ∧ Fresh w12 w') := Lib.hid fun W f => by
      refine (messages_any vx vy TK.M TK.M W (MA.out.fresh f) (MB.out.fresh f) HLM.out HLM.out).mono fun e w' hh => ⟨?_, f.step hh.2 (fun _ _ h => h)⟩
      rw [hh.1]
      simp
    have HT1 : Hid (∀ W, Fresh w12 W → Calls Tryz.prog 18 #[.pointer (some ⟨g1, 0, none⟩)] W fun e w' => e = .returned (TK.A.fold (cfg c first)).2.1.val ∧ Fresh w12 w') := Lib.hid fun W f => ((T12.out.fresh f).p.state G11.out).mono fun e w' hh => ⟨hh.1, f.step hh.2 (fun _ _ h => h)⟩
    have HT2 : Hid (∀ W, Fresh w12 W → Calls Tryz.prog 18 #[.pointer (some ⟨g2, 0, none⟩)] W fun e w' => e = .returned (TK.A.fold (cfg c first)).2.1.val ∧ Fresh w12 w') := Lib.hid fun W f => ((T12.out.fresh f).q.state G12.out).mono fun e w' hh => ⟨hh.1, f.step hh.2 (fun _ _ h => h)⟩
    have HN1 : Hid (∀ W, Fresh w12 W → Calls Tryz.prog 19 #[.pointer (some ⟨g1, 0, none⟩)] W fun e w' => e = .returned (.int .i64 TK.A.now) ∧ Fresh w12 w') := Lib.hid fun W f => ((T12.out.fresh f).p.now G11.out).mono fun e w' hh => ⟨hh.1, f.step hh.2 (fun _ _ h => h)⟩
    have HN2 : Hid (∀ W, Fresh w12 W → Calls Tryz.prog 19 #[.pointer (some ⟨g2, 0, none⟩)] W fun e w' => e = .returned (.int .i64 TK.A.now) ∧ Fresh w12 w') := Lib.hid fun W f => ((T12.out.fresh f).q.now G12.out).mono fun e w' hh => ⟨hh.1, f.step hh.2 (fun _ _ h => h)⟩
    have H63 : Hid (os.length + 1 ≤ 62) := Lib.hid (by have := HM.out; omega)
    have HL1 : Hid (∀ W, Fresh w12 W → Calls Tryz.prog 20 #[.pointer (some ⟨g1, 0, none⟩)] W fun e w' => e = .returned (.int .i64 (leastA TK.A)) ∧ Fresh w12 w') := Lib.hid fun W f => ((T12.out.fresh f).p.least G11.out H63.out).mono fun e w' hh => ⟨hh.1, f.step hh.2 (fun _ _ h => h)⟩
    have HL2 : Hid (∀ W, Fresh w12 W → Calls Tryz.prog 20 #[.pointer (some ⟨g2, 0, none⟩)] W fun e w' => e = .returned (.int .i64 (leastA TK.A)) ∧ Fresh w12 w') := Lib.hid fun W f => ((T12.out.fresh f).q.least G12.out H63.out).mono fun e w' hh => ⟨hh.1, f.step hh.2 (fun _ _ h => h)⟩
    have HAW : Hid (∀ W, Fresh w12 W → Calls Tryz.prog 13 #[] W fun e w' => e = .returned (.bool true) ∧ Fresh w12 w') := Lib.hid fun W f => (awake_any W).mono fun e w' hh => ⟨hh.1, f.step hh.2 (fun _ _ h => h)⟩
    obtain ⟨⟨s0, s1, s2, s3⟩, hst⟩ : ∃ st, (TK.A.fold (cfg c first)).2.1 = st := ⟨_, rfl⟩
    rw [hst] at HT1 HT2
    unfold St.val at HT1 HT2
    simp only at HT1 HT2
    obtain ⟨u1, hu1⟩ : ∃ u1, TK.A.now = u1 := ⟨_, rfl⟩
    obtain ⟨u2, hu2⟩ : ∃ u2, leastA TK.A = u2 := ⟨_, rfl⟩
    rw [hu1] at HN1 HN2
    rw [hu2] at HL1 HL2
    have KF : Hid (Fresh w12 w12) := Lib.hid (Keep.refl _ _)
    clear hst hu1 hu2 HK2 B11 T11 L12 M11 M12 MA MB HLM
    go_wp2_with (first
      | (go_at_call 16; (with_reducible refine (HMS.out _ KF.out).mono ?_); rintro e z ⟨rfl, gz⟩; have KF := Lib.hid gz; clear gz)
      | (go_at_call 18; (with_reducible refine (HT1.out _ KF.out).mono ?_); rintro e z ⟨rfl, gz⟩; have KF := Lib.hid gz; clear gz)
      | (go_at_call 18; (with_reducible refine (HT2.out _ KF.out).mono ?_); rintro e z ⟨rfl, gz⟩; have KF := Lib.hid gz; clear gz)
      | (go_at_call 19; (with_reducible refine (HN1.out _ KF.out).mono ?_); rintro e z ⟨rfl, gz⟩; have KF := Lib.hid gz; clear gz)
      | (go_at_call 19; (with_reducible refine (HN2.out _ KF.out).mono ?_); rintro e z ⟨rfl, gz⟩; have KF := Lib.hid gz; clear gz)
      | (go_at_call 20; (with_reducible refine (HL1.out _ KF.out).mono ?_); rintro e z ⟨rfl, gz⟩; have KF := Lib.hid gz; clear gz)
      | (go_at_call 20; (with_reducible refine (HL2.out _ KF.out).mono ?_); rintro e z ⟨rfl, gz⟩; have KF := Lib.hid gz; clear gz)
      | (go_at_call 13; (with_reducible refine (HAW.out _ KF.out).mono ?_); rintro e z ⟨rfl, gz⟩; have KF := Lib.hid gz; clear gz))
    go_ret
    exact ⟨rfl, Fresh.below_ (FF.out.step (T12.out.p.f.step KF.out (fun _ _ h => h)) (fun _ _ h => h)) (Nat.le_refl _)⟩
open Go.ChangeShapes Go.WideShapes Go.ChangeAt
set_option maxRecDepth 100000 in
theorem lpFrees_lifted (os : Os) (started : os.Started) (H : Type) (enc : TypeId × Value → H) :
    ReturnsInHanded {} Tryz.checked os 7 .any (Rows.lpFreesSpec.pre6 enc Tryz.prog Tryz.f7 Rows.lpFreesRow.domain false) (Rows.lpFreesSpec.post enc Tryz.prog Tryz.f7 false true false false) := by
  refine law_lifted (C := Tryz.checked) (tb := 4) (by kernel_rfl) (by kernel_rfl) started (by kernel_rfl) Tryz.func7 rfl ?_ rfl Tryz.underlying4 (by kernel_rfl)
    (ChangeSpec.witness6 (enc := enc) (C := Tryz.checked) false ⟨#[], #[.agg #[.int .i64 0, .int .i64 0, .int .i64 0, .int .i64 0, .int .i64 0, .int .i64 0, .int .i64 0, .bool false, .slice none 0 0], .slice none 0 0, .agg #[.int .i64 0, .int .i64 0, .int .i64 0, .int .i64 0, .int .i64 0, .int .i64 0, .int .i64 0, .int .i64 0, .int .i64 0, .bool false]], []⟩ 12 (by kernel_rfl) (by kernel_rfl) (by kernel_rfl) (by kernel_rfl)) ?_
  · intro ds hds
    match ds, hds with
    | [e0, e1, e2], _ => rfl
  · intro W base args ds p hval hA hreach
    rw [Tryz.params7] at hA hval hreach
    obtain ⟨v0, vs0, d0, ds0, p0, q0, hargs, rfl, rfl, h0, r0⟩ := trodAll_cons hA
    obtain ⟨v1, vs1, d1, ds1, p1, q1, rfl, rfl, rfl, h1, r1⟩ := trodAll_cons r0
    obtain ⟨v2, vs2, d2, ds2, p2, q2, rfl, rfl, rfl, h2, r2⟩ := trodAll_cons r1
    obtain ⟨rfl, rfl, rfl⟩ := trodAll_nil r2
    obtain rfl : args = #[v0, v1, v2] := by cases args; simp_all
    obtain ⟨l0, rfl, hl0⟩ := arg_struct (n := 6) Tryz.underlying26 (by kernel_rfl) (hval 0 26 v0 rfl rfl) h0
    have hfl : flat Tryz.prog 6 26 = [3, 3, 3, 3, 3, 3, 3, 4, 24] := by kernel_rfl
    rw [hfl] at hl0; clear hfl
    obtain ⟨md, l1, e1, w_md, hl1⟩ := all2_int Tryz.underlying3 hl0
    obtain ⟨id, l2, e2, w_id, hl2⟩ := all2_int Tryz.underlying3 hl1
    obtain ⟨f0, l3, e3, w_f0, hl3⟩ := all2_int Tryz.underlying3 hl2
    obtain ⟨f1, l4, e4, w_f1, hl4⟩ := all2_int Tryz.underlying3 hl3
    obtain ⟨f2, l5, e5, w_f2, hl5⟩ := all2_int Tryz.underlying3 hl4
    obtain ⟨f3, l6, e6, w_f3, hl6⟩ := all2_int Tryz.underlying3 hl5
    obtain ⟨ev, l7, e7, w_ev, hl7⟩ := all2_int Tryz.underlying3 hl6
    obtain ⟨lz, l8, e8, hl8⟩ := all2_bool Tryz.underlying4 hl7
    obtain ⟨u_L, l9, e9, h_L, hl9⟩ := all2_cons hl8
    obtain rfl := all2_nil hl9
    subst e9 e8 e7 e6 e5 e4 e3 e2 e1
    clear hl9 hl8 hl7 hl6 hl5 hl4 hl3 hl2 hl1 hl0
    obtain ⟨A_o, n_o, c_o, rows_o, rfl, len_o, cap_o, max_o, leaf_o, at_o⟩ := arg_slice (n := 6) Tryz.underlying27 (by kernel_rfl) (by kernel_rfl) (by rw [show Tryz.prog.cellsOf 45 = 10 by kernel_rfl]; decide) (hval 1 27 v1 rfl rfl) h1
    rw [show flat Tryz.prog 6 45 = [3, 3, 3, 3, 3, 3, 3, 3, 3, 4] by kernel_rfl] at leaf_o
    rw [show Tryz.prog.cellsOf 45 = 10 by kernel_rfl] at at_o
    obtain ⟨l0, rfl, hl0⟩ := arg_struct (n := 6) Tryz.underlying45 (by kernel_rfl) (hval 2 45 v2 rfl rfl) h2
    have hfl : flat Tryz.prog 6 45 = [3, 3, 3, 3, 3, 3, 3, 3, 3, 4] := by kernel_rfl
    rw [hfl] at hl0; clear hfl
    obtain ⟨ok, l1, e1, w_ok, hl1⟩ := all2_int Tryz.underlying3 hl0
    obtain ⟨ob, l2, e2, w_ob, hl2⟩ := all2_int Tryz.underlying3 hl1
    obtain ⟨oa, l3, e3, w_oa, hl3⟩ := all2_int Tryz.underlying3 hl2
    obtain ⟨oe, l4, e4, w_oe, hl4⟩ := all2_int Tryz.underlying3 hl3
    obtain ⟨ot, l5, e5, w_ot, hl5⟩ := all2_int Tryz.underlying3 hl4
    obtain ⟨on, l6, e6, w_on, hl6⟩ := all2_int Tryz.underlying3 hl5
    obtain ⟨od, l7, e7, w_od, hl7⟩ := all2_int Tryz.underlying3 hl6
    obtain ⟨oc, l8, e8, w_oc, hl8⟩ := all2_int Tryz.underlying3 hl7
    obtain ⟨ox, l9, e9, w_ox, hl9⟩ := all2_int Tryz.underlying3 hl8
    obtain ⟨an, l10, e10, hl10⟩ := all2_bool Tryz.underlying4 hl9
    obtain rfl := all2_nil hl10
    subst e10 e9 e8 e7 e6 e5 e4 e3 e2 e1
    clear hl10 hl9 hl8 hl7 hl6 hl5 hl4 hl3 hl2 hl1 hl0
    obtain ⟨A, n, cp, rows, rfl, hlen, hcap, hmax, hleaf, hat⟩ := leaf_slice (n := 6) Tryz.underlying24 (by kernel_rfl) (by kernel_rfl) (by rw [show Tryz.prog.cellsOf 41 = 7 by kernel_rfl]; decide) h_L
    rw [show flat Tryz.prog 6 41 = [3, 3, 3, 3, 3, 3, 3] by kernel_rfl] at hleaf
    rw [show Tryz.prog.cellsOf 41 = 7 by kernel_rfl] at hat
    obtain ⟨es, hes, hev⟩ := evs_arg hleaf hat
    have hn : es.length = n := hes.trans hlen
    subst hn
    obtain ⟨os, hos, ho⟩ := lops_arg leaf_o at_o
    have hm : os.length = n_o := hos.trans len_o
    subst hm
    exact lpfrees_any ⟨md, id, ev, lz⟩ ⟨f0, f1, f2, f3⟩ A A_o cp c_o es os ⟨ok, ob, ⟨oa, oe, ot, on, od, oc, ox⟩, an⟩ W ⟨A, cp, rfl, hev⟩ (by unfold maxLen at hmax; omega) ho (by unfold maxLen at max_o; omega)

theorem lpFrees_holds : Rows.LpFreesSaid :=
  OpenClaim.holds_of_wide 7 Tryz.f7 rfl rfl rfl rfl rfl rfl rfl ⟨rfl, rfl, rfl, rfl, rfl⟩ rfl rfl rfl rfl rfl (by kernel_rfl) Tryz.func7 (by kernel_rfl)
    (of_decide_eq_true (by kernel_rfl)) (by unfold Func.isWrapper; first | (rw [if_pos (by decide +kernel)]; kernel_rfl) | (rw [if_neg (by decide +kernel)]; exact ⟨rfl, rfl⟩))
    (fun os started H enc _ => lpFrees_lifted os started H enc)
end Go.Proofs.YthbcdkeammhakaaGreat
