/- Chapter 13: OSent, LpS, LpM. -/
import Derived.Test.YthbcdkeammhakaaGreatP21
import Derived.Test.YthbcdkeammhakaaGreatP10
import Derived.Test.YthbcdkeammhakaaGreatP13
import Derived.Test.YthbcdkeammhakaaGreatP14
import Derived.RecoverIn
set_option maxRecDepth 100000
set_option maxHeartbeats 16000000
namespace Go.Proofs.YthbcdkeammhakaaGreat
open Go.RowKit
attribute [local go_sem ↓] Go.wp_at_zero Go.wp_at_succ
theorem sent_any (g : Nat) (v u : Value) (q : List Rec) (a0 : Int) (l : List Ev) (w : World) (h : OQ w g v q) (hu : EvAt w u l) (hl : l.length ≤ 1000) (hq : q.length ≤ 50000) :
  Calls Tryz.prog 54 #[.pointer (some ⟨g, 0, none⟩), .int .i64 a0, u] w (SentP g v a0 l q w) := by
 have F0 : Fresh w (w.alloc (.cells #[.int .i64 a0] 3)) := (Keep.refl _ _).alloc _
 have B0 := Blk.new w 3 #[.int .i64 a0]
 have H := Lib.hid h
 have HW := Lib.hid (wrong_any g v u q a0 l _ (h.fresh F0) (hu.fresh F0) (by omega) (by omega))
 have HE := Lib.hid (fun (W : World) (f : Fresh w W) => eclone_any u l W (hu.fresh f) (by omega))
 have KF0 := Lib.hid F0
 have KB0 := Lib.hid B0
 obtain ⟨B, d, rfl, _⟩ := hu
 obtain ⟨i1, hi1, hy0, hy1, hy2⟩ := info_parts info_msg
 have lg := h.blk.lt
 clear h F0 B0
 obtain ⟨E, hE⟩ : ∃ E, wrongE a0 l q = E := ⟨_, rfl⟩
 unfold SentP
 unfold WrongP at HW
 rw [hE] at HW ⊢
 have HEE := Lib.hid hE
 clear hE
 by_cases hz : E = 0
 rotate_left
 ·have t1 : (E != 0) = true := by simp [hz]
  have Q1 : Hid (sentQ a0 l q = q) := Lib.hid (by unfold sentQ; rw [HEE.out, if_neg hz])
  have M1 : Hid (sentM a0 l q = []) := Lib.hid (by unfold sentM; rw [HEE.out, if_neg hz])
  clear hz
  rw [Q1.out, M1.out]
  go_enter Tryz.func54, Tryz.ntmps54
  go_wp2_with (go_at_call 90; (with_reducible refine HW.out.mono ?_); rintro e w1 ⟨rfl, f1⟩; have F1 := Lib.hid (KF0.out.step f1 (fun _ _ h => h)); clear f1)
  go_ret2
  exact ⟨_, v, rfl, OwnS.nil _ _ _, H.out.fresh F1.out, OTurn.fresh F1.out, by simp [Value.ownBlock]⟩
 ·subst hz
  have Q1 : Hid (sentQ a0 l q = (sentFrom a0 l q).1) := Lib.hid (by unfold sentQ; rw [HEE.out, if_pos rfl])
  have M1 : Hid (sentM a0 l q = (sentFrom a0 l q).2) := Lib.hid (by unfold sentM; rw [HEE.out, if_pos rfl])
  rw [Q1.out, M1.out]
  clear Q1 M1 HEE
  unfold sentFrom
  have hsl := esort_len l
  have hss := esort_srt l
  have hsp := esort_perm l
  obtain ⟨s, hs⟩ : ∃ s, esort l = s := ⟨_, rfl⟩
  have HES := Lib.hid (show ∀ t, t.Perm l → Srt t → t = s from fun t h1 h2 => (esort_is h1 h2).trans hs)
  rw [hs] at hsl hss ⊢
  clear hs hsp
  have HSL := Lib.hid hsl
  have HSS := Lib.hid hss
  have LS := Lib.hid (show (stay (sentP a0 s) q).length ≤ 50000 from Nat.le_trans (stay_le _ _) hq)
  have LA := Lib.hid (show (antis (sentP a0 s) q).length ≤ 50000 from Nat.le_trans (antis_le _ _) hq)
  obtain ⟨P, hP⟩ : ∃ P, antis (sentP a0 s) q = P := ⟨_, rfl⟩
  obtain ⟨R, hR⟩ : ∃ R, stay (sentP a0 s) q = R := ⟨_, rfl⟩
  have HPE := Lib.hid hP
  have HRE := Lib.hid hR
  rw [hP, hR]
  rw [hR] at LS
  rw [hP] at LA
  clear hP hR hsl hss
  have HL := Lib.hid hl
  have HQL := Lib.hid hq
  clear hl hq
  go_enter Tryz.func54, Tryz.ntmps54
  go_wp2_with (first
   | (go_at_call 90; (with_reducible refine HW.out.mono ?_); rintro e w1 ⟨rfl, f1⟩; have F1 : Hid (Fresh w w1) := Lib.hid (KF0.out.step f1 (fun _ _ h => h)); have B1 := Lib.hid (f1.blk_ KB0.out); have c1 := B1.out.cell; have l1 := B1.out.lt; clear f1)
   | (go_at_call 91; go_loud ((with_reducible refine (HE.out _ F1.out).mono ?_); rintro e w2 ⟨v1, rfl, o1, f1, n1⟩; obtain ⟨A1, cap1, rfl, _, _⟩ := o1.shape; have F2 : Hid (Fresh w1 w2) := Lib.hid f1; have N1 := Lib.hid n1; have O1 := Lib.hid (o1.alloc (.cells #[.slice A1 l.length cap1] 24)); have B2 := Lib.hid (Blk.new w2 24 #[.slice A1 l.length cap1]); have BI := Lib.hid ((f1.blk_ B1.out).alloc (.cells #[.slice A1 l.length cap1] 24)); clear o1 f1 n1))
   | (go_at_call 92; go_loud ((with_reducible refine (sortE_any _ l _ O1.out (by have := HL.out; omega)).mono ?_); rintro e w3 ⟨rfl, s9, s1, s2, s3, s4⟩; have b2 := B2.out.keep s4 (O1.out.ne_blk B2.out (by decide)); have bi := BI.out.keep s4 (O1.out.ne_blk BI.out (by decide)); have B3 := Lib.hid b2; have BJ := Lib.hid bi; have S1 := Lib.hid s1; have S2 := Lib.hid s2; have S3 := Lib.hid s3; have S4 := Lib.hid s4; have cb3 := b2.cell; have ci3 := bi.cell; have lb3 := b2.lt; have li3 := bi.lt; clear b2 bi s1 s2 s3 s4)))
  obtain rfl := HES.out _ S1.out S2.out
  have F3 : Hid (Fresh w w3) := Lib.hid (((F1.out.step F2.out (fun _ _ h => h)).alloc _).step S4.out (fun k hk h => by have := N1.out k h; have := F1.out.size; omega))
  have NF : Hid (∀ k, w.heap.size ≤ k → ¬ ofoot g v k) := Lib.hid (fun k hk hf => by have := H.out.lt k hf; omega)
  have NS : Hid (∀ k, (Value.slice A1 l.length cap1).ownBlock = some k → ¬ ofoot g v k) := Lib.hid (fun k hk => NF.out k (by have := N1.out k hk; have := F1.out.size; omega))
  have HT := Lib.hid (take_anySent g v q (sentP a0 s9) w.heap.size w2.heap.size w3 (H.out.fresh F3.out) (by have := HQL.out; omega) (fun W r f => sent1 _ _ a0 _ s9 r W (f.blk_ BJ.out) (f.blk_ B3.out) (by have h := S3.out.fresh f; exact h) HSS.out (by rw [HSL.out]; have := HL.out; omega)))
  unfold TakeP at HT
  rw [HPE.out, HRE.out] at HT
  refine HT.out.mono ?_
  rintro e w4 ⟨va, v', rfl, o4, q4, t4, n4⟩
  obtain ⟨A4, cap4, rfl, _, _⟩ := o4.shape
  have b4 := B3.out.keep t4.keep (NF.out _ (by have := F1.out.size; have := F2.out.size; omega))
  have cb4 := b4.cell
  have hs4 : OwnS w4 41 7 (.slice A1 l.length cap1) l.length (cells s9) := by
   have h := S3.out.kept t4.keep (fun k hk => NS.out k hk)
   rw [HSL.out] at h
   exact h
  have HS4 := Lib.hid hs4
  have T4 := Lib.hid (OTurn.after F3.out t4)
  have O4 := Lib.hid o4
  have Q4 := Lib.hid q4
  have N4 := Lib.hid (show ∀ k, (Value.slice A4 P.length cap4).ownBlock = some k → w.heap.size ≤ k from fun k hk => by have := n4 k hk; have := F3.out.size; omega)
  clear b4 hs4 t4 o4 q4 n4 HT S1 S2 S3 S4 B3 BJ cb3 ci3 lb3 li3 F1 F2 F3 N1 O1 B2 BI B1 c1 l1 NF NS HW HE KF0 KB0 HES HPE HRE HSS
  go_wp2_with fail
  go_loopg [31, 10] l.length (fun gk u31 u10 wr => ∃ (i : Nat) (vq : Value), i ≤ l.length ∧ gk = l.length - i ∧ u31 = .int .i64 i ∧ OwnS wr 43 8 u10 ((s9.take i).foldl sentStep (R, P)).2.length (rcells ((s9.take i).foldl sentStep (R, P)).2) ∧ OQ wr g vq ((s9.take i).foldl sentStep (R, P)).1 ∧ OTurn w wr g v vq ∧ (∀ k, u10.ownBlock = some k → w.heap.size ≤ k) ∧ OwnS wr 41 7 (.slice A1 l.length cap1) l.length (cells s9))
  case atStart => exact ⟨0, v', by omega, rfl, rfl, O4.out, Q4.out, T4.out, N4.out, HS4.out⟩
  case round =>
   obtain ⟨i, vq, hi, rfl, rfl, hO, hQ, hT, hN, hS⟩ := hrel
   have hst := steps_le (s9.take i) (R, P)
   have hti : (s9.take i).length ≤ i := List.length_take_le _ _
   have hlq : ((s9.take i).foldl sentStep (R, P)).1.length ≤ 60000 := by have := LS.out; have := HL.out; simp only at hst; omega
   have hlm : ((s9.take i).foldl sentStep (R, P)).2.length ≤ 60000 := by have := LA.out; have := HL.out; simp only at hst; omega
   by_cases hlt : i < l.length
   ·obtain ⟨A5, cap5, rfl, hc5, hm5⟩ := hO.shape
    obtain ⟨y, hy⟩ : ∃ y, s9[i]? = some y := ⟨_, List.getElem?_eq_getElem (by rw [HSL.out]; exact hlt)⟩
    have HST := Lib.hid (show (s9.take (i + 1)).foldl sentStep (R, P) = sentStep ((s9.take i).foldl sentStep (R, P)) y by rw [List.take_add_one, hy, Option.toList_some, List.foldl_append]; rfl)
    obtain ⟨⟨Q, M⟩, hQM⟩ : ∃ st, (s9.take i).foldl sentStep (R, P) = st := ⟨_, rfl⟩
    rw [hQM] at hO hQ hlq hlm hN HST ⊢
    simp only at hO hQ hlq hlm hN ⊢
    obtain ⟨g3, off3, _, hv3, hg3, _, _, hcc⟩ := hS.form (by omega)
    injection hv3 with e1 e2 e3
    subst e1 e3
    obtain ⟨x0, x1, x2, x3, x4, x5, x6⟩ := cells_at s9 _ y hy
    have x0 := hcc _ _ x0
    have x1 := hcc _ _ x1
    have x2 := hcc _ _ x2
    have x3 := hcc _ _ x3
    have x4 := hcc _ _ x4
    have x5 := hcc _ _ x5
    have x6 := hcc _ _ x6
    rw [← Nat.add_assoc] at x1 x2 x3 x4 x5 x6
    have FE : Hid (Fresh wr (wr.alloc (.cells #[.int .i64 y.a, .int .i64 y.s, .int .i64 y.t, .int .i64 y.n, .int .i64 y.d, .int .i64 y.k, .int .i64 y.x] 41))) := Lib.hid ((Keep.refl _ _).alloc _)
    have BE := Lib.hid (Blk.new wr 41 #[.int .i64 y.a, .int .i64 y.s, .int .i64 y.t, .int .i64 y.n, .int .i64 y.d, .int .i64 y.k, .int .i64 y.x])
    have HF := Lib.hid (find_any g vq Q y _ (hQ.fresh FE.out) (by omega))
    unfold Ev.val at HF
    have XO := Lib.hid hO
    have XQ := Lib.hid hQ
    have XT := Lib.hid hT
    have XN := Lib.hid hN
    have XS := Lib.hid hS
    have hqs := hQ.own.shape
    clear hcc hy e2 hQM hst hti hO hQ hT hN hS
    have hl3 := HL.out
    cases hh : rhas Q y
    ·rw [hh] at HF
     obtain ⟨Aq, capq, rfl, hcq, hmq⟩ := hqs
     have hmq : capq ≤ 9223372036854775807 := by unfold maxLen at hmq; omega
     have HI := Lib.hid (XQ.out.srt.ins (x := (y, true)) hh)
     have ES : Hid ((s9.take (i + 1)).foldl sentStep (R, P) = (rins Q (y, true), M ++ [(y, false)])) := Lib.hid (by rw [HST.out]; unfold sentStep; simp only; rw [hh]; rfl)
     clear hh
     go_wp2_with (go_at_call 97; (with_reducible refine HF.out.mono ?_); rintro e w5 ⟨rfl, f5⟩; have F5 : Hid (Fresh wr w5) := Lib.hid (FE.out.step f5 (fun _ _ h => h)); have b5 := f5.blk_ BE.out; have cb5 := b5.cell; have lb5 := b5.lt; have q5 := XQ.out.fresh F5.out; have cq5 := q5.blk.cell; have lq5 := q5.blk.lt; have B5 := Lib.hid b5; have Q5 := Lib.hid q5; clear f5 b5 q5)
     obtain ⟨WA, hWA⟩ : ∃ WA, WA = (w5.alloc (.cells #[.int .i64 y.a, .int .i64 y.s, .int .i64 y.t, .int .i64 y.n, .int .i64 y.d, .int .i64 y.k, .int .i64 y.x, .bool true] 137)).drew := ⟨_, rfl⟩
     have bi : Blk WA w5.heap.size 137 (Rec.enc (y, true)).toArray := by rw [hWA]; exact (Blk.at_new (w := w5) rfl _ _).drew
     have fa1 : Fresh w5 WA := by rw [hWA]; exact ((Keep.refl _ _).alloc _).drew
     have FA : Hid (Fresh wr WA) := Lib.hid (F5.out.step fa1 (fun _ _ h => h))
     have QA := Lib.hid (XQ.out.fresh FA.out)
     have BA := Lib.hid (fa1.blk_ B5.out)
     have hvs : (Value.slice Aq Q.length capq).ownBlock ≠ some w5.heap.size := fun h => by
      have := Q5.out.own.lt h
      omega
     have HIN := Lib.hid (oins_any _ w5.heap.size Q (y, true) WA QA.out.own bi hvs (by omega))
     have HG := Lib.hid (QA.out.n)
     clear hvs bi fa1
     simp only at HIN
     rw [hWA] at HIN FA QA BA
     go_region_law (rw [if_pos (by simp [Region.wanted])]; go_simp; go_at_call 98; (with_reducible refine HIN.out.mono ?_); rintro en2 w6 ⟨v6, rfl, own, kp, lt⟩; obtain ⟨A9, cap9, rfl, _, _⟩ := own.shape; have b2 := QA.out.blk.keep kp HG.out; have c2 := b2.cell; have c3 := b2.frozen; have lg2 := b2.lt; have be := BA.out.keep kp (QA.out.own.ne_blk BA.out (by decide)); have ce6 := be.cell; have le6 := be.lt; have OW := Lib.hid own; have KP := Lib.hid kp; have LT := Lib.hid lt; clear own kp lt be b2)
     all_goals
      obtain ⟨q7, t7⟩ := QA.out.put (l' := rins Q (y, true)) (v' := .slice A9 (rins Q (y, true)).length cap9) OW.out HI.out KP.out (fun i hi => hi) LT.out
      obtain ⟨W7, hW7⟩ : ∃ W7, w6.setCell ⟨g, 0, none⟩ (.slice A9 (rins Q (y, true)).length cap9) = W7 := ⟨_, rfl⟩
      rw [hW7] at q7 t7 ⊢
      have nf : Hid (∀ k, ofoot g (.slice Aq Q.length capq) k → k < wr.heap.size) := Lib.hid (fun k hk => XQ.out.lt k hk)
      have om7 := (XO.out.fresh FA.out).kept t7.keep (fun k hk hf => by
       rcases hf with rfl | hf
       ·exact (XO.out.fresh FA.out).ne_blk QA.out.blk (by decide) hk
       ·exact (XO.out.fresh FA.out).ne_own QA.out.own (by decide) k hk hf)
      have s7 := (XS.out.fresh FA.out).kept t7.keep (fun k hk hf => by
       rcases hf with rfl | hf
       ·exact (XS.out.fresh FA.out).ne_blk QA.out.blk (by decide) hk
       ·exact (XS.out.fresh FA.out).ne_own QA.out.own (by decide) k hk hf)
      have be7 := BA.out.keep t7.keep (fun hf => by have := nf.out _ hf; omega)
      have T7 := Lib.hid (OTurn.two XT.out (OTurn.after FA.out t7))
      have ce7 := be7.cell
      have le7 := be7.lt
      have Q7 := Lib.hid q7
      have OM7 := Lib.hid om7
      have S7 := Lib.hid s7
      have hL1 := Lib.hid (show M.length + 1 ≤ maxLen from one_le_maxLen (by omega))
      have hL2 := Lib.hid (show (M.length + 1) * 64 ≤ 140737488355328 by omega)
      have HC : Hid (Src (W7.alloc (.cells #[.int .i64 y.a, .int .i64 y.s, .int .i64 y.t, .int .i64 y.n, .int .i64 y.d, .int .i64 y.k, .int .i64 y.x, .bool false] 43)) 8 (.slice (some ⟨W7.heap.size, 0, none⟩) 1 1) 1 (rcells [(y, false)])) := Lib.hid (Src.one_new W7 43 8 #[.int .i64 y.a, .int .i64 y.s, .int .i64 y.t, .int .i64 y.n, .int .i64 y.d, .int .i64 y.k, .int .i64 y.x, .bool false] rfl)
      have h08 : Hid (0 < 8) := Lib.hid (by omega)
      have FW : Hid (w.heap.size ≤ W7.heap.size) := Lib.hid T7.out.keep.size
      clear q7 t7 om7 s7 be7 hW7 c2 c3 lg2 ce6 le6 OW KP LT cb5 lb5 cq5 lq5
      go_wp2_with (at_builtin; go_loud (refine wpList_append_OwnS _ rfl _ _ 35 rfl 43 i1 _ 8 64 Tryz.underlying35 hi1 hy0 hy1 hy2 rfl h08.out (.slice A5 M.length cap5) M.length (rcells M) rfl (OM7.out.alloc _) (.slice (some ⟨W7.heap.size, 0, none⟩) 1 1) 1 (rcells [(y, false)]) rfl HC.out (rcells_one _) hL1.out hL2.out ?_; intro v8 w8 o8 k8 n8; have O8 := Lib.hid o8; have K8 := Lib.hid k8; have N8 := Lib.hid n8; clear o8 k8 n8))
      go_roundg (l.length - (i + 1))
      case measure => omega
      case rel =>
       refine ⟨i + 1, .slice A9 (rins Q (y, true)).length cap9, by omega, rfl, by go_num, ?_, ?_, ?_, ?_, ?_⟩
       ·rw [ES.out]; simp only [List.length_append, rcells_append, List.length_cons, List.length_nil, Nat.zero_add]; exact O8.out
       ·rw [ES.out]; exact (Q7.out.fresh ((Keep.refl _ _).alloc _)).kept K8.out (fun k hf hm => by
         rcases hf with rfl | hf
         ·exact OM7.out.ne_blk Q7.out.blk (by decide) hm
         ·exact OM7.out.ne_own Q7.out.own (by decide) k hm hf)
       ·exact ⟨(T7.out.keep.alloc _).step K8.out (fun k hk h => by have := XN.out k h; omega), T7.out.later⟩
       ·intro k hk
        rcases N8.out k hk with h | h
        ·exact XN.out k h
        ·simp at h; have := FW.out; omega
       ·exact (S7.out.alloc _).kept K8.out (fun k hk hm => OM7.out.ne_own S7.out (by decide) k hm hk)
    ·have hri := rhas_lt hh
     obtain ⟨b, hyb⟩ := rhas_at hh
     have ES : Hid ((s9.take (i + 1)).foldl sentStep (R, P) = (rmark Q y, M)) := Lib.hid (by rw [HST.out]; unfold sentStep; simp only; rw [hh]; rfl)
     obtain ⟨gq, offq, capq, hvq, hgq, hcq, hmq, _⟩ := XQ.out.own.form (by omega)
     subst hvq
     have hmq : capq ≤ 9223372036854775807 := by unfold maxLen at hmq; omega
     rw [hh] at HF
     have HRM : Hid (rmark Q y = Q.set (rpos Q y) (y, true)) := Lib.hid rfl
     obtain ⟨N, hN⟩ : ∃ N, rpos Q y = N := ⟨_, rfl⟩
     rw [hN] at HF hri hyb HRM
     have HYB := Lib.hid hyb
     clear hh hyb hN
     go_wp2_with (go_at_call 97; (with_reducible refine HF.out.mono ?_); rintro e w5 ⟨rfl, f5⟩; have F5 : Hid (Fresh wr w5) := Lib.hid (FE.out.step f5 (fun _ _ h => h)); have q5 := XQ.out.fresh F5.out; have cq5 := q5.blk.cell; have lq5 := q5.blk.lt; have fr5 := (OwnS.at_ q5.own).2.1; have y7 := (OwnS.at_ q5.own).2.2.2.2 _ _ (rcells_at Q N _ HYB.out).2.2.2.2.2.2.2; rw [← Nat.add_assoc] at y7; have Q5 := Lib.hid q5; clear f5 q5)
     obtain ⟨q6, t6⟩ := Q5.out.mark HYB.out true
     have om6 := (XO.out.fresh F5.out).kept t6.keep (fun k hk hf => by
      rcases hf with rfl | hf
      ·exact (XO.out.fresh F5.out).ne_blk Q5.out.blk (by decide) hk
      ·exact (XO.out.fresh F5.out).ne_own Q5.out.own (by decide) k hk hf)
     have s6 := (XS.out.fresh F5.out).kept t6.keep (fun k hk hf => by
      rcases hf with rfl | hf
      ·exact (XS.out.fresh F5.out).ne_blk Q5.out.blk (by decide) hk
      ·exact (XS.out.fresh F5.out).ne_own Q5.out.own (by decide) k hk hf)
     go_roundg (l.length - (i + 1))
     case measure => omega
     case rel =>
      refine ⟨i + 1, .slice (some ⟨gq, offq, none⟩) Q.length capq, by omega, rfl, by go_num, ?_, ?_, ?_, XN.out, s6⟩
      ·rw [ES.out]; exact om6
      ·rw [ES.out]; simp only; rw [HRM.out]; exact q6
      ·exact OTurn.two XT.out (OTurn.after F5.out t6)
   ·obtain rfl : i = l.length := by omega
    have e1 : s9.take l.length = s9 := by rw [← HSL.out]; exact List.take_length
    rw [e1] at hO hQ hlm
    have XO := Lib.hid hO
    have XQ := Lib.hid hQ
    have XT := Lib.hid hT
    have XN := Lib.hid hN
    clear hO hQ hT hN hS hst hti
    go_wp2_with fail
    go_ret2
    exact ⟨_, vq, rfl, XO.out, XQ.out, XT.out, XN.out⟩
end Go.Proofs.YthbcdkeammhakaaGreat
namespace Go.Proofs.YthbcdkeammhakaaGreat
open Go.RowKit
attribute [local go_sem ↓] Go.wp_at_zero Go.wp_at_succ
structure LPs where
 l : List Ev
 m : List Ev
 q : List Rec
 sv : List (Int × St)
 now : Int
 st : St
 since : Int
 freed : Int
 steps : Int
 coasted : Int
structure LC where
 md : Int
 id : Int
 every : Int
 lz : Bool
structure PV where
 g : Nat
 gq : Nat
 go : Nat
 gr : Nat
 v1 : Value
 v2 : Value
 v3 : Value
 v4 : Value
def rulesV (md : Int) : Value := .iface 55 (.agg #[.int .i64 md])
def lcells (c : LC) (y : PV) (p : LPs) : Array Value := #[.pointer (some ⟨y.gq, 0, none⟩), rulesV c.md, .int .i64 c.id, .int .i64 c.every, .bool c.lz, .pointer (some ⟨y.go, 0, none⟩), .pointer (some ⟨y.gr, 0, none⟩), .int .i64 p.now, .int .i64 p.st.s0, .int .i64 p.st.s1, .int .i64 p.st.s2, .int .i64 p.st.s3, .int .i64 p.since, .int .i64 p.freed, .int .i64 p.steps, .int .i64 p.coasted]
structure SLP (w : World) (c : LC) (y : PV) (p : LPs) : Prop where
 blk : Blk w y.g 103 (lcells c y p)
 sq : SQ w y.gq y.v1 y.v2 p.l p.m
 oq : OQ w y.go y.v3 p.q
 sr : RS.SRow w y.gr y.v4 p.sv
def lfoot (y : PV) (k : Nat) : Prop := k = y.g ∨ foot y.gq y.v1 y.v2 k ∨ ofoot y.go y.v3 k ∨ RS.foot y.gr y.v4 k
structure LTurn (w w' : World) (y y' : PV) : Prop where
 keep : Keep (lfoot y) w w'
 g : y'.g = y.g
 q : y'.gq = y.gq
 o : y'.go = y.go
 r : y'.gr = y.gr
 later : ∀ k, lfoot y' k → lfoot y k ∨ w.heap.size ≤ k
theorem SLP.kept {w w' : World} {c : LC} {y : PV} {p : LPs} {S : Nat → Prop} (h : SLP w c y p) (k : Keep S w w') (hS : ∀ i, lfoot y i → ¬ S i) : SLP w' c y p :=
 ⟨h.blk.keep k (hS _ (.inl rfl)), h.sq.kept k (fun i hi => hS i (.inr (.inl hi))), h.oq.kept k (fun i hi => hS i (.inr (.inr (.inl hi)))), h.sr.kept k (hS _ (.inr (.inr (.inr (.inl rfl))))) (fun i hi => hS i (.inr (.inr (.inr (.inr hi)))))⟩
theorem SLP.fresh {w w' : World} {c : LC} {y : PV} {p : LPs} (h : SLP w c y p) (k : Fresh w w') : SLP w' c y p := h.kept k (fun _ _ h => h)
theorem SLP.lt {w : World} {c : LC} {y : PV} {p : LPs} (h : SLP w c y p) : ∀ k, lfoot y k → k < w.heap.size := by
 rintro k (rfl | hk | hk | hk)
 ·exact h.blk.lt
 ·exact h.sq.lt k hk
 ·exact h.oq.lt k hk
 ·exact h.sr.lt k hk
theorem LTurn.fresh {w w' : World} {y : PV} (f : Fresh w w') : LTurn w w' y y := ⟨f.more (fun _ _ h => h.elim), rfl, rfl, rfl, rfl, fun _ h => .inl h⟩
theorem LTurn.two {w w1 w2 : World} {y y1 y2 : PV} (t : LTurn w w1 y y1) (u : LTurn w1 w2 y1 y2) : LTurn w w2 y y2 := by
 refine ⟨Keep.step t.keep u.keep (fun k hk h => ?_), u.g.trans t.g, u.q.trans t.q, u.o.trans t.o, u.r.trans t.r, fun k hk => ?_⟩
 ·rcases t.later k h with h | h
  ·exact h
  ·omega
 ·rcases u.later k hk with h | h
  ·exact t.later k h
  ·exact .inr (Nat.le_trans t.keep.size h)
theorem run_method (v : Value) (w : World) : (method 335 55 v "Run").run Tryz.prog w = .ok (48, v) w := by
 kernel_rfl
attribute [local go_sem] run_method
theorem ask_idle (p q r : Addr) (n : Nat) (w : World) :
  CallsDIn Fence.wide n Tryz.prog 88 #[.pointer (some p), .pointer (some q), .pointer (some r)] .returning w fun e u' w' => e = .returned (.tuple #[]) ∧ u' = .returning ∧ w' = w := by
 refine callsDIn_of_wpSIn Tryz.func88 rfl trivial fun c₀ cs hu => ?_
 apply wpSIn_seq
 apply wpSIn_region
 have hfa : ∀ f, Fence.wide.fn f := fun _ => trivial
 simp [wpOpsSIn, go_sem, recoverD, hu, Tryz.ntmps88, Exit.thenS]
 refine wpSIn_cond (t := false) (by simp [Act.eval, Array.replicate]) ?_
 simp only [Bool.false_eq_true, if_false]
 refine wpSIn_of_wpIn rfl (wpIn_skip ?_)
 cases c₀
 simp_all [bodyPostS, results, Tryz.results88]
structure Ask4 (w : World) (W : World) (g : Nat) (cs : Array Value) : Prop where
 b0 : Blk W w.heap.size 31 #[.pointer (some ⟨g, 0, none⟩)]
 b1 : Blk W g 103 cs
 b2 : Blk W (w.heap.size + 1) 23 #[.int .i64 0, .int .i64 0, .int .i64 0, .int .i64 0]
 b3 : Blk W (w.heap.size + 1 + 1) 24 #[.slice none 0 0]
 f : Fresh w W
theorem Ask4.step {w W W' : World} {g : Nat} {cs : Array Value} (h : Ask4 w W g cs) (f : Fresh W W') : Ask4 w W' g cs := ⟨f.blk_ h.b0, f.blk_ h.b1, f.blk_ h.b2, f.blk_ h.b3, h.f.step f (fun _ _ h => h)⟩
theorem lcells_at (c : LC) (y : PV) (p : LPs) (i : Nat) : (lcells c y p)[i]? = #[.pointer (some ⟨y.gq, 0, none⟩), .iface 55 (.agg #[.int .i64 c.md]), .int .i64 c.id, .int .i64 c.every, .bool c.lz, .pointer (some ⟨y.go, 0, none⟩), .pointer (some ⟨y.gr, 0, none⟩), .int .i64 p.now, .int .i64 p.st.s0, .int .i64 p.st.s1, .int .i64 p.st.s2, .int .i64 p.st.s3, .int .i64 p.since, .int .i64 p.freed, .int .i64 p.steps, .int .i64 p.coasted][i]? := rfl
theorem ask_any (c : LC) (y : PV) (p : LPs) (at_ : Int) (w : World) (h : SLP w c y p) (hl : p.l.length ≤ 1000) (hid : 0 ≤ c.id ∧ c.id ≤ 31) (hmd : c.md < 1000) (hs : OkS p.st) (hev : ∀ e ∈ p.l, SmE e ∧ 0 ≤ e.a ∧ e.a ≤ 1073741824) :
  Calls Tryz.prog 53 #[.pointer (some ⟨y.g, 0, none⟩), .int .i64 at_] w (fun en w' => ∃ v', en = .returned (.tuple #[(runP c.md c.id p.st (p.l.filter (fun e => e.a == at_))).1.val, v']) ∧ OwnS w' 41 7 v' (runP c.md c.id p.st (p.l.filter (fun e => e.a == at_))).2.length (cells (runP c.md c.id p.st (p.l.filter (fun e => e.a == at_))).2) ∧ Fresh w w' ∧ ∀ k, v'.ownBlock = some k → w.heap.size ≤ k) := by
 have hlt := h.blk.lt
 have HBA : Hid (∀ W, Fresh w W → Calls Tryz.prog 89 #[.pointer (some ⟨y.gq, 0, none⟩), .int .i64 at_] W (ListedP (p.l.filter (fun e => e.a == at_)) W)) := Lib.hid fun W f => batch_any y.gq y.v1 y.v2 p.l p.m at_ W (h.sq.fresh f) (by omega)
 have hbl : (p.l.filter (fun e => e.a == at_)).length ≤ 1000 := Nat.le_trans (List.length_filter_le _ _) hl
 have HEV : Hid (∀ e ∈ p.l.filter (fun e => e.a == at_), SmE e ∧ 0 ≤ e.a ∧ e.a ≤ 1073741824) := Lib.hid fun e he => hev e (List.mem_filter.1 he).1
 have HOK := Lib.hid hs
 have A0 : Hid (Ask4 w (((w.alloc (.cells #[.pointer (some ⟨y.g, 0, none⟩)] 31)).alloc (.cells #[.int .i64 0, .int .i64 0, .int .i64 0, .int .i64 0] 23)).alloc (.cells #[.slice none 0 0] 24)).drew y.g (lcells c y p)) := Lib.hid ⟨(((Blk.new w _ _).alloc _).alloc _).drew, (((h.blk.alloc _).alloc _).alloc _).drew, ((Blk.at_new (by simp) _ _).alloc _).drew, (Blk.at_new (by simp) _ _).drew, ((((Keep.refl _ w).alloc _).alloc _).alloc _).drew⟩
 obtain ⟨B, hB⟩ : ∃ B, p.l.filter (fun e => e.a == at_) = B := ⟨_, rfl⟩
 rw [hB] at HBA hbl HEV ⊢
 have HRUN : Hid (∀ W v, EvAt W v B → Calls Tryz.prog 48 #[.agg #[.int .i64 c.md], .int .i64 c.id, .agg #[.int .i64 p.st.s0, .int .i64 p.st.s1, .int .i64 p.st.s2, .int .i64 p.st.s3], v] W fun en w' => ∃ v', en = .returned (.tuple #[(runP c.md c.id p.st B).1.val, v']) ∧ OwnS w' 41 7 v' (runP c.md c.id p.st B).2.length (cells (runP c.md c.id p.st B).2) ∧ Fresh W w' ∧ ∀ k, v'.ownBlock = some k → W.heap.size ≤ k) := Lib.hid fun W v hv => run_any c.md c.id p.st v B W hid hmd HOK.out HEV.out hv hbl
 obtain ⟨⟨⟨r0, r1, r2, r3⟩, out⟩, hR⟩ : ∃ R, runP c.md c.id p.st B = R := ⟨_, rfl⟩
 rw [hR] at HRUN ⊢
 unfold St.val at HRUN ⊢
 simp only at HRUN ⊢
 clear hR
 have y0 := fun (W' : World) (h : Ask4 w W' y.g (lcells c y p)) (i : Nat) => h.b0.cell i
 have y1 := fun (W' : World) (h : Ask4 w W' y.g (lcells c y p)) => h.b0.lt
 have y2 := fun (W' : World) (h : Ask4 w W' y.g (lcells c y p)) (i : Nat) => (h.b1.cell i).trans (lcells_at c y p i)
 have y3 := fun (W' : World) (h : Ask4 w W' y.g (lcells c y p)) => h.b1.lt
 clear h hB hs hev hl
 have hmf : ∀ (fn : Fn) (first cap : Array Value) (w : World), (Instr.makeFunc fn first cap).run Tryz.prog w = .ok (.func fn first cap) w := fun _ _ _ _ => rfl
 refine (callsIn_wide (n := 6)).1 ?_
 refine callsIn_of_wp_marks Tryz.func53 rfl trivial ?_ rfl
 simp only [Tryz.ntmps53, List.size_toArray, List.length_cons, List.length_nil, Nat.reduceAdd, Nat.reduceSub, Array.replicate_succ, Array.replicate_zero, List.push_toArray, List.append_toArray, List.nil_append, List.cons_append]
 refine wpIn_wide.2 ?_
 go_wp2_with fail
 rename_i K0 hK0
 refine Code.wp_mono (Q := normOnly K0) (fun e a w h => by cases e <;> first | exact h | exact h.elim) ?_
 refine region_T (S := fun W' => Ask4 w W' y.g (lcells c y p)) (T := [23, 24]) (by kernel_rfl) ?_
 refine anyT_take (i := 0) (oi := _) (v := ?vb0) rfl (by kernel_rfl) (by kernel_rfl) (by kernel_rfl) (by kernel_rfl) (fun _ _ _ h => h) (Or.inl ⟨by rfl, ?hyb0⟩) A0.out ?restb0
 case hyb0 => (intro W hSw; go_simp; try with_reducible rfl)
 try simp only [List.getElem_toArray, List.getElem_cons_zero, Act.put, List.setIfInBounds_toArray, List.set_cons_zero, List.set_cons_succ]
 refine anyT_take (i := 1) (oi := _) (v := ?vb1) rfl (by kernel_rfl) (by kernel_rfl) (by kernel_rfl) (by kernel_rfl) (fun _ _ _ h => h) (Or.inl ⟨by rfl, ?hyb1⟩) A0.out ?restb1
 case hyb1 => (intro W hSw; go_simp; try with_reducible rfl)
 try simp only [List.getElem_toArray, List.getElem_cons_zero, List.getElem_cons_succ, Act.put, List.setIfInBounds_toArray, List.set_cons_zero, List.set_cons_succ]
 refine anyT_take (i := 2) (oi := _) (v := ?vb2) rfl (by kernel_rfl) (by kernel_rfl) (by kernel_rfl) (by kernel_rfl) (fun _ _ _ h => h) (Or.inl ⟨by rfl, ?hyb2⟩) A0.out ?restb2
 case hyb2 => (intro W hSw; go_simp; try with_reducible rfl)
 try simp only [List.getElem_toArray, List.getElem_cons_zero, List.getElem_cons_succ, Act.put, List.setIfInBounds_toArray, List.set_cons_zero, List.set_cons_succ]
 refine anyT_take (i := 3) (oi := _) (v := ?vb3) rfl (by kernel_rfl) (by kernel_rfl) (by kernel_rfl) (by kernel_rfl) (fun _ _ _ h => h) (Or.inl ⟨by rfl, ?hyb3⟩) A0.out ?restb3
 case hyb3 => (intro W hSw; go_simp; try with_reducible rfl)
 try simp only [List.getElem_toArray, List.getElem_cons_zero, List.getElem_cons_succ, Act.put, List.setIfInBounds_toArray, List.set_cons_zero, List.set_cons_succ]
 refine anyT_take (i := 4) (oi := _) (v := ?vb4) rfl (by kernel_rfl) (by kernel_rfl) (by kernel_rfl) (by kernel_rfl) (fun _ _ _ h => h) (Or.inl ⟨by rfl, ?hyb4⟩) A0.out ?restb4
 case hyb4 => (intro W hSw; go_simp; try with_reducible rfl)
 try simp only [List.getElem_toArray, List.getElem_cons_zero, List.getElem_cons_succ, Act.put, List.setIfInBounds_toArray, List.set_cons_zero, List.set_cons_succ]
 refine anyT_take (i := 5) (oi := _) (v := ?vb5) rfl (by kernel_rfl) (by kernel_rfl) (by kernel_rfl) (by kernel_rfl) (fun _ _ _ h => h) (Or.inl ⟨by rfl, ?hyb5⟩) A0.out ?restb5
 case hyb5 => (intro W hSw; go_simp; try with_reducible rfl)
 try simp only [List.getElem_toArray, List.getElem_cons_zero, List.getElem_cons_succ, Act.put, List.setIfInBounds_toArray, List.set_cons_zero, List.set_cons_succ]
 refine anyT_take (i := 6) (oi := _) (v := ?vb6) rfl (by kernel_rfl) (by kernel_rfl) (by kernel_rfl) (by kernel_rfl) (fun _ _ _ h => h) (Or.inl ⟨by rfl, ?hyb6⟩) A0.out ?restb6
 case hyb6 => (intro W hSw; go_simp; try with_reducible rfl)
 try simp only [List.getElem_toArray, List.getElem_cons_zero, List.getElem_cons_succ, Act.put, List.setIfInBounds_toArray, List.set_cons_zero, List.set_cons_succ]
 refine anyT_take (i := 7) (oi := _) (v := ?vb7) rfl (by kernel_rfl) (by kernel_rfl) (by kernel_rfl) (by kernel_rfl) (fun _ _ _ h => h) (Or.inl ⟨by rfl, ?hyb7⟩) A0.out ?restb7
 case hyb7 => (intro W hSw; go_simp; try with_reducible rfl)
 try simp only [List.getElem_toArray, List.getElem_cons_zero, List.getElem_cons_succ, Act.put, List.setIfInBounds_toArray, List.set_cons_zero, List.set_cons_succ]
 refine anyT_take (i := 8) (oi := _) (v := ?vb8) rfl (by kernel_rfl) (by kernel_rfl) (by kernel_rfl) (by kernel_rfl) (fun _ _ _ h => h) (Or.inl ⟨by rfl, ?hyb8⟩) A0.out ?restb8
 case hyb8 => (intro W hSw; go_simp; try with_reducible rfl)
 try simp only [List.getElem_toArray, List.getElem_cons_zero, List.getElem_cons_succ, Act.put, List.setIfInBounds_toArray, List.set_cons_zero, List.set_cons_succ]
 refine anyT_take (i := 9) (oi := _) (v := ?vb9) rfl (by kernel_rfl) (by kernel_rfl) (by kernel_rfl) (by kernel_rfl) (fun _ _ _ h => h) (Or.inl ⟨by rfl, ?hyb9⟩) A0.out ?restb9
 case hyb9 => (intro W hSw; go_simp; try with_reducible rfl)
 try simp only [List.getElem_toArray, List.getElem_cons_zero, List.getElem_cons_succ, Act.put, List.setIfInBounds_toArray, List.set_cons_zero, List.set_cons_succ]
 refine anyT_take (i := 10) (oi := _) (v := ?vb10) rfl (by kernel_rfl) (by kernel_rfl) (by kernel_rfl) (by kernel_rfl) (fun _ _ _ h => h) (Or.inl ⟨by rfl, ?hyb10⟩) A0.out ?restb10
 case hyb10 => (intro W hSw; go_simp; try with_reducible rfl)
 try simp only [List.getElem_toArray, List.getElem_cons_zero, List.getElem_cons_succ, Act.put, List.setIfInBounds_toArray, List.set_cons_zero, List.set_cons_succ]
 refine anyT_take (i := 11) (oi := _) (v := ?vb11) rfl (by kernel_rfl) (by kernel_rfl) (by kernel_rfl) (by kernel_rfl) (fun _ _ _ h => h) (Or.inl ⟨by rfl, ?hyb11⟩) A0.out ?restb11
 case hyb11 => (intro W hSw; go_simp; try with_reducible rfl)
 try simp only [List.getElem_toArray, List.getElem_cons_zero, List.getElem_cons_succ, Act.put, List.setIfInBounds_toArray, List.set_cons_zero, List.set_cons_succ]
 refine anyT_take (i := 12) (oi := _) (v := ?vb12) rfl (by kernel_rfl) (by kernel_rfl) (by kernel_rfl) (by kernel_rfl) (fun _ _ _ h => h) (Or.inl ⟨by rfl, ?hyb12⟩) A0.out ?restb12
 case hyb12 => (intro W hSw; go_simp; try with_reducible rfl)
 try simp only [List.getElem_toArray, List.getElem_cons_zero, List.getElem_cons_succ, Act.put, List.setIfInBounds_toArray, List.set_cons_zero, List.set_cons_succ]
 refine anyT_take (i := 13) (oi := _) (v := ?vb13) rfl (by kernel_rfl) (by kernel_rfl) (by kernel_rfl) (by kernel_rfl) (fun _ _ _ h => h) (Or.inl ⟨by rfl, ?hyb13⟩) A0.out ?restb13
 case hyb13 => (intro W hSw; go_simp; try with_reducible rfl)
 try simp only [List.getElem_toArray, List.getElem_cons_zero, List.getElem_cons_succ, Act.put, List.setIfInBounds_toArray, List.set_cons_zero, List.set_cons_succ]
 refine anyT_take (i := 14) (oi := _) (v := ?vb14) rfl (by kernel_rfl) (by kernel_rfl) (by kernel_rfl) (by kernel_rfl) (fun _ _ _ h => h) (Or.inl ⟨by rfl, ?hyb14⟩) A0.out ?restb14
 case hyb14 => (intro W hSw; go_simp; try with_reducible rfl)
 try simp only [List.getElem_toArray, List.getElem_cons_zero, List.getElem_cons_succ, Act.put, List.setIfInBounds_toArray, List.set_cons_zero, List.set_cons_succ]
 refine anyT_take (i := 15) (oi := _) (v := ?vb15) rfl (by kernel_rfl) (by kernel_rfl) (by kernel_rfl) (by kernel_rfl) (fun _ _ _ h => h) (Or.inl ⟨by rfl, ?hyb15⟩) A0.out ?restb15
 case hyb15 => (intro W hSw; go_simp; try with_reducible rfl)
 try simp only [List.getElem_toArray, List.getElem_cons_zero, List.getElem_cons_succ, Act.put, List.setIfInBounds_toArray, List.set_cons_zero, List.set_cons_succ]
 refine anyT_take (i := 16) (oi := _) (v := ?vb16) rfl (by kernel_rfl) (by kernel_rfl) (by kernel_rfl) (by kernel_rfl) (fun _ _ _ h => h) (Or.inl ⟨by rfl, ?hyb16⟩) A0.out ?restb16
 case hyb16 => (intro W hSw; go_simp; try with_reducible rfl)
 try simp only [List.getElem_toArray, List.getElem_cons_zero, List.getElem_cons_succ, Act.put, List.setIfInBounds_toArray, List.set_cons_zero, List.set_cons_succ]
 refine anyT_take (i := 18) (oi := _) (v := ?vb18) rfl (by kernel_rfl) (by kernel_rfl) (by kernel_rfl) (by kernel_rfl) (fun _ _ _ h => h) (Or.inl ⟨by rfl, ?hyb18⟩) A0.out ?restb18
 case hyb18 => (intro W hSw; go_simp; try with_reducible rfl)
 try simp only [List.getElem_toArray, List.getElem_cons_zero, List.getElem_cons_succ, Act.put, List.setIfInBounds_toArray, List.set_cons_zero, List.set_cons_succ]
 refine anyT_take (i := 19) (oi := _) (v := ?vb19) rfl (by kernel_rfl) (by kernel_rfl) (by kernel_rfl) (by kernel_rfl) (fun _ _ _ h => h) (Or.inl ⟨by rfl, ?hyb19⟩) A0.out ?restb19
 case hyb19 => (intro W hSw; go_simp; try with_reducible rfl)
 try simp only [List.getElem_toArray, List.getElem_cons_zero, List.getElem_cons_succ, Act.put, List.setIfInBounds_toArray, List.set_cons_zero, List.set_cons_succ]
 refine anyT_one' (i := 17) (by kernel_rfl) rfl (by rfl) (fun KQ hK => ?_)
 go_simp
 go_at_call 89
 (with_reducible refine (HBA.out _ A0.out.f).mono ?_)
 rintro e w3 ⟨v3, rfl, o3, f3, n3⟩
 have A3 := Lib.hid (A0.out.step f3)
 have O3 := Lib.hid o3
 clear f3 o3 n3
 refine hK.out _ _ A3.out ?_
 clear hK KQ
 try simp only [List.getElem_toArray, List.getElem_cons_zero, List.getElem_cons_succ, Act.put, List.setIfInBounds_toArray, List.set_cons_zero, List.set_cons_succ]
 refine anyT_one' (i := 20) (by kernel_rfl) rfl (by rfl) (fun KQ hK => ?_)
 go_simp
 (with_reducible refine (HRUN.out _ _ O3.out.evs).mono ?_)
 rintro e w4 ⟨v4, rfl, o4, f4, n4⟩
 have A4 := Lib.hid (A3.out.step f4)
 have O4 := Lib.hid o4
 have N4 := Lib.hid (fun k hk => Nat.le_trans A3.out.f.size (n4 k hk))
 clear f4 o4 n4
 refine hK.out _ _ A4.out ?_
 clear hK KQ
 try simp only [List.getElem_toArray, List.getElem_cons_zero, List.getElem_cons_succ, Act.put, List.setIfInBounds_toArray, List.set_cons_zero, List.set_cons_succ]
 refine anyT_take (i := 21) (oi := _) (v := ?vb21) rfl (by kernel_rfl) (by kernel_rfl) (by kernel_rfl) (by kernel_rfl) (fun _ _ _ h => h) (Or.inl ⟨by rfl, ?hyb21⟩) A4.out ?restb21
 case hyb21 => (intro W hSw; go_simp; try with_reducible rfl)
 try simp only [List.getElem_toArray, List.getElem_cons_zero, List.getElem_cons_succ, Act.put, List.setIfInBounds_toArray, List.set_cons_zero, List.set_cons_succ]
 refine anyT_take (i := 22) (oi := _) (v := ?vb22) rfl (by kernel_rfl) (by kernel_rfl) (by kernel_rfl) (by kernel_rfl) (fun _ _ _ h => h) (Or.inl ⟨by rfl, ?hyb22⟩) A4.out ?restb22
 case hyb22 => (intro W hSw; go_simp; try with_reducible rfl)
 try simp only [List.getElem_toArray, List.getElem_cons_zero, List.getElem_cons_succ, Act.put, List.setIfInBounds_toArray, List.set_cons_zero, List.set_cons_succ]
 have a4 := A4.out
 have c2 := a4.b2.cell
 have f2 := a4.b2.frozen
 have l2 := a4.b2.lt
 have c3 := a4.b3.cell
 have f3 := a4.b3.frozen
 have l3 := a4.b3.lt
 clear y0 y1 y2 y3 a4
 refine anyT_tail (k := 23) rfl (by decide) (by kernel_rfl) ?_
 simp only [List.drop_succ_cons, List.drop_zero]
 obtain ⟨A', c', rfl, _, _⟩ := O4.out.shape
 go_wp2_with fail
 refine hK0 _ _ ?_
 have b2 := ((((A4.out.b2.set_ 0 (.int .i64 r0)).set_ 1 (.int .i64 r1)).set_ 2 (.int .i64 r2)).set_ 3 (.int .i64 r3)).far (p := ⟨w.heap.size + 1 + 1, 0, none⟩) (by simp) (.slice A' out.length c')
 have b3 := ((((A4.out.b3.far (p := ⟨w.heap.size + 1, 0, none⟩) (by simp) (.int .i64 r0)).far (p := ⟨w.heap.size + 1, 1, none⟩) (by simp) (.int .i64 r1)).far (p := ⟨w.heap.size + 1, 2, none⟩) (by simp) (.int .i64 r2)).far (p := ⟨w.heap.size + 1, 3, none⟩) (by simp) (.int .i64 r3)).set_ 0 (.slice A' out.length c')
 obtain ⟨WZ, hWZ⟩ : ∃ WZ, (((((w4.setCell ⟨w.heap.size + 1, 0, none⟩ (.int .i64 r0)).setCell ⟨w.heap.size + 1, 1, none⟩ (.int .i64 r1)).setCell ⟨w.heap.size + 1, 2, none⟩ (.int .i64 r2)).setCell ⟨w.heap.size + 1, 3, none⟩ (.int .i64 r3)).setCell ⟨w.heap.size + 1 + 1, 0, none⟩ (.slice A' out.length c')) = WZ := ⟨_, rfl⟩
 have FZ : Hid (Fresh w WZ) := Lib.hid (by
  rw [← hWZ]
  refine Keep.setCell (Keep.setCell (Keep.setCell (Keep.setCell (Keep.setCell A4.out.f (p := ⟨w.heap.size + 1, 0, none⟩) ?_ _) (p := ⟨w.heap.size + 1, 1, none⟩) ?_ _) (p := ⟨w.heap.size + 1, 2, none⟩) ?_ _) (p := ⟨w.heap.size + 1, 3, none⟩) ?_ _) (p := ⟨w.heap.size + 1 + 1, 0, none⟩) ?_ _ <;> (intro h; simp at h; try omega))
 have OZ : Hid (OwnS WZ 41 7 (.slice A' out.length c') out.length (cells out)) := Lib.hid (by
  rw [← hWZ]
  have n2 := O4.out.ne_blk A4.out.b2 (by decide)
  have n3 := O4.out.ne_blk A4.out.b3 (by decide)
  exact ((((O4.out.far (p := ⟨w.heap.size + 1, 0, none⟩) n2 _).far (p := ⟨w.heap.size + 1, 1, none⟩) n2 _).far (p := ⟨w.heap.size + 1, 2, none⟩) n2 _).far (p := ⟨w.heap.size + 1, 3, none⟩) n2 _).far (p := ⟨w.heap.size + 1 + 1, 0, none⟩) n3 _)
 rw [hWZ] at b2 b3 ⊢
 clear hWZ hK0
 have c5 := b2.cell
 have c6 := b3.cell
 go_wp2_with fail
 refine ⟨by simp, .inr ⟨fun h => by omega, _, _, 88, _, rfl, by simp [go_sem]; rfl, fun _ _ => trivial, ?_⟩⟩
 refine (ask_idle ⟨w.heap.size, 0, none⟩ ⟨w.heap.size + 1, 0, none⟩ ⟨w.heap.size + 1 + 1, 0, none⟩ _ _).mono ?_
 rintro e u' w'' ⟨rfl, rfl, rfl⟩
 exact ⟨.tuple #[.agg #[.int .i64 r0, .int .i64 r1, .int .i64 r2, .int .i64 r3], .slice A' out.length c'], by simp [results, Tryz.results53, go_sem, c5, c6]; try rfl, ⟨_, rfl, OZ.out, FZ.out, N4.out⟩⟩
end Go.Proofs.YthbcdkeammhakaaGreat
namespace Go.Proofs.YthbcdkeammhakaaGreat
open Go.RowKit
attribute [local go_sem ↓] Go.wp_at_zero Go.wp_at_succ
theorem Blk.ne_type {w : World} {a b : Nat} {t t' : TypeId} {cs cs' : Array Value} (h : Blk w a t cs) (h' : Blk w b t' cs') (hne : t ≠ t') : a ≠ b := by
 rintro rfl
 unfold Blk at h h'
 rw [h] at h'
 injection h' with h'
 injection h' with _ h2 _
 exact hne h2
section
variable {w w' : World} {c : LC} {y : PV} {p : LPs}
theorem SLP.ne_q (h : SLP w c y p) : ∀ i, foot y.gq y.v1 y.v2 i → i ≠ y.g := by
 rintro i (rfl | hi | hi)
 ·exact h.sq.blk.ne_type h.blk (by decide)
 ·rintro rfl; exact h.sq.own1.ne_blk h.blk (by decide) hi
 ·rintro rfl; exact h.sq.own2.ne_blk h.blk (by decide) hi
theorem SLP.ne_o (h : SLP w c y p) : ∀ i, ofoot y.go y.v3 i → i ≠ y.g := by
 rintro i (rfl | hi)
 ·exact h.oq.blk.ne_type h.blk (by decide)
 ·rintro rfl; exact h.oq.own.ne_blk h.blk (by decide) hi
theorem SLP.ne_r (h : SLP w c y p) : ∀ i, RS.foot y.gr y.v4 i → i ≠ y.g := by
 rintro i (rfl | hi)
 ·exact h.sr.blk.ne_type h.blk (by decide)
 ·rintro rfl; exact h.sr.own.ne_blk h.blk (by decide) hi
theorem SLP.ne_qo (h : SLP w c y p) : ∀ i, foot y.gq y.v1 y.v2 i → ¬ ofoot y.go y.v3 i := by
 rintro i (rfl | hi | hi) (e | hj)
 ·exact h.sq.blk.ne_type h.oq.blk (by decide) e
 ·exact h.oq.own.ne_blk h.sq.blk (by decide) hj
 ·subst e; exact h.sq.own1.ne_blk h.oq.blk (by decide) hi
 ·exact h.sq.own1.ne_own h.oq.own (by decide) i hi hj
 ·subst e; exact h.sq.own2.ne_blk h.oq.blk (by decide) hi
 ·exact h.sq.own2.ne_own h.oq.own (by decide) i hi hj
theorem SLP.ne_qr (h : SLP w c y p) : ∀ i, foot y.gq y.v1 y.v2 i → ¬ RS.foot y.gr y.v4 i := by
 rintro i (rfl | hi | hi) (e | hj)
 ·exact h.sq.blk.ne_type h.sr.blk (by decide) e
 ·exact h.sr.own.ne_blk h.sq.blk (by decide) hj
 ·subst e; exact h.sq.own1.ne_blk h.sr.blk (by decide) hi
 ·exact h.sq.own1.ne_own h.sr.own (by decide) i hi hj
 ·subst e; exact h.sq.own2.ne_blk h.sr.blk (by decide) hi
 ·exact h.sq.own2.ne_own h.sr.own (by decide) i hi hj
theorem SLP.ne_or (h : SLP w c y p) : ∀ i, ofoot y.go y.v3 i → ¬ RS.foot y.gr y.v4 i := by
 rintro i (rfl | hi) (e | hj)
 ·exact h.oq.blk.ne_type h.sr.blk (by decide) e
 ·exact h.sr.own.ne_blk h.oq.blk (by decide) hj
 ·subst e; exact h.oq.own.ne_blk h.sr.blk (by decide) hi
 ·exact h.oq.own.ne_own h.sr.own (by decide) i hi hj
theorem SLP.set (h : SLP w c y p) (i : Nat) (u : Value) (p' : LPs) (hc : lcells c y p' = (lcells c y p).setIfInBounds i u) (h1 : p'.l = p.l) (h2 : p'.m = p.m) (h3 : p'.q = p.q) (h4 : p'.sv = p.sv) : SLP (w.setCell ⟨y.g, i, none⟩ u) c y p' := by
 have k : Keep (fun k => k = y.g) w (w.setCell ⟨y.g, i, none⟩ u) := (Keep.refl (fun k => k = y.g) w).setCell (p := ⟨y.g, i, none⟩) (fun _ => rfl) u
 refine ⟨?_, ?_, ?_, ?_⟩
 ·rw [hc]; exact h.blk.set_ i u
 ·rw [h1, h2]; exact h.sq.kept k (fun i hi => h.ne_q i hi)
 ·rw [h3]; exact h.oq.kept k (fun i hi => h.ne_o i hi)
 ·rw [h4]; exact h.sr.kept k (fun e => h.ne_r _ (.inl rfl) e) (fun i hi e => h.ne_r i (.inr hi) e)
theorem LTurn.set (y : PV) (w : World) (i : Nat) (u : Value) : LTurn w (w.setCell ⟨y.g, i, none⟩ u) y y := ⟨(Keep.refl _ w).setCell (p := ⟨y.g, i, none⟩) (fun _ => .inl rfl) u, rfl, rfl, rfl, rfl, fun _ h => .inl h⟩
theorem SLP.turnQ (h : SLP w c y p) {v1' v2' : Value} {l' m' : List Ev} (s : SQ w' y.gq v1' v2' l' m') (t : Turn w w' y.gq y.v1 y.v2 v1' v2') : SLP w' c { y with v1 := v1', v2 := v2' } { p with l := l', m := m' } ∧ LTurn w w' y { y with v1 := v1', v2 := v2' } := by
 refine ⟨⟨h.blk.keep t.keep (fun e => h.ne_q _ e rfl), s, h.oq.kept t.keep (fun i hi e => h.ne_qo i e hi), h.sr.kept t.keep (fun e => h.ne_qr _ e (.inl rfl)) (fun i hi e => h.ne_qr i e (.inr hi))⟩, ⟨t.keep.more (fun k _ hk => .inr (.inl hk)), rfl, rfl, rfl, rfl, ?_⟩⟩
 rintro k (hk | hk | hk | hk)
 ·exact .inl (.inl hk)
 ·rcases t.later k hk with h | h
  ·exact .inl (.inr (.inl h))
  ·exact .inr h
 ·exact .inl (.inr (.inr (.inl hk)))
 ·exact .inl (.inr (.inr (.inr hk)))
theorem SLP.turnO (h : SLP w c y p) {v3' : Value} {q' : List Rec} (s : OQ w' y.go v3' q') (t : OTurn w w' y.go y.v3 v3') : SLP w' c { y with v3 := v3' } { p with q := q' } ∧ LTurn w w' y { y with v3 := v3' } := by
 refine ⟨⟨h.blk.keep t.keep (fun e => h.ne_o _ e rfl), h.sq.kept t.keep (fun i hi e => h.ne_qo i hi e), s, h.sr.kept t.keep (fun e => h.ne_or _ e (.inl rfl)) (fun i hi e => h.ne_or i e (.inr hi))⟩, ⟨t.keep.more (fun k _ hk => .inr (.inr (.inl hk))), rfl, rfl, rfl, rfl, ?_⟩⟩
 rintro k (hk | hk | hk | hk)
 ·exact .inl (.inl hk)
 ·exact .inl (.inr (.inl hk))
 ·rcases t.later k hk with h | h
  ·exact .inl (.inr (.inr (.inl h)))
  ·exact .inr h
 ·exact .inl (.inr (.inr (.inr hk)))
theorem SLP.turnR (h : SLP w c y p) {v4' : Value} {sv' : List (Int × St)} (s : RS.SRow w' y.gr v4' sv') (k : Keep (RS.foot y.gr y.v4) w w') (t : RS.Later w y.v4 v4') : SLP w' c { y with v4 := v4' } { p with sv := sv' } ∧ LTurn w w' y { y with v4 := v4' } := by
 refine ⟨⟨h.blk.keep k (fun e => h.ne_r _ e rfl), h.sq.kept k (fun i hi e => h.ne_qr i hi e), h.oq.kept k (fun i hi e => h.ne_or i hi e), s⟩, ⟨k.more (fun k _ hk => .inr (.inr (.inr hk))), rfl, rfl, rfl, rfl, ?_⟩⟩
 rintro i (hk | hk | hk | hk)
 ·exact .inl (.inl hk)
 ·exact .inl (.inr (.inl hk))
 ·exact .inl (.inr (.inr (.inl hk)))
 ·rcases hk with hk | hk
  ·exact .inl (.inr (.inr (.inr (.inl hk))))
  ·rcases t i hk with h | h
   ·exact .inl (.inr (.inr (.inr (.inr h))))
   ·exact .inr h
end
end Go.Proofs.YthbcdkeammhakaaGreat
