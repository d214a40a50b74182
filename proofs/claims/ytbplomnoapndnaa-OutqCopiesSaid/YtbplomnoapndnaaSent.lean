/-
  outq.Queue: Sent.
-/
import Derived.Test.YtbplomnoapndnaaSentK
namespace Go.Proofs.Ytbplomnoapndnaa
open Go.RowKit
attribute [local go_sem ↓] Go.wp_at_zero Go.wp_at_succ

set_option maxHeartbeats 8000000 in
set_option maxRecDepth 100000 in
theorem sent_any (g : Nat) (v u : Value) (q : List Rec) (a0 : Int) (l : List Ev) (w : World) (h : OQ w g v q) (hu : EvAt w u l) (hl : l.length ≤ 1000) (hq : q.length ≤ 50000) :
    Calls Try.prog 20 #[.pointer (some ⟨g, 0, none⟩), .int .i64 a0, u] w (SentP g v a0 l q w) := by
  have F0 : Fresh w (w.alloc (.cells #[.int .i64 a0] 3)) := (Keep.refl _ _).alloc _
  have B0 := Blk.new w 3 #[.int .i64 a0]
  have H := Lib.hid h
  have HW := Lib.hid (wrong_any g v u q a0 l _ (h.fresh F0) (hu.fresh F0) (by omega) (by omega))
  have HE := Lib.hid (fun (W : World) (f : Fresh w W) => eclone_any u l W (hu.fresh f) (by omega))
  have KF0 := Lib.hid F0
  have KB0 := Lib.hid B0
  obtain ⟨B, d, rfl, _⟩ := hu
  obtain ⟨i1, hi1, hy0, hy1, hy2⟩ := info_parts info_msg
  have lg := h.blk.lt
  clear h F0 B0
  obtain ⟨E, hE⟩ : ∃ E, wrongE a0 l q = E := ⟨_, rfl⟩
  unfold SentP
  unfold WrongP at HW
  rw [hE] at HW ⊢
  have HEE := Lib.hid hE
  clear hE
  by_cases hz : E = 0
  rotate_left
  · have t1 : (E != 0) = true := by simp [hz]
    have Q1 : Hid (sentQ a0 l q = q) := Lib.hid (by unfold sentQ; rw [HEE.out, if_neg hz])
    have M1 : Hid (sentM a0 l q = []) := Lib.hid (by unfold sentM; rw [HEE.out, if_neg hz])
    clear hz
    rw [Q1.out, M1.out]
    go_enter Try.func20, Try.ntmps20
    go_wp2_with (go_at_call 39; (with_reducible refine HW.out.mono ?_); rintro e w1 ⟨rfl, f1⟩; have F1 := Lib.hid (KF0.out.step f1 (fun _ _ h => h)); clear f1)
    go_ret2
    exact ⟨_, v, rfl, OwnS.nil _ _ _, H.out.fresh F1.out, Turn.fresh F1.out, by simp [Value.ownBlock]⟩
  · subst hz
    have Q1 : Hid (sentQ a0 l q = (sentFrom a0 l q).1) := Lib.hid (by unfold sentQ; rw [HEE.out, if_pos rfl])
    have M1 : Hid (sentM a0 l q = (sentFrom a0 l q).2) := Lib.hid (by unfold sentM; rw [HEE.out, if_pos rfl])
    rw [Q1.out, M1.out]
    clear Q1 M1 HEE
    unfold sentFrom
    have hsl := esort_len l
    have hss := esort_srt l
    have hsp := esort_perm l
    obtain ⟨s, hs⟩ : ∃ s, esort l = s := ⟨_, rfl⟩
    have HES := Lib.hid (show ∀ t, t.Perm l → Srt t → t = s from fun t h1 h2 => (esort_is h1 h2).trans hs)
    rw [hs] at hsl hss ⊢
    clear hs hsp
    have HSL := Lib.hid hsl
    have HSS := Lib.hid hss
    have LS := Lib.hid (show (stay (sentP a0 s) q).length ≤ 50000 from Nat.le_trans (stay_le _ _) hq)
    have LA := Lib.hid (show (antis (sentP a0 s) q).length ≤ 50000 from Nat.le_trans (antis_le _ _) hq)
    obtain ⟨P, hP⟩ : ∃ P, antis (sentP a0 s) q = P := ⟨_, rfl⟩
    obtain ⟨R, hR⟩ : ∃ R, stay (sentP a0 s) q = R := ⟨_, rfl⟩
    have HPE := Lib.hid hP
    have HRE := Lib.hid hR
    rw [hP, hR]
    rw [hR] at LS
    rw [hP] at LA
    clear hP hR hsl hss
    have HL := Lib.hid hl
    have HQL := Lib.hid hq
    clear hl hq
    go_enter Try.func20, Try.ntmps20
    go_wp2_with (first
      | (go_at_call 39; (with_reducible refine HW.out.mono ?_); rintro e w1 ⟨rfl, f1⟩; have F1 : Hid (Fresh w w1) := Lib.hid (KF0.out.step f1 (fun _ _ h => h)); have B1 := Lib.hid (f1.blk_ KB0.out); have c1 := B1.out.cell; have l1 := B1.out.lt; clear f1)
      | (go_at_call 40; go_loud ((with_reducible refine (HE.out _ F1.out).mono ?_); rintro e w2 ⟨v1, rfl, o1, f1, n1⟩; obtain ⟨A1, cap1, rfl, _, _⟩ := o1.shape; have F2 : Hid (Fresh w1 w2) := Lib.hid f1; have N1 := Lib.hid n1; have O1 := Lib.hid (o1.alloc (.cells #[.slice A1 l.length cap1] 28)); have B2 := Lib.hid (Blk.new w2 28 #[.slice A1 l.length cap1]); have BI := Lib.hid ((f1.blk_ B1.out).alloc (.cells #[.slice A1 l.length cap1] 28)); clear o1 f1 n1))
      | (go_at_call 41; go_loud ((with_reducible refine (sortE_any _ l _ O1.out (by have := HL.out; omega)).mono ?_); rintro e w3 ⟨rfl, s9, s1, s2, s3, s4⟩; have b2 := B2.out.keep s4 (O1.out.ne_blk B2.out (by decide)); have bi := BI.out.keep s4 (O1.out.ne_blk BI.out (by decide)); have B3 := Lib.hid b2; have BJ := Lib.hid bi; have S1 := Lib.hid s1; have S2 := Lib.hid s2; have S3 := Lib.hid s3; have S4 := Lib.hid s4; have cb3 := b2.cell; have ci3 := bi.cell; have lb3 := b2.lt; have li3 := bi.lt; clear b2 bi s1 s2 s3 s4)))
    obtain rfl := HES.out _ S1.out S2.out
    have F3 : Hid (Fresh w w3) := Lib.hid (((F1.out.step F2.out (fun _ _ h => h)).alloc _).step S4.out (fun k hk h => by have := N1.out k h; have := F1.out.size; omega))
    have NF : Hid (∀ k, w.heap.size ≤ k → ¬ foot g v k) := Lib.hid (fun k hk hf => by have := H.out.lt k hf; omega)
    have NS : Hid (∀ k, (Value.slice A1 l.length cap1).ownBlock = some k → ¬ foot g v k) := Lib.hid (fun k hk => NF.out k (by have := N1.out k hk; have := F1.out.size; omega))
    have HT := Lib.hid (take_anySent g v q (sentP a0 s9) w.heap.size w2.heap.size w3 (H.out.fresh F3.out) (by have := HQL.out; omega) (fun W r f => sent1 _ _ a0 _ s9 r W (f.blk_ BJ.out) (f.blk_ B3.out) (by have h := S3.out.fresh f; exact h) HSS.out (by rw [HSL.out]; have := HL.out; omega)))
    unfold TakeP at HT
    rw [HPE.out, HRE.out] at HT
    refine HT.out.mono ?_
    rintro e w4 ⟨va, v', rfl, o4, q4, t4, n4⟩
    obtain ⟨A4, cap4, rfl, _, _⟩ := o4.shape
    have b4 := B3.out.keep t4.keep (NF.out _ (by have := F1.out.size; have := F2.out.size; omega))
    have cb4 := b4.cell
    have hs4 : OwnS w4 44 7 (.slice A1 l.length cap1) l.length (cells s9) := by
      have h := S3.out.kept t4.keep (fun k hk => NS.out k hk)
      rw [HSL.out] at h
      exact h
    have HS4 := Lib.hid hs4
    have T4 := Lib.hid (Turn.after F3.out t4)
    have O4 := Lib.hid o4
    have Q4 := Lib.hid q4
    have N4 := Lib.hid (show ∀ k, (Value.slice A4 P.length cap4).ownBlock = some k → w.heap.size ≤ k from fun k hk => by have := n4 k hk; have := F3.out.size; omega)
    clear b4 hs4 t4 o4 q4 n4 HT S1 S2 S3 S4 B3 BJ cb3 ci3 lb3 li3 F1 F2 F3 N1 O1 B2 BI B1 c1 l1 NF NS HW HE KF0 KB0 HES HPE HRE HSS
    go_wp2_with fail
    go_loopg [31, 10] l.length (fun gk u31 u10 wr => ∃ (i : Nat) (vq : Value), i ≤ l.length ∧ gk = l.length - i ∧ u31 = .int .i64 i ∧ OwnS wr 46 8 u10 ((s9.take i).foldl sentStep (R, P)).2.length (rcells ((s9.take i).foldl sentStep (R, P)).2) ∧ OQ wr g vq ((s9.take i).foldl sentStep (R, P)).1 ∧ Turn w wr g v vq ∧ (∀ k, u10.ownBlock = some k → w.heap.size ≤ k) ∧ OwnS wr 44 7 (.slice A1 l.length cap1) l.length (cells s9))
    case atStart => exact ⟨0, v', by omega, rfl, rfl, O4.out, Q4.out, T4.out, N4.out, HS4.out⟩
    case round =>
      obtain ⟨i, vq, hi, rfl, rfl, hO, hQ, hT, hN, hS⟩ := hrel
      have hst := steps_le (s9.take i) (R, P)
      have hti : (s9.take i).length ≤ i := List.length_take_le _ _
      have hlq : ((s9.take i).foldl sentStep (R, P)).1.length ≤ 60000 := by have := LS.out; have := HL.out; simp only at hst; omega
      have hlm : ((s9.take i).foldl sentStep (R, P)).2.length ≤ 60000 := by have := LA.out; have := HL.out; simp only at hst; omega
      by_cases hlt : i < l.length
      · obtain ⟨A5, cap5, rfl, hc5, hm5⟩ := hO.shape
        obtain ⟨y, hy⟩ : ∃ y, s9[i]? = some y := ⟨_, List.getElem?_eq_getElem (by rw [HSL.out]; exact hlt)⟩
        have HST := Lib.hid (show (s9.take (i + 1)).foldl sentStep (R, P) = sentStep ((s9.take i).foldl sentStep (R, P)) y by rw [List.take_add_one, hy, Option.toList_some, List.foldl_append]; rfl)
        obtain ⟨⟨Q, M⟩, hQM⟩ : ∃ st, (s9.take i).foldl sentStep (R, P) = st := ⟨_, rfl⟩
        rw [hQM] at hO hQ hlq hlm hN HST ⊢
        simp only at hO hQ hlq hlm hN ⊢
        obtain ⟨g3, off3, _, hv3, hg3, _, _, hcc⟩ := hS.form (by omega)
        injection hv3 with e1 e2 e3
        subst e1 e3
        obtain ⟨x0, x1, x2, x3, x4, x5, x6⟩ := cells_at s9 _ y hy
        have x0 := hcc _ _ x0
        have x1 := hcc _ _ x1
        have x2 := hcc _ _ x2
        have x3 := hcc _ _ x3
        have x4 := hcc _ _ x4
        have x5 := hcc _ _ x5
        have x6 := hcc _ _ x6
        rw [← Nat.add_assoc] at x1 x2 x3 x4 x5 x6
        have FE : Hid (Fresh wr (wr.alloc (.cells #[.int .i64 y.a, .int .i64 y.s, .int .i64 y.t, .int .i64 y.n, .int .i64 y.d, .int .i64 y.k, .int .i64 y.x] 44))) := Lib.hid ((Keep.refl _ _).alloc _)
        have BE := Lib.hid (Blk.new wr 44 #[.int .i64 y.a, .int .i64 y.s, .int .i64 y.t, .int .i64 y.n, .int .i64 y.d, .int .i64 y.k, .int .i64 y.x])
        have HF := Lib.hid (find_any g vq Q y _ (hQ.fresh FE.out) (by omega))
        unfold Ev.val at HF
        have XO := Lib.hid hO
        have XQ := Lib.hid hQ
        have XT := Lib.hid hT
        have XN := Lib.hid hN
        have XS := Lib.hid hS
        have hqs := hQ.own.shape
        clear hcc hy e2 hQM hst hti hO hQ hT hN hS
        have hl3 := HL.out
        cases hh : rhas Q y
        · rw [hh] at HF
          obtain ⟨Aq, capq, rfl, hcq, hmq⟩ := hqs
          have hmq : capq ≤ 9223372036854775807 := by unfold maxLen at hmq; omega
          have HI := Lib.hid (XQ.out.srt.ins (x := (y, true)) hh)
          have ES : Hid ((s9.take (i + 1)).foldl sentStep (R, P) = (rins Q (y, true), M ++ [(y, false)])) := Lib.hid (by rw [HST.out]; unfold sentStep; simp only; rw [hh]; rfl)
          clear hh
          go_wp2_with (go_at_call 45; (with_reducible refine HF.out.mono ?_); rintro e w5 ⟨rfl, f5⟩; have F5 : Hid (Fresh wr w5) := Lib.hid (FE.out.step f5 (fun _ _ h => h)); have b5 := f5.blk_ BE.out; have cb5 := b5.cell; have lb5 := b5.lt; have q5 := XQ.out.fresh F5.out; have cq5 := q5.blk.cell; have lq5 := q5.blk.lt; have B5 := Lib.hid b5; have Q5 := Lib.hid q5; clear f5 b5 q5)
          obtain ⟨WA, hWA⟩ : ∃ WA, WA = (w5.alloc (.cells #[.int .i64 y.a, .int .i64 y.s, .int .i64 y.t, .int .i64 y.n, .int .i64 y.d, .int .i64 y.k, .int .i64 y.x, .bool true] 79)).drew := ⟨_, rfl⟩
          have bi : Blk WA w5.heap.size 79 (Rec.enc (y, true)).toArray := by rw [hWA]; exact (Blk.at_new (w := w5) rfl _ _).drew
          have fa1 : Fresh w5 WA := by rw [hWA]; exact ((Keep.refl _ _).alloc _).drew
          have FA : Hid (Fresh wr WA) := Lib.hid (F5.out.step fa1 (fun _ _ h => h))
          have QA := Lib.hid (XQ.out.fresh FA.out)
          have BA := Lib.hid (fa1.blk_ B5.out)
          have hvs : (Value.slice Aq Q.length capq).ownBlock ≠ some w5.heap.size := fun h => by
            have := Q5.out.own.lt h
            omega
          have HIN := Lib.hid (ins_any _ w5.heap.size Q (y, true) WA QA.out.own bi hvs (by omega))
          have HG := Lib.hid (QA.out.n)
          clear hvs bi fa1
          simp only at HIN
          rw [hWA] at HIN FA QA BA
          go_region_law (rw [if_pos (by simp [Region.wanted])]; go_simp; go_at_call 46; (with_reducible refine HIN.out.mono ?_); rintro en2 w6 ⟨v6, rfl, own, kp, lt⟩; obtain ⟨A9, cap9, rfl, _, _⟩ := own.shape; have b2 := QA.out.blk.keep kp HG.out; have c2 := b2.cell; have c3 := b2.frozen; have lg2 := b2.lt; have be := BA.out.keep kp (QA.out.own.ne_blk BA.out (by decide)); have ce6 := be.cell; have le6 := be.lt; have OW := Lib.hid own; have KP := Lib.hid kp; have LT := Lib.hid lt; clear own kp lt be b2)
          all_goals
            obtain ⟨q7, t7⟩ := QA.out.put (l' := rins Q (y, true)) (v' := .slice A9 (rins Q (y, true)).length cap9) OW.out HI.out KP.out (fun i hi => hi) LT.out
            obtain ⟨W7, hW7⟩ : ∃ W7, w6.setCell ⟨g, 0, none⟩ (.slice A9 (rins Q (y, true)).length cap9) = W7 := ⟨_, rfl⟩
            rw [hW7] at q7 t7 ⊢
            have nf : Hid (∀ k, foot g (.slice Aq Q.length capq) k → k < wr.heap.size) := Lib.hid (fun k hk => XQ.out.lt k hk)
            have om7 := (XO.out.fresh FA.out).kept t7.keep (fun k hk hf => by
              rcases hf with rfl | hf
              · exact (XO.out.fresh FA.out).ne_blk QA.out.blk (by decide) hk
              · exact (XO.out.fresh FA.out).ne_own QA.out.own (by decide) k hk hf)
            have s7 := (XS.out.fresh FA.out).kept t7.keep (fun k hk hf => by
              rcases hf with rfl | hf
              · exact (XS.out.fresh FA.out).ne_blk QA.out.blk (by decide) hk
              · exact (XS.out.fresh FA.out).ne_own QA.out.own (by decide) k hk hf)
            have be7 := BA.out.keep t7.keep (fun hf => by have := nf.out _ hf; omega)
            have T7 := Lib.hid (Turn.two XT.out (Turn.after FA.out t7))
            have ce7 := be7.cell
            have le7 := be7.lt
            have Q7 := Lib.hid q7
            have OM7 := Lib.hid om7
            have S7 := Lib.hid s7
            have hL1 := Lib.hid (show M.length + 1 ≤ maxLen from one_le_maxLen (by omega))
            have hL2 := Lib.hid (show (M.length + 1) * 64 ≤ 140737488355328 by omega)
            have HC : Hid (Src (W7.alloc (.cells #[.int .i64 y.a, .int .i64 y.s, .int .i64 y.t, .int .i64 y.n, .int .i64 y.d, .int .i64 y.k, .int .i64 y.x, .bool false] 46)) 8 (.slice (some ⟨W7.heap.size, 0, none⟩) 1 1) 1 (rcells [(y, false)])) := Lib.hid (Src.one_new W7 46 8 #[.int .i64 y.a, .int .i64 y.s, .int .i64 y.t, .int .i64 y.n, .int .i64 y.d, .int .i64 y.k, .int .i64 y.x, .bool false] rfl)
            have h08 : Hid (0 < 8) := Lib.hid (by omega)
            have FW : Hid (w.heap.size ≤ W7.heap.size) := Lib.hid T7.out.keep.size
            clear q7 t7 om7 s7 be7 hW7 c2 c3 lg2 ce6 le6 OW KP LT cb5 lb5 cq5 lq5
            go_wp2_with (at_builtin; go_loud (refine wpList_append_OwnS _ rfl _ _ 27 rfl 46 i1 _ 8 64 Try.underlying27 hi1 hy0 hy1 hy2 rfl h08.out (.slice A5 M.length cap5) M.length (rcells M) rfl (OM7.out.alloc _) (.slice (some ⟨W7.heap.size, 0, none⟩) 1 1) 1 (rcells [(y, false)]) rfl HC.out (rcells_one _) hL1.out hL2.out ?_; intro v8 w8 o8 k8 n8; have O8 := Lib.hid o8; have K8 := Lib.hid k8; have N8 := Lib.hid n8; clear o8 k8 n8))
            go_roundg (l.length - (i + 1))
            case measure => omega
            case rel =>
              refine ⟨i + 1, .slice A9 (rins Q (y, true)).length cap9, by omega, rfl, by go_num, ?_, ?_, ?_, ?_, ?_⟩
              · rw [ES.out]; simp only [List.length_append, rcells_append, List.length_cons, List.length_nil, Nat.zero_add]; exact O8.out
              · rw [ES.out]; exact (Q7.out.fresh ((Keep.refl _ _).alloc _)).kept K8.out (fun k hf hm => by
                  rcases hf with rfl | hf
                  · exact OM7.out.ne_blk Q7.out.blk (by decide) hm
                  · exact OM7.out.ne_own Q7.out.own (by decide) k hm hf)
              · exact ⟨(T7.out.keep.alloc _).step K8.out (fun k hk h => by have := XN.out k h; omega), T7.out.later⟩
              · intro k hk
                rcases N8.out k hk with h | h
                · exact XN.out k h
                · simp at h; have := FW.out; omega
              · exact (S7.out.alloc _).kept K8.out (fun k hk hm => OM7.out.ne_own S7.out (by decide) k hm hk)
        · have hri := rhas_lt hh
          obtain ⟨b, hyb⟩ := rhas_at hh
          have ES : Hid ((s9.take (i + 1)).foldl sentStep (R, P) = (rmark Q y, M)) := Lib.hid (by rw [HST.out]; unfold sentStep; simp only; rw [hh]; rfl)
          obtain ⟨gq, offq, capq, hvq, hgq, hcq, hmq, _⟩ := XQ.out.own.form (by omega)
          subst hvq
          have hmq : capq ≤ 9223372036854775807 := by unfold maxLen at hmq; omega
          rw [hh] at HF
          have HRM : Hid (rmark Q y = Q.set (rpos Q y) (y, true)) := Lib.hid rfl
          obtain ⟨N, hN⟩ : ∃ N, rpos Q y = N := ⟨_, rfl⟩
          rw [hN] at HF hri hyb HRM
          have HYB := Lib.hid hyb
          clear hh hyb hN
          go_wp2_with (go_at_call 45; (with_reducible refine HF.out.mono ?_); rintro e w5 ⟨rfl, f5⟩; have F5 : Hid (Fresh wr w5) := Lib.hid (FE.out.step f5 (fun _ _ h => h)); have q5 := XQ.out.fresh F5.out; have cq5 := q5.blk.cell; have lq5 := q5.blk.lt; have fr5 := (OwnS.at_ q5.own).2.1; have y7 := (OwnS.at_ q5.own).2.2.2.2 _ _ (rcells_at Q N _ HYB.out).2.2.2.2.2.2.2; rw [← Nat.add_assoc] at y7; have Q5 := Lib.hid q5; clear f5 q5)
          obtain ⟨q6, t6⟩ := Q5.out.mark HYB.out true
          have om6 := (XO.out.fresh F5.out).kept t6.keep (fun k hk hf => by
            rcases hf with rfl | hf
            · exact (XO.out.fresh F5.out).ne_blk Q5.out.blk (by decide) hk
            · exact (XO.out.fresh F5.out).ne_own Q5.out.own (by decide) k hk hf)
          have s6 := (XS.out.fresh F5.out).kept t6.keep (fun k hk hf => by
            rcases hf with rfl | hf
            · exact (XS.out.fresh F5.out).ne_blk Q5.out.blk (by decide) hk
            · exact (XS.out.fresh F5.out).ne_own Q5.out.own (by decide) k hk hf)
          go_roundg (l.length - (i + 1))
          case measure => omega
          case rel =>
            refine ⟨i + 1, .slice (some ⟨gq, offq, none⟩) Q.length capq, by omega, rfl, by go_num, ?_, ?_, ?_, XN.out, s6⟩
            · rw [ES.out]; exact om6
            · rw [ES.out]; simp only; rw [HRM.out]; exact q6
            · exact Turn.two XT.out (Turn.after F5.out t6)
      · obtain rfl : i = l.length := by omega
        have e1 : s9.take l.length = s9 := by rw [← HSL.out]; exact List.take_length
        rw [e1] at hO hQ hlm
        have XO := Lib.hid hO
        have XQ := Lib.hid hQ
        have XT := Lib.hid hT
        have XN := Lib.hid hN
        clear hO hQ hT hN hS hst hti
        go_wp2_with fail
        go_ret2
        exact ⟨_, vq, rfl, XO.out, XQ.out, XT.out, XN.out⟩
end Go.Proofs.Ytbplomnoapndnaa
