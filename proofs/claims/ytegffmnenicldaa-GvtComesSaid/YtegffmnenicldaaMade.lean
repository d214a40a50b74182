/-
  The law's made: a world of workers with open times.
-/
import Derived.Test.YtegffmnenicldaaMadeP
import Derived.Test.YtegffmnenicldaaBegin
namespace Go.Proofs.Ytegffmnenicldaa
open Go.RowKit Go.Maps
attribute [local go_sem ↓] Go.wp_at_zero Go.wp_at_succ run_min

def okT (t : Int) : Bool := decide (0 ≤ t) && decide (t ≤ 1073741824)
def LA.clip (o : LA) : List Int := o.l.filter okT
theorem info_wptr : (Try.prog.info? 23).map (fun i => (i.zero, i.size, i.bytes)) = some (some (.pointer none), 1, 8) := by kernel_rfl
theorem info_ilist : (Try.prog.info? 28).map (fun i => (i.zero, i.size, i.bytes)) = some (some (.slice none 0 0), 1, 24) := by kernel_rfl
theorem ptrs_one (gs : List Nat) : ∀ u ∈ ptrs gs, u.oneCell' = true := by
  intro u hu
  simp only [ptrs, List.mem_map] at hu
  obtain ⟨g, _, rfl⟩ := hu
  rfl
theorem vos_one {_W : World} {_e : TypeId} {n : Nat} {_v : Value} : (Value.slice (some ⟨n, n, none⟩) n n).oneCell' = true := rfl
set_option maxRecDepth 100000 in
set_option maxHeartbeats 4000000 in
theorem made_any (A : Option Addr) (c : Nat) (os : List LA) (w : World) (h : Las w A os) (h1 : 1 ≤ os.length) (h8 : os.length ≤ 8) (h20 : ∀ o ∈ os, o.l.length ≤ 20) :
    Calls Try.prog 19 #[.slice A os.length c] w fun e w' => ∃ gx gs bs vos vw vo gm gr, e = .returned (.pointer (some ⟨gx, 0, none⟩)) ∧ SW w gx gs bs vos vw vo (.slice none 0 0) gm gr os.length 0 (WS.made (os.map LA.clip)) w' := by
  obtain ⟨i0, hi, hz0, hz1, hz2⟩ := info_parts info_wptr
  obtain ⟨i1, hi1, hy0, hy1, hy2⟩ := info_parts info_ilist
  obtain ⟨i2, hi2, hx0, hx1, hx2⟩ := info_parts info_int
  have h01 : Hid (0 < 1) := Lib.hid (by omega)
  have H := Lib.hid h
  have H20 := Lib.hid h20
  obtain ⟨LS, hLS⟩ : ∃ LS, os.map LA.clip = LS := ⟨_, rfl⟩
  have HLS := Lib.hid hLS
  rw [hLS]
  clear h h20 hLS
  have BX := Lib.hid (Blk.new w 54 #[.slice none 0 0, .slice none 0 0, .slice none 0 0, .pointer none, .int .i64 0, .bool false])
  go_enter Try.func19, Try.ntmps19
  go_wp2_with (go_at_call 26; (with_reducible refine (newM_any os.length h1 h8 _).mono ?_); rintro e w1 ⟨gm, gr, rfl, q1, f1, n1, n2⟩; have B1 := f1.blk_ BX.out; have b1 := B1.cell; have l1 := B1.lt; have z1 := B1.frozen; have HB1 := Lib.hid B1; have Q1 := Lib.hid q1; have F1 := Lib.hid f1; have N1 := Lib.hid n1; have N2 := Lib.hid n2; clear q1 f1 n1 n2 B1)
  have M0 : Hid (MW w w.heap.size [] [] [] (.slice none 0 0) (.slice none 0 0) gm gr os.length 0 0 LS (w1.setCell ⟨w.heap.size, 3, none⟩ (.pointer (some ⟨gm, 0, none⟩)))) := Lib.hid (by
    have hl := HB1.out.lt
    have e1 := N1.out
    have e2 := N2.out
    simp at e1 e2
    have KK : Keep (fun q => q = w.heap.size) w1 (w1.setCell ⟨w.heap.size, 3, none⟩ (.pointer (some ⟨gm, 0, none⟩))) := Keep.setCell (S := fun q => q = w.heap.size) (p := ⟨w.heap.size, 3, none⟩) (Keep.refl _ w1) (fun _ => rfl) _
    refine ⟨Keep.setCell (p := ⟨w.heap.size, 3, none⟩) (((Keep.refl (fun _ => False) w).alloc _).step F1.out (fun _ _ h => h)) (fun he => by simp at he) _, by simpa using HB1.out.set_ 3 (.pointer (some ⟨gm, 0, none⟩)), OwnS.nil _ _ _, OwnS.nil _ _ _, fun i hi => (by omega), fun i l hi => (by omega), Q1.out.kept KK (by omega) (by omega), ⟨⟨rfl, rfl⟩, rfl, by omega⟩, ⟨by simp, by simp⟩, fun i j v u _ h => (by simp at h), fun v h => (by cases h), ⟨⟨Nat.le_refl _, by omega, by omega⟩, ⟨fun g h => by (cases h), fun g h => by (cases h)⟩, fun v h => by (cases h), fun k h => (by simp [Value.ownBlock] at h), fun k h => (by simp [Value.ownBlock] at h)⟩⟩)
  obtain ⟨w2, hw2⟩ : ∃ w2, w1.setCell ⟨w.heap.size, 3, none⟩ (.pointer (some ⟨gm, 0, none⟩)) = w2 := ⟨_, rfl⟩
  rw [hw2] at M0
  try rw [hw2]
  clear hw2 b1 l1 z1 HB1 Q1 F1 N1 N2 BX
  go_wp2_with fail
  go_loopg [6] os.length (fun gk u wr => ∃ (i : Nat) (gs bs : List Nat) (vos : List Value) (vw vo : Value), i ≤ os.length ∧ gk = os.length - i ∧ u = .int .i64 i ∧ MW w w.heap.size gs bs vos vw vo gm gr os.length i i LS wr)
  case atStart => exact ⟨0, [], [], [], _, _, by omega, rfl, rfl, M0.out⟩
  case round =>
    obtain ⟨i, gs, bs, vos, vw, vo, hik, rfl, rfl, hM⟩ := hrel
    have HM := Lib.hid hM
    clear hM M0
    by_cases hlt : i < os.length
    · obtain ⟨o, ho⟩ : ∃ o, os[i]? = some o := ⟨_, List.getElem?_eq_getElem hlt⟩
      have hlen := H20.out o (List.mem_of_getElem? ho)
      have HLI : Hid (LS[i]? = some (o.l.filter okT)) := Lib.hid (by rw [← HLS.out, List.getElem?_map, ho]; rfl)
      obtain ⟨ab, aoff, rfl, alt, ac, ai⟩ := H.out.at_ i o ho
      obtain ⟨oA, ocap, l⟩ := o
      simp only at hlen ac ai HLI
      have hcap := (H.out.ok _ (List.mem_of_getElem? ho)).2
      simp only at hcap
      have AC := Lib.hid ac
      have AI := Lib.hid ai
      obtain ⟨Aw, cw, rfl, hcw, hmw⟩ := HM.out.ow.shape
      have hmw : cw ≤ 9223372036854775807 := by unfold maxLen at hmw; omega
      obtain ⟨Ao, co, rfl, hco, hmo⟩ := HM.out.oo.shape
      have hmo : co ≤ 9223372036854775807 := by unfold maxLen at hmo; omega
      have ii1 : (i : Int) < (os.length : Int) := by omega
      have g1 : i + 1 ≤ maxLen := one_le_maxLen (by omega)
      have g2 : (i + 1) * 8 ≤ 140737488355328 := by omega
      have g3 : (i + 1) * 24 ≤ 140737488355328 := by omega
      clear ac ai ho
      go_upto_region 12 with (go_at_call 9; (with_reducible refine (newW_any _).mono ?_); rintro e w3 ⟨ga, ba, rfl, q3, f3, n3, n4⟩; have S3 := Lib.hid (HM.out.fresh f3); have Q3 := Lib.hid q3; have F3 := Lib.hid f3; have N3 := Lib.hid n3; have N4 := Lib.hid n4; have b3 := S3.out.bx.cell; have l3 := S3.out.bx.lt; clear q3 f3 n3 n4)
      have S4 : Hid (MW w w.heap.size gs bs vos (.slice Aw i cw) (.slice Ao i co) gm gr os.length i i LS (w3.alloc (.cells #[.pointer (some ⟨ga, 0, none⟩)] 23))) := Lib.hid (S3.out.fresh ((Keep.refl _ w3).alloc _))
      have Q4 : Hid (SWork (w3.alloc (.cells #[.pointer (some ⟨ga, 0, none⟩)] 23)) ga ba 0 g0) := Lib.hid (Q3.out.fresh ((Keep.refl _ w3).alloc _))
      have SRC4 : Hid (Src (w3.alloc (.cells #[.pointer (some ⟨ga, 0, none⟩)] 23)) 1 (.slice (some ⟨w3.heap.size, 0, none⟩) 1 1) 1 (ptrs [ga])) := Lib.hid (Src.one_new w3 23 1 #[.pointer (some ⟨ga, 0, none⟩)] rfl)
      go_upto_region 13 with (at_builtin; (refine wpList_append_OwnS _ rfl _ _ 50 rfl 23 i0 (.pointer none) 1 8 Try.underlying50 hi hz0 hz1 hz2 rfl h01.out (.slice Aw i cw) i (ptrs gs) rfl S4.out.ow (.slice (some ⟨w3.heap.size, 0, none⟩) 1 1) 1 (ptrs [ga]) rfl SRC4.out (ptrs_one _) g1 g2 ?_); intro v5 w5 o5 k5 n5; have b5 := S4.out.bx.keep k5 (S4.out.ow.ne_blk S4.out.bx (by decide)); have c5 := b5.cell; have z5 := b5.frozen; have l5 := b5.lt; have O5 := Lib.hid o5; have K5 := Lib.hid k5; have N5 := Lib.hid n5; obtain ⟨A5, cap5, rfl, _, _⟩ := o5.shape; clear o5 k5 n5 b5)
      have S6 : Hid (MW w w.heap.size (gs ++ [ga]) (bs ++ [ba]) vos (.slice A5 (i + 1) cap5) (.slice Ao i co) gm gr os.length (i + 1) i LS (w5.setCell ⟨w.heap.size, 0, none⟩ (.slice A5 (i + 1) cap5))) := Lib.hid (by
        have e3 := N3.out
        have e4 := N4.out
        have hw := HM.out.lt_w
        have hs := HM.out.f.size
        refine S4.out.addW Q4.out (fun h => by have := hw.1 _ h; omega) (fun h => by have := hw.2 _ h; omega) (by omega) ?_ K5.out N5.out
        have := O5.out
        simpa [ptrs] using this)
      obtain ⟨w6, hw6⟩ : ∃ w6, w5.setCell ⟨w.heap.size, 0, none⟩ (.slice A5 (i + 1) cap5) = w6 := ⟨_, rfl⟩
      rw [hw6] at S6 ⊢
      clear hw6 c5 z5 l5 O5 K5 N5 S4 Q4 SRC4 b3 l3 S3 Q3 F3 N3 N4
      have AC6 := S6.out.f.cell_ AC.out
      go_wp2_with fail
      go_loopg [8, 9] l.length (fun gk v u wr => ∃ (q : Nat) (m : Nat), q ≤ l.length ∧ gk = l.length - q ∧ u = .int .i64 q ∧ m ≤ q ∧ OwnS wr 3 1 v m (ints ((l.take q).filter okT)) ∧ (∀ k, v.ownBlock = some k → w6.heap.size ≤ k) ∧ Fresh w6 wr)
      case atStart => exact ⟨0, 0, by omega, rfl, rfl, by omega, OwnS.nil _ _ _, fun k h => by simp [Value.ownBlock] at h, Keep.refl _ _⟩
      case round =>
        obtain ⟨q, m, hq, rfl, rfl, hmq, hO, hN, hF⟩ := hrel
        have HO := Lib.hid hO
        have HN := Lib.hid hN
        have HF := Lib.hid hF
        have ACr := hF.cell_ AC6
        obtain ⟨Av, cv, rfl, hcv, hmv⟩ := hO.shape
        have hmv : cv ≤ 9223372036854775807 := by unfold maxLen at hmv; omega
        clear hO hN hF AC6
        by_cases hql : q < l.length
        · obtain ⟨t, ht⟩ : ∃ t, l[q]? = some t := ⟨_, List.getElem?_eq_getElem hql⟩
          obtain ⟨tb, toff, rfl, tlt, tc⟩ := AI.out q t ht
          have tc := HF.out.cell_ (S6.out.f.cell_ tc)
          have HT : Hid ((l.take (q + 1)).filter okT = (l.take q).filter okT ++ (if okT t then [t] else [])) := Lib.hid (by
            rw [List.take_add_one, ht, Option.toList_some, List.filter_append]
            congr 1
            by_cases hk : okT t <;> simp [hk])
          have qi1 : (q : Int) < (l.length : Int) := by omega
          have g4 : m + 1 ≤ maxLen := one_le_maxLen (by omega)
          have g5 : (m + 1) * 8 ≤ 140737488355328 := by omega
          clear ht
          by_cases t0 : 0 ≤ t
          · have d0 : decide (0 ≤ t) = true := decide_eq_true t0
            by_cases t1 : t ≤ 1073741824
            · have d1 : decide (t ≤ 1073741824) = true := decide_eq_true t1
              have HK : Hid (okT t = true) := Lib.hid (by unfold okT; rw [d0, d1]; rfl)
              have OA : Hid (OwnS (wr.alloc (.cells #[.int .i64 t] 3)) 3 1 (.slice Av m cv) m (ints ((l.take q).filter okT))) := Lib.hid (HO.out.alloc _)
              have SRC : Hid (Src (wr.alloc (.cells #[.int .i64 t] 3)) 1 (.slice (some ⟨wr.heap.size, 0, none⟩) 1 1) 1 (ints [t])) := Lib.hid (Src.one_new wr 3 1 #[.int .i64 t] rfl)
              clear t0 t1
              go_wp2_with (at_builtin; (refine wpList_append_OwnS _ rfl _ _ 28 rfl 3 i2 (.int .i64 0) 1 8 Try.underlying28 hi2 hx0 hx1 hx2 rfl h01.out (.slice Av m cv) m (ints ((l.take q).filter okT)) rfl OA.out (.slice (some ⟨wr.heap.size, 0, none⟩) 1 1) 1 (ints [t]) rfl SRC.out (ints_one _) g4 g5 ?_); intro v7 w7 o7 k7 n7; rw [← ints_app] at o7; have O7 := Lib.hid o7; have K7 := Lib.hid k7; have N7 := Lib.hid n7; obtain ⟨A7, cap7, rfl, _, _⟩ := o7.shape; clear o7 k7 n7)
              go_roundg (l.length - (q + 1))
              case measure => omega
              case rel =>
                have hs := HF.out.size
                refine ⟨q + 1, m + 1, by omega, rfl, by go_num, by omega, ?_, fun k hk => ?_, ?_⟩
                · rw [HT.out, HK.out, if_pos rfl]
                  exact O7.out
                · rcases N7.out k hk with h | h
                  · exact HN.out k h
                  · simp at h; omega
                · exact (HF.out.alloc _).step K7.out (fun k hk h => by have := HN.out k h; omega)
            · have d1 : decide (t ≤ 1073741824) = false := decide_eq_false t1
              have HK : Hid (okT t = false) := Lib.hid (by unfold okT; rw [d0, d1]; rfl)
              clear t0 t1
              go_wp2_with fail
              go_roundg (l.length - (q + 1))
              case measure => omega
              case rel => exact ⟨q + 1, m, by omega, rfl, by go_num, by omega, by rw [HT.out, HK.out]; simpa using HO.out, HN.out, HF.out⟩
          · have d0 : decide (0 ≤ t) = false := decide_eq_false t0
            have HK : Hid (okT t = false) := Lib.hid (by unfold okT; rw [d0]; rfl)
            clear t0
            go_wp2_with fail
            go_roundg (l.length - (q + 1))
            case measure => omega
            case rel => exact ⟨q + 1, m, by omega, rfl, by go_num, by omega, by rw [HT.out, HK.out]; simpa using HO.out, HN.out, HF.out⟩
        · obtain rfl : q = l.length := by omega
          rw [List.take_length] at HO
          have hml : m = (l.filter okT).length := by have := HO.out.len; simpa [ints] using this.symm
          have HML := Lib.hid hml
          clear hml
          have S7 : Hid (MW w w.heap.size (gs ++ [ga]) (bs ++ [ba]) vos (.slice A5 (i + 1) cap5) (.slice Ao i co) gm gr os.length (i + 1) i LS (wr.alloc (.cells #[.slice Av m cv] 28))) := Lib.hid ((S6.out.fresh HF.out).fresh ((Keep.refl _ wr).alloc _))
          have OV7 : Hid (OwnS (wr.alloc (.cells #[.slice Av m cv] 28)) 3 1 (.slice Av m cv) (l.filter okT).length (ints (l.filter okT))) := Lib.hid (by rw [← HML.out]; exact HO.out.alloc _)
          have NV7 : Hid (∀ k, (Value.slice Av m cv).ownBlock = some k → w.heap.size ≤ k ∧ k ≠ gr ∧ ∀ u ∈ vos, u.ownBlock ≠ some k) := Lib.hid fun k hk => by
            have e1 := HN.out k hk
            have e2 := S6.out.f.size
            have e3 : gr < w6.heap.size := S6.out.m.os.lt (k := gr) rfl
            refine ⟨by omega, by omega, fun u hu hk2 => ?_⟩
            have := S6.out.lt_v hu hk2
            omega
          have SRC7 : Hid (Src (wr.alloc (.cells #[.slice Av m cv] 28)) 1 (.slice (some ⟨wr.heap.size, 0, none⟩) 1 1) 1 [.slice Av m cv]) := Lib.hid (Src.one_new wr 28 1 #[.slice Av m cv] rfl)
          have cr := (S6.out.fresh HF.out).bx.cell
          have lr := (S6.out.fresh HF.out).bx.lt
          go_wp2_with (at_builtin; (refine wpList_append_OwnS _ rfl _ _ 42 rfl 28 i1 (.slice none 0 0) 1 24 Try.underlying42 hi1 hy0 hy1 hy2 rfl h01.out (.slice Ao i co) i vos rfl S7.out.oo (.slice (some ⟨wr.heap.size, 0, none⟩) 1 1) 1 [.slice Av m cv] rfl SRC7.out (fun u hu => by simp at hu; subst hu; rfl) g1 g3 ?_); intro v9 w9 o9 k9 n9; have b9 := S7.out.bx.keep k9 (S7.out.oo.ne_blk S7.out.bx (by decide)); have c9 := b9.cell; have z9 := b9.frozen; have l9 := b9.lt; have O9 := Lib.hid o9; have K9 := Lib.hid k9; have N9 := Lib.hid n9; obtain ⟨A9, cap9, rfl, _, _⟩ := o9.shape; clear o9 k9 n9 b9)
          go_roundg (os.length - (i + 1))
          case measure => omega
          case rel => exact ⟨i + 1, _, _, _, _, _, by omega, rfl, by go_num, S7.out.addO HLI.out OV7.out NV7.out O9.out K9.out N9.out⟩
    · obtain rfl : i = os.length := by omega
      go_wp2_with fail
      go_ret
      exact ⟨_, gs, bs, vos, vw, vo, gm, gr, rfl, HM.out.done (by rw [← HLS.out]; simp)⟩
end Go.Proofs.Ytegffmnenicldaa
