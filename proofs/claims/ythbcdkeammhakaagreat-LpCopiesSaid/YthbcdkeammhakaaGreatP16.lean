/- Chapter 13: OTakeOOflush. -/
import Derived.Test.YthbcdkeammhakaaGreatP15
set_option maxRecDepth 100000
set_option maxHeartbeats 16000000
namespace Go.Proofs.YthbcdkeammhakaaGreat
open Go.RowKit Go.Shelf
attribute [local go_sem] Oper.semAt_some
attribute [local go_sem ↓] Go.wp_at_zero Go.wp_at_succ
theorem take_anyFlush (g : Nat) (v : Value) (l : List Rec) (p : Rec → Bool) (x1 : Nat) (w : World) (h : OQ w g v l) (hl : l.length ≤ 100000)
  (hp : ∀ W r, Fresh w W → Calls Tryz.prog 101 #[Rec.val r, .pointer (some ⟨x1, 0, none⟩)] W fun e w' => e = .returned (.bool (p r)) ∧ Fresh W w') :
  Calls Tryz.prog 94 #[.pointer (some ⟨g, 0, none⟩), .func (.func 101) #[] #[.pointer (some ⟨x1, 0, none⟩)]] w (TakeP g v l p w) := by
 have HQ := Lib.hid h
 unfold Rec.val at hp
 have HP := Lib.hid hp
 obtain ⟨W0, hW0⟩ : ∃ W0, ((w.alloc (.cells #[.func (.func 101) #[] #[.pointer (some ⟨x1, 0, none⟩)]] 145)).alloc (.cells #[.slice none 0 0] 35)).alloc (.cells #[.slice none 0 0] 133) = W0 := ⟨_, rfl⟩
 have F0 : Fresh w W0 := hW0 ▸ (((Keep.refl _ w).alloc _).alloc _).alloc _
 have B0 : Blk W0 w.heap.size 145 #[.func (.func 101) #[] #[.pointer (some ⟨x1, 0, none⟩)]] := hW0 ▸ ((Blk.new w _ _).alloc _).alloc _
 have B1 : Blk W0 (w.heap.size + 1) 35 #[.slice none 0 0] := hW0 ▸ (Blk.at_new (by simp) _ _).alloc _
 have B2 : Blk W0 (w.heap.size + 2) 133 #[.slice none 0 0] := hW0 ▸ Blk.at_new (by simp) _ _
 have HA := Lib.hid (oall_any g v l W0 (h.fresh F0) hl)
 have KF := Lib.hid F0
 have KB0 := Lib.hid B0
 have KB1 := Lib.hid B1
 have KB2 := Lib.hid B2
 obtain ⟨i0, hi, hz0, hz1, hz2⟩ := info_parts info_rec
 obtain ⟨i1, hi1, hy0, hy1, hy2⟩ := info_parts info_msg
 clear h hp F0 B0 B1 B2
 refine (callsIn_wide (n := 6)).1 ?_
 refine callsIn_of_wp_marks Tryz.func94 rfl trivial ?_ rfl
 simp only [Tryz.ntmps94, List.size_toArray, List.length_cons, List.length_nil, Nat.reduceAdd, Nat.reduceSub, Array.replicate_succ, Array.replicate_zero, List.push_toArray, List.append_toArray, List.nil_append, List.cons_append]
 refine wpIn_wide.2 ?_
 go_wp2_with (go_at_call 87; (with_reducible refine HA.out.mono ?_); rintro e w1 ⟨b1, v1, rfl, B1, O1, F1, N1, M1⟩)
 have hbk : bk v1 < w1.heap.size := by
  unfold bk
  cases hv : v1.ownBlock with
  | none => have := B1.lt; simp; omega
  | some k => simpa using O1.lt hv
 have KO := Lib.hid O1
 have KB := Lib.hid B1
 have T0 : Hid (TInv p (.func (.func 101) #[] #[.pointer (some ⟨x1, 0, none⟩)]) w w1.heap.size [] w1) := Lib.hid ⟨KF.out.step F1 (fun _ _ h => h), Nat.le_refl _, F1.blk_ KB0.out, ⟨_, F1.blk_ KB1.out, OwnS.nil _ _ _, by simp [Value.ownBlock]⟩, ⟨_, F1.blk_ KB2.out, OwnS.nil _ _ _, by simp [Value.ownBlock]⟩⟩
 have szF := (KF.out.step F1 (fun _ _ h => h)).size
 clear O1 B1 F1 N1 M1 KF KB0 KB1 KB2 HA hW0
 refine (wpIn_wide (n := 6)).1 ?_
 refine wpIn_rangeFunc_ownH rfl (by omega) (gf := 126) (lb := #[.pointer (some ⟨b1, 0, none⟩)]) rfl trivial (enters_of Tryz.func126 (by kernel_rfl) rfl)
  (all_stops Fence.wide (6 - 1) trivial rfl (by omega) b1 v1 l (by omega) w1 KB.out KO.out) keepsB_t keepsB_b (Below.refl _ _) (fun _ => rfl)
  (TInv p (.func (.func 101) #[] #[.pointer (some ⟨x1, 0, none⟩)]) w w1.heap.size) (fun _ _ _ => False) (fun pre X Y row hs hg hr => hs.own (by omega) hg hr) (fun _ _ _ _ _ hs _ _ => hs)
  T0.out
  (fun y a' W => ∃ Bx, Blk W Bx 41 #[.int .i64 y.1.a, .int .i64 y.1.s, .int .i64 y.1.t, .int .i64 y.1.n, .int .i64 y.1.d, .int .i64 y.1.k, .int .i64 y.1.x] ∧ a' = { tmps := #[.pointer (some ⟨g, 0, none⟩), .func (.func 101) #[] #[.pointer (some ⟨x1, 0, none⟩)], undef, .pointer (some ⟨w.heap.size, 0, none⟩), .slice none 0 0, .pointer (some ⟨w.heap.size + 1, 0, none⟩), .pointer (some ⟨w.heap.size + 1 + 1, 0, none⟩), .pointer (some ⟨Bx, 0, none⟩), .bool y.2, undef, .pointer (some ⟨g, 0, none⟩), .func (.func 126) #[] #[.pointer (some ⟨b1, 0, none⟩)], .agg #[.int .i64 y.1.a, .int .i64 y.1.s, .int .i64 y.1.t, .int .i64 y.1.n, .int .i64 y.1.d, .int .i64 y.1.k, .int .i64 y.1.x], .bool y.2, undef, undef, undef, undef, undef, undef, undef, undef, undef, undef, undef, undef, undef, undef, undef, undef, undef, undef, undef, undef], defers := [] }) ?ax ?assign ?body ?done ?stop
 case ax =>
  rintro x a' u X Y row ⟨Bx, h2, h3⟩ hg hr
  exact ⟨Bx, blk_grown h2 hg (fun r e => (hr r e).2), h3⟩
 case assign =>
  rintro lp pre y W K f hK
  unfold oenc Ev.val
  gi_wp2
  refine hK _ _ ((KeepsOthers.alloc _ _).from _) ((KeepsB.refl _ _ _).alloc _) (f.fresh ((Keep.refl _ _).alloc _)) ⟨W.heap.size, Blk.new W _ _, rfl⟩
 case body =>
  rintro lp pre y a' W hlp hrec ⟨f2, sz, bf, ⟨va, ba, oa, na⟩, ⟨vr, br, orr, nr⟩⟩ ⟨Bx, bx, rfl⟩ hlt
  obtain ⟨A2, cap2, rfl, _, _⟩ := oa.shape
  obtain ⟨A3, cap3, rfl, _, _⟩ := orr.shape
  have al := antis_le p pre
  have rl := stay_le p pre
  have hL1 := Lib.hid (show (antis p pre).length + 1 ≤ maxLen from one_le_maxLen (by omega))
  have hL2 := Lib.hid (show ((antis p pre).length + 1) * 64 ≤ 140737488355328 by omega)
  have hM1 := Lib.hid (show (stay p pre).length + 1 ≤ maxLen from one_le_maxLen (by omega))
  have hM2 := Lib.hid (show ((stay p pre).length + 1) * 64 ≤ 140737488355328 by omega)
  have HFA := Lib.hid (antis_snoc p pre y)
  have HFR := Lib.hid (stay_snoc p pre y)
  obtain ⟨P, hP⟩ : ∃ P, antis p pre = P := ⟨_, rfl⟩
  obtain ⟨R, hR⟩ : ∃ R, stay p pre = R := ⟨_, rfl⟩
  rw [hP] at ba oa na hL1 hL2 HFA
  rw [hR] at br orr nr hM1 hM2 HFR
  clear hP hR al rl
  have h08 : Hid (0 < 8) := Lib.hid (by omega)
  have cX := bx.cell
  have cF := bf.cell
  have lF := bf.lt
  have lX := bx.lt
  have c2 := ba.cell
  have c3 := br.cell
  have UX := Lib.hid bx
  have UA := Lib.hid ba
  have UB := Lib.hid oa
  have UC := Lib.hid na
  have UD := Lib.hid br
  have UE := Lib.hid orr
  have UF := Lib.hid nr
  have UG := Lib.hid f2
  have UH := Lib.hid bf
  have SZ := Lib.hid sz
  clear bx ba oa na br orr nr f2 bf hrec hlt sz
  have HPY := Lib.hid (HP.out (W.alloc (.cells #[.int .i64 y.1.a, .int .i64 y.1.s, .int .i64 y.1.t, .int .i64 y.1.n, .int .i64 y.1.d, .int .i64 y.1.k, .int .i64 y.1.x, .bool y.2] 137)) y (UG.out.alloc _))
  have BR := Lib.hid (Blk.new W 137 #[.int .i64 y.1.a, .int .i64 y.1.s, .int .i64 y.1.t, .int .i64 y.1.n, .int .i64 y.1.d, .int .i64 y.1.k, .int .i64 y.1.x, .bool y.2])
  cases hq : p y
  ·rw [hq] at HFA HFR HPY
   clear hq
   gi_wp2_with (first
    | (refine ⟨trivial, ?_⟩; gi_at_call 101; go_loud (refine (CallsIn.inRound lp (callsIn_wide.2 HPY.out)).mono ?_; rintro e w3 ⟨rfl, f3⟩; have g3 : Hid (Fresh W w3) := Lib.hid (((Keep.refl (fun _ => False) W).alloc _).step f3 (fun _ _ h => h)); have bx3 := g3.out.blk_ UX.out; have br3 := g3.out.blk_ UD.out; have bR3 := f3.blk_ BR.out; have cX3 := bx3.cell; have cR3 := bR3.cell; have cB3 := br3.cell; have lX3 := bx3.lt; have lR3 := bR3.lt; have lB3 := br3.lt; have O3 := Lib.hid (UE.out.fresh g3.out); have B3 := Lib.hid br3; have HC : Hid (Src (w3.alloc (.cells #[.int .i64 y.1.a, .int .i64 y.1.s, .int .i64 y.1.t, .int .i64 y.1.n, .int .i64 y.1.d, .int .i64 y.1.k, .int .i64 y.1.x, .bool y.2] 137)) 8 (.slice (some ⟨w3.heap.size, 0, none⟩) 1 1) 1 (rcells [y])) := Lib.hid (Src.one_new w3 137 8 #[.int .i64 y.1.a, .int .i64 y.1.s, .int .i64 y.1.t, .int .i64 y.1.n, .int .i64 y.1.d, .int .i64 y.1.k, .int .i64 y.1.x, .bool y.2] rfl); clear f3 bx3 br3 bR3))
    | (gi_at_builtin; go_loud (refine wpListIn_append_OwnS _ rfl _ _ 133 rfl 137 i0 _ 8 64 Tryz.underlying133 hi hz0 hz1 hz2 rfl h08.out (.slice A3 R.length cap3) R.length (rcells R) rfl (O3.out.alloc _) (.slice (some ⟨w3.heap.size, 0, none⟩) 1 1) 1 (rcells [y]) rfl HC.out (rcells_one _) hM1.out hM2.out ?_; intro v4 w4 o4 k4 n4; obtain ⟨A4, cap4, rfl, _, _⟩ := o4.shape; have b4 := (B3.out.alloc (.cells #[.int .i64 y.1.a, .int .i64 y.1.s, .int .i64 y.1.t, .int .i64 y.1.n, .int .i64 y.1.d, .int .i64 y.1.k, .int .i64 y.1.x, .bool y.2] 137)).keep k4 (O3.out.ne_blk B3.out (by decide)); have c4 := b4.cell; have r4 := b4.frozen; have l4 := b4.lt; have V1 := Lib.hid b4; have V2 := Lib.hid o4; have V3 := Lib.hid k4; have V4 := Lib.hid n4; have V5 := Lib.hid g3.out; clear b4 o4 k4 n4)))
   have K1 : Hid (Keep (fun k => k = w.heap.size + 2 ∨ (Value.slice A3 R.length cap3).ownBlock = some k) W (w4.setCell ⟨w.heap.size + 2, 0, none⟩ (.slice A4 (R.length + 1) cap4))) := Lib.hid
    ((((V5.out.more (fun _ _ h => h.elim)).alloc _).step V3.out (fun _ _ h => .inr h)).setCell (p := ⟨w.heap.size + 2, 0, none⟩) (fun _ => .inl rfl) _)
   have NB : Hid (Boxed (w4.setCell ⟨w.heap.size + 2, 0, none⟩ (.slice A4 (R.length + 1) cap4)) (w.heap.size + 2) 133 137 w1.heap.size (R ++ [y])) := Lib.hid (by
    refine ⟨_, by simpa using V1.out.set_ 0 (.slice A4 (R.length + 1) cap4), ?_, ?_⟩
    ·have := V2.out.far (p := ⟨w.heap.size + 2, 0, none⟩) (V2.out.ne_blk V1.out (by decide)) (.slice A4 (R.length + 1) cap4)
     simp only [List.length_append, rcells_append, List.length_cons, List.length_nil, Nat.zero_add]
     exact this
    ·intro k hk
     rcases V4.out k hk with h | h
     ·exact UF.out k h
     ·have := V5.out.size
      have := SZ.out
      simp at h
      omega)
   refine ⟨(keepsOthers_of_keep K1.out ?_).from _, KeepsB.of_keep' K1.out ?_, ⟨UG.out.step K1.out ?_, Nat.le_trans SZ.out K1.out.size, UH.out.keep K1.out ?_, by rw [HFA.out]; simp only [Bool.false_eq_true, if_false, List.append_nil]; exact ⟨_, UA.out.keep K1.out (by rintro (h | h) ; (· omega); (· exact (UE.out.ne_blk UA.out (by decide)) h)), UB.out.kept K1.out (fun i hi h => by rcases h with rfl | h; (· exact (UB.out.ne_blk UD.out (by decide)) hi); (· exact UB.out.ne_own UE.out (by decide) i hi h)), UC.out⟩, by rw [HFR.out]; exact NB.out⟩⟩
   ·rintro k o (rfl | hk) ho
    ·exact blk_isCells UD.out ho
    ·exact own_isCells UE.out hk ho
   ·rintro cur hcur (h | h)
    ·rw [h] at hcur
     have := UD.out
     unfold Blk at this
     rw [this] at hcur
     cases hcur
    ·have := UF.out _ h
     omega
   ·rintro k hk (h | h)
    ·omega
    ·have := UF.out k h
     omega
   ·rintro (h | h)
    ·omega
    ·exact (UE.out.ne_blk UH.out (by decide)) h
  ·rw [hq] at HFA HFR HPY
   clear hq
   gi_wp2_with (first
    | (refine ⟨trivial, ?_⟩; gi_at_call 101; go_loud (refine (CallsIn.inRound lp (callsIn_wide.2 HPY.out)).mono ?_; rintro e w3 ⟨rfl, f3⟩; have g3 : Hid (Fresh W w3) := Lib.hid (((Keep.refl (fun _ => False) W).alloc _).step f3 (fun _ _ h => h)); have bx3 := g3.out.blk_ UX.out; have br3 := g3.out.blk_ UA.out; have bR3 := f3.blk_ BR.out; have cX3 := bx3.cell; have cR3 := bR3.cell; have cB3 := br3.cell; have lX3 := bx3.lt; have lR3 := bR3.lt; have lB3 := br3.lt; have O3 := Lib.hid (UB.out.fresh g3.out); have B3 := Lib.hid br3; have HC : Hid (Src (w3.alloc (.cells #[.int .i64 y.1.a, .int .i64 y.1.s, .int .i64 y.1.t, .int .i64 y.1.n, .int .i64 y.1.d, .int .i64 y.1.k, .int .i64 y.1.x, .bool true] 43)) 8 (.slice (some ⟨w3.heap.size, 0, none⟩) 1 1) 1 (rcells [(y.1, true)])) := Lib.hid (Src.one_new w3 43 8 #[.int .i64 y.1.a, .int .i64 y.1.s, .int .i64 y.1.t, .int .i64 y.1.n, .int .i64 y.1.d, .int .i64 y.1.k, .int .i64 y.1.x, .bool true] rfl); clear f3 bx3 br3 bR3))
    | (gi_at_builtin; go_loud (refine wpListIn_append_OwnS _ rfl _ _ 35 rfl 43 i1 _ 8 64 Tryz.underlying35 hi1 hy0 hy1 hy2 rfl h08.out (.slice A2 P.length cap2) P.length (rcells P) rfl (O3.out.alloc _) (.slice (some ⟨w3.heap.size, 0, none⟩) 1 1) 1 (rcells [(y.1, true)]) rfl HC.out (rcells_one _) hL1.out hL2.out ?_; intro v4 w4 o4 k4 n4; obtain ⟨A4, cap4, rfl, _, _⟩ := o4.shape; have b4 := (B3.out.alloc (.cells #[.int .i64 y.1.a, .int .i64 y.1.s, .int .i64 y.1.t, .int .i64 y.1.n, .int .i64 y.1.d, .int .i64 y.1.k, .int .i64 y.1.x, .bool true] 43)).keep k4 (O3.out.ne_blk B3.out (by decide)); have c4 := b4.cell; have r4 := b4.frozen; have l4 := b4.lt; have V1 := Lib.hid b4; have V2 := Lib.hid o4; have V3 := Lib.hid k4; have V4 := Lib.hid n4; have V5 := Lib.hid g3.out; clear b4 o4 k4 n4)))
   have K1 : Hid (Keep (fun k => k = w.heap.size + 1 ∨ (Value.slice A2 P.length cap2).ownBlock = some k) W (w4.setCell ⟨w.heap.size + 1, 0, none⟩ (.slice A4 (P.length + 1) cap4))) := Lib.hid
    ((((V5.out.more (fun _ _ h => h.elim)).alloc _).step V3.out (fun _ _ h => .inr h)).setCell (p := ⟨w.heap.size + 1, 0, none⟩) (fun _ => .inl rfl) _)
   have NB : Hid (Boxed (w4.setCell ⟨w.heap.size + 1, 0, none⟩ (.slice A4 (P.length + 1) cap4)) (w.heap.size + 1) 35 43 w1.heap.size (P ++ [(y.1, true)])) := Lib.hid (by
    refine ⟨_, by simpa using V1.out.set_ 0 (.slice A4 (P.length + 1) cap4), ?_, ?_⟩
    ·have := V2.out.far (p := ⟨w.heap.size + 1, 0, none⟩) (V2.out.ne_blk V1.out (by decide)) (.slice A4 (P.length + 1) cap4)
     simp only [List.length_append, rcells_append, List.length_cons, List.length_nil, Nat.zero_add]
     exact this
    ·intro k hk
     rcases V4.out k hk with h | h
     ·exact UC.out k h
     ·have := V5.out.size
      have := SZ.out
      simp at h
      omega)
   refine ⟨(keepsOthers_of_keep K1.out ?_).from _, KeepsB.of_keep' K1.out ?_, ⟨UG.out.step K1.out ?_, Nat.le_trans SZ.out K1.out.size, UH.out.keep K1.out ?_, by rw [HFA.out]; exact NB.out, by rw [HFR.out]; simp only [if_true, List.append_nil]; exact ⟨_, UD.out.keep K1.out (by rintro (h | h) ; (· omega); (· exact (UB.out.ne_blk UD.out (by decide)) h)), UE.out.kept K1.out (fun i hi h => by rcases h with rfl | h; (· exact (UE.out.ne_blk UA.out (by decide)) hi); (· exact UE.out.ne_own UB.out (by decide) i hi h)), UF.out⟩⟩⟩
   ·rintro k o (rfl | hk) ho
    ·exact blk_isCells UA.out ho
    ·exact own_isCells UB.out hk ho
   ·rintro cur hcur (h | h)
    ·rw [h] at hcur
     have := UA.out
     unfold Blk at this
     rw [this] at hcur
     cases hcur
    ·have := UC.out _ h
     omega
   ·rintro k hk (h | h)
    ·omega
    ·have := UC.out k h
     omega
   ·rintro (h | h)
    ·omega
    ·exact (UB.out.ne_blk UH.out (by decide)) h
 case done =>
  rintro D ys W hD rfl ⟨f2, sz, bf, ⟨va, ba, oa, na⟩, ⟨vr, br, orr, nr⟩⟩ hK
  obtain ⟨A2, cap2, rfl, _, _⟩ := oa.shape
  obtain ⟨A3, cap3, rfl, _, _⟩ := orr.shape
  have Q := HQ.out.fresh f2
  obtain ⟨q4, t4⟩ := HQ.out.put (S := fun _ => False) orr (HQ.out.srt.stay p) f2 (fun _ h => h.elim) (fun i hi => .inr (by have := nr i hi; omega))
  have OA := Lib.hid (oa.far (p := ⟨g, 0, none⟩) (oa.ne_blk Q.blk (by decide)) (.slice A3 (stay p ys).length cap3))
  have bA := ba.far (p := ⟨g, 0, none⟩) (show w.heap.size + 1 ≠ g by have := HQ.out.blk.lt; omega) (.slice A3 (stay p ys).length cap3)
  have hDl := (Array.getElem?_eq_some_iff.1 hK).1
  have hDg : ¬ D = g := by have := HQ.out.blk.lt; omega
  have cQ := Q.blk.cell
  have rQ := Q.blk.frozen
  have lQ := Q.blk.lt
  have cR := br.cell
  have cA := bA.cell
  have KK : Hid ((W.setCell ⟨g, 0, none⟩ (.slice A3 (stay p ys).length cap3)).heap[D]? = some (.deferred (some []))) := Lib.hid (((Keep.setCell (S := fun k => k = g) (Keep.refl _ W) (p := ⟨g, 0, none⟩) (fun _ => rfl) (.slice A3 (stay p ys).length cap3)).block D hDl hDg).trans hK)
  have Q4 := Lib.hid q4
  have T4 := Lib.hid t4
  have NA := Lib.hid na
  have HD := Lib.hid hD
  clear q4 t4 oa orr ba br bA na nr bf sz f2 Q hK hDl hDg hD
  obtain ⟨N, hN⟩ : ∃ N, (stay p ys).length = N := ⟨_, rfl⟩
  obtain ⟨M, hM⟩ : ∃ M, (antis p ys).length = M := ⟨_, rfl⟩
  rw [hN] at OA cR cA KK Q4 T4
  rw [hM] at OA cA NA
  have HN := Lib.hid hN
  have HM := Lib.hid hM
  clear hN hM
  go_wp2_with fail
  refine ⟨by simp, .inl ⟨_, _, rfl, run_takeDeferred KK.out, ?_⟩⟩
  have hr : ∀ r, some D = some r → ∃ o : Obj, (W.setCell ⟨g, 0, none⟩ (.slice A3 N cap3)).heap[r]? = some o ∧ o.isCells = false := fun r e => by cases e; exact ⟨_, KK.out, rfl⟩
  have hg := grownBy_putObj' (W.setCell ⟨g, 0, none⟩ (.slice A3 N cap3)) D (.deferred none)
  have hm := HM.out
  subst hm
  exact ⟨_, results_tmp rfl _ _ _, .slice A2 (antis p ys).length cap2, .slice A3 N cap3, rfl, ownS_grown OA.out hg hr, Q4.out.grown hg hr, T4.out.grown hg (fun r e => by cases e; have := HD.out; omega), fun k hk => by have := NA.out k hk; omega⟩
 case stop =>
  rintro D c pre W _ _ h _
  exact h.elim
end Go.Proofs.YthbcdkeammhakaaGreat
