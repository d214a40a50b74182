/- Chapter 13: OTakeOOback, OTakeOOdrop, OOuts, OSortP. -/
import Derived.Test.YthbcdkeammhakaaGreatM09
import Derived.Shelf.SlSortCmp.WholeK
import Derived.Ground.SlsfProg
/-
  outq.Queue's take, at what Back takes.
-/
namespace Go.Proofs.YthbcdkeammhakaaGreat
open Go.RowKit Go.Shelf
attribute [local go_sem] Oper.semAt_some
attribute [local go_sem ↓] Go.wp_at_zero Go.wp_at_succ

set_option maxRecDepth 100000 in
set_option maxHeartbeats 8000000 in
theorem take_anyBack (g : Nat) (v : Value) (l : List Rec) (p : Rec → Bool) (x1 : Nat) (w : World) (h : OQ w g v l) (hl : l.length ≤ 100000)
    (hp : ∀ W r, Fresh w W → Calls Tryz.prog 138 #[Rec.val r, .pointer (some ⟨x1, 0, none⟩)] W fun e w' => e = .returned (.bool (p r)) ∧ Fresh W w') :
    Calls Tryz.prog 94 #[.pointer (some ⟨g, 0, none⟩), .func (.func 138) #[] #[.pointer (some ⟨x1, 0, none⟩)]] w (TakeP g v l p w) := by
  have HQ := Lib.hid h
  unfold Rec.val at hp
  have HP := Lib.hid hp
  obtain ⟨W0, hW0⟩ : ∃ W0, ((w.alloc (.cells #[.func (.func 138) #[] #[.pointer (some ⟨x1, 0, none⟩)]] 145)).alloc (.cells #[.slice none 0 0] 35)).alloc (.cells #[.slice none 0 0] 133) = W0 := ⟨_, rfl⟩
  have F0 : Fresh w W0 := hW0 ▸ (((Keep.refl _ w).alloc _).alloc _).alloc _
  have B0 : Blk W0 w.heap.size 145 #[.func (.func 138) #[] #[.pointer (some ⟨x1, 0, none⟩)]] := hW0 ▸ ((Blk.new w _ _).alloc _).alloc _
  have B1 : Blk W0 (w.heap.size + 1) 35 #[.slice none 0 0] := hW0 ▸ (Blk.at_new (by simp) _ _).alloc _
  have B2 : Blk W0 (w.heap.size + 2) 133 #[.slice none 0 0] := hW0 ▸ Blk.at_new (by simp) _ _
  have HA := Lib.hid (oall_any g v l W0 (h.fresh F0) hl)
  have KF := Lib.hid F0
  have KB0 := Lib.hid B0
  have KB1 := Lib.hid B1
  have KB2 := Lib.hid B2
  obtain ⟨i0, hi, hz0, hz1, hz2⟩ := info_parts info_rec
  obtain ⟨i1, hi1, hy0, hy1, hy2⟩ := info_parts info_msg
  clear h hp F0 B0 B1 B2
  refine (callsIn_wide (n := 6)).1 ?_
  refine callsIn_of_wp_marks Tryz.func94 rfl trivial ?_ rfl
  simp only [Tryz.ntmps94, List.size_toArray, List.length_cons, List.length_nil, Nat.reduceAdd, Nat.reduceSub, Array.replicate_succ, Array.replicate_zero, List.push_toArray, List.append_toArray, List.nil_append, List.cons_append]
  refine wpIn_wide.2 ?_
  go_wp2_with (go_at_call 87; (with_reducible refine HA.out.mono ?_); rintro e w1 ⟨b1, v1, rfl, B1, O1, F1, N1, M1⟩)
  have hbk : bk v1 < w1.heap.size := by
    unfold bk
    cases hv : v1.ownBlock with
    | none => have := B1.lt; simp; omega
    | some k => simpa using O1.lt hv
  have KO := Lib.hid O1
  have KB := Lib.hid B1
  have T0 : Hid (TInv p (.func (.func 138) #[] #[.pointer (some ⟨x1, 0, none⟩)]) w w1.heap.size [] w1) := Lib.hid ⟨KF.out.step F1 (fun _ _ h => h), Nat.le_refl _, F1.blk_ KB0.out, ⟨_, F1.blk_ KB1.out, OwnS.nil _ _ _, by simp [Value.ownBlock]⟩, ⟨_, F1.blk_ KB2.out, OwnS.nil _ _ _, by simp [Value.ownBlock]⟩⟩
  have szF := (KF.out.step F1 (fun _ _ h => h)).size
  clear O1 B1 F1 N1 M1 KF KB0 KB1 KB2 HA hW0
  refine (wpIn_wide (n := 6)).1 ?_
  refine wpIn_rangeFunc_ownH rfl (by omega) (gf := 126) (lb := #[.pointer (some ⟨b1, 0, none⟩)]) rfl trivial (enters_of Tryz.func126 (by kernel_rfl) rfl)
    (all_stops Fence.wide (6 - 1) trivial rfl (by omega) b1 v1 l (by omega) w1 KB.out KO.out) keepsB_t keepsB_b (Below.refl _ _) (fun _ => rfl)
    (TInv p (.func (.func 138) #[] #[.pointer (some ⟨x1, 0, none⟩)]) w w1.heap.size) (fun _ _ _ => False) (fun pre X Y row hs hg hr => hs.own (by omega) hg hr) (fun _ _ _ _ _ hs _ _ => hs)
    T0.out
    (fun y a' W => ∃ Bx, Blk W Bx 41 #[.int .i64 y.1.a, .int .i64 y.1.s, .int .i64 y.1.t, .int .i64 y.1.n, .int .i64 y.1.d, .int .i64 y.1.k, .int .i64 y.1.x] ∧ a' = { tmps := #[.pointer (some ⟨g, 0, none⟩), .func (.func 138) #[] #[.pointer (some ⟨x1, 0, none⟩)], undef, .pointer (some ⟨w.heap.size, 0, none⟩), .slice none 0 0, .pointer (some ⟨w.heap.size + 1, 0, none⟩), .pointer (some ⟨w.heap.size + 1 + 1, 0, none⟩), .pointer (some ⟨Bx, 0, none⟩), .bool y.2, undef, .pointer (some ⟨g, 0, none⟩), .func (.func 126) #[] #[.pointer (some ⟨b1, 0, none⟩)], .agg #[.int .i64 y.1.a, .int .i64 y.1.s, .int .i64 y.1.t, .int .i64 y.1.n, .int .i64 y.1.d, .int .i64 y.1.k, .int .i64 y.1.x], .bool y.2, undef, undef, undef, undef, undef, undef, undef, undef, undef, undef, undef, undef, undef, undef, undef, undef, undef, undef, undef, undef], defers := [] }) ?ax ?assign ?body ?done ?stop
  case ax =>
    rintro x a' u X Y row ⟨Bx, h2, h3⟩ hg hr
    exact ⟨Bx, blk_grown h2 hg (fun r e => (hr r e).2), h3⟩
  case assign =>
    rintro lp pre y W K f hK
    unfold oenc Ev.val
    gi_wp2
    refine hK _ _ ((KeepsOthers.alloc _ _).from _) ((KeepsB.refl _ _ _).alloc _) (f.fresh ((Keep.refl _ _).alloc _)) ⟨W.heap.size, Blk.new W _ _, rfl⟩
  case body =>
    rintro lp pre y a' W hlp hrec ⟨f2, sz, bf, ⟨va, ba, oa, na⟩, ⟨vr, br, orr, nr⟩⟩ ⟨Bx, bx, rfl⟩ hlt
    obtain ⟨A2, cap2, rfl, _, _⟩ := oa.shape
    obtain ⟨A3, cap3, rfl, _, _⟩ := orr.shape
    have al := antis_le p pre
    have rl := stay_le p pre
    have hL1 := Lib.hid (show (antis p pre).length + 1 ≤ maxLen from one_le_maxLen (by omega))
    have hL2 := Lib.hid (show ((antis p pre).length + 1) * 64 ≤ 140737488355328 by omega)
    have hM1 := Lib.hid (show (stay p pre).length + 1 ≤ maxLen from one_le_maxLen (by omega))
    have hM2 := Lib.hid (show ((stay p pre).length + 1) * 64 ≤ 140737488355328 by omega)
    have HFA := Lib.hid (antis_snoc p pre y)
    have HFR := Lib.hid (stay_snoc p pre y)
    obtain ⟨P, hP⟩ : ∃ P, antis p pre = P := ⟨_, rfl⟩
    obtain ⟨R, hR⟩ : ∃ R, stay p pre = R := ⟨_, rfl⟩
    rw [hP] at ba oa na hL1 hL2 HFA
    rw [hR] at br orr nr hM1 hM2 HFR
    clear hP hR al rl
    have h08 : Hid (0 < 8) := Lib.hid (by omega)
    have cX := bx.cell
    have cF := bf.cell
    have lF := bf.lt
    have lX := bx.lt
    have c2 := ba.cell
    have c3 := br.cell
    have UX := Lib.hid bx
    have UA := Lib.hid ba
    have UB := Lib.hid oa
    have UC := Lib.hid na
    have UD := Lib.hid br
    have UE := Lib.hid orr
    have UF := Lib.hid nr
    have UG := Lib.hid f2
    have UH := Lib.hid bf
    have SZ := Lib.hid sz
    clear bx ba oa na br orr nr f2 bf hrec hlt sz
    have HPY := Lib.hid (HP.out (W.alloc (.cells #[.int .i64 y.1.a, .int .i64 y.1.s, .int .i64 y.1.t, .int .i64 y.1.n, .int .i64 y.1.d, .int .i64 y.1.k, .int .i64 y.1.x, .bool y.2] 137)) y (UG.out.alloc _))
    have BR := Lib.hid (Blk.new W 137 #[.int .i64 y.1.a, .int .i64 y.1.s, .int .i64 y.1.t, .int .i64 y.1.n, .int .i64 y.1.d, .int .i64 y.1.k, .int .i64 y.1.x, .bool y.2])
    cases hq : p y
    · rw [hq] at HFA HFR HPY
      clear hq
      gi_wp2_with (first
        | (refine ⟨trivial, ?_⟩; gi_at_call 138; go_loud (refine (CallsIn.inRound lp (callsIn_wide.2 HPY.out)).mono ?_; rintro e w3 ⟨rfl, f3⟩; have g3 : Hid (Fresh W w3) := Lib.hid (((Keep.refl (fun _ => False) W).alloc _).step f3 (fun _ _ h => h)); have bx3 := g3.out.blk_ UX.out; have br3 := g3.out.blk_ UD.out; have bR3 := f3.blk_ BR.out; have cX3 := bx3.cell; have cR3 := bR3.cell; have cB3 := br3.cell; have lX3 := bx3.lt; have lR3 := bR3.lt; have lB3 := br3.lt; have O3 := Lib.hid (UE.out.fresh g3.out); have B3 := Lib.hid br3; have HC : Hid (Src (w3.alloc (.cells #[.int .i64 y.1.a, .int .i64 y.1.s, .int .i64 y.1.t, .int .i64 y.1.n, .int .i64 y.1.d, .int .i64 y.1.k, .int .i64 y.1.x, .bool y.2] 137)) 8 (.slice (some ⟨w3.heap.size, 0, none⟩) 1 1) 1 (rcells [y])) := Lib.hid (Src.one_new w3 137 8 #[.int .i64 y.1.a, .int .i64 y.1.s, .int .i64 y.1.t, .int .i64 y.1.n, .int .i64 y.1.d, .int .i64 y.1.k, .int .i64 y.1.x, .bool y.2] rfl); clear f3 bx3 br3 bR3))
        | (gi_at_builtin; go_loud (refine wpListIn_append_OwnS _ rfl _ _ 133 rfl 137 i0 _ 8 64 Tryz.underlying133 hi hz0 hz1 hz2 rfl h08.out (.slice A3 R.length cap3) R.length (rcells R) rfl (O3.out.alloc _) (.slice (some ⟨w3.heap.size, 0, none⟩) 1 1) 1 (rcells [y]) rfl HC.out (rcells_one _) hM1.out hM2.out ?_; intro v4 w4 o4 k4 n4; obtain ⟨A4, cap4, rfl, _, _⟩ := o4.shape; have b4 := (B3.out.alloc (.cells #[.int .i64 y.1.a, .int .i64 y.1.s, .int .i64 y.1.t, .int .i64 y.1.n, .int .i64 y.1.d, .int .i64 y.1.k, .int .i64 y.1.x, .bool y.2] 137)).keep k4 (O3.out.ne_blk B3.out (by decide)); have c4 := b4.cell; have r4 := b4.frozen; have l4 := b4.lt; have V1 := Lib.hid b4; have V2 := Lib.hid o4; have V3 := Lib.hid k4; have V4 := Lib.hid n4; have V5 := Lib.hid g3.out; clear b4 o4 k4 n4)))


      have K1 : Hid (Keep (fun k => k = w.heap.size + 2 ∨ (Value.slice A3 R.length cap3).ownBlock = some k) W (w4.setCell ⟨w.heap.size + 2, 0, none⟩ (.slice A4 (R.length + 1) cap4))) := Lib.hid
        ((((V5.out.more (fun _ _ h => h.elim)).alloc _).step V3.out (fun _ _ h => .inr h)).setCell (p := ⟨w.heap.size + 2, 0, none⟩) (fun _ => .inl rfl) _)
      have NB : Hid (Boxed (w4.setCell ⟨w.heap.size + 2, 0, none⟩ (.slice A4 (R.length + 1) cap4)) (w.heap.size + 2) 133 137 w1.heap.size (R ++ [y])) := Lib.hid (by
        refine ⟨_, by simpa using V1.out.set_ 0 (.slice A4 (R.length + 1) cap4), ?_, ?_⟩
        · have := V2.out.far (p := ⟨w.heap.size + 2, 0, none⟩) (V2.out.ne_blk V1.out (by decide)) (.slice A4 (R.length + 1) cap4)
          simp only [List.length_append, rcells_append, List.length_cons, List.length_nil, Nat.zero_add]
          exact this
        · intro k hk
          rcases V4.out k hk with h | h
          · exact UF.out k h
          · have := V5.out.size
            have := SZ.out
            simp at h
            omega)
      refine ⟨(keepsOthers_of_keep K1.out ?_).from _, KeepsB.of_keep' K1.out ?_, ⟨UG.out.step K1.out ?_, Nat.le_trans SZ.out K1.out.size, UH.out.keep K1.out ?_, by rw [HFA.out]; simp only [Bool.false_eq_true, if_false, List.append_nil]; exact ⟨_, UA.out.keep K1.out (by rintro (h | h) ; (· omega); (· exact (UE.out.ne_blk UA.out (by decide)) h)), UB.out.kept K1.out (fun i hi h => by rcases h with rfl | h; (· exact (UB.out.ne_blk UD.out (by decide)) hi); (· exact UB.out.ne_own UE.out (by decide) i hi h)), UC.out⟩, by rw [HFR.out]; exact NB.out⟩⟩
      · rintro k o (rfl | hk) ho
        · exact blk_isCells UD.out ho
        · exact own_isCells UE.out hk ho
      · rintro cur hcur (h | h)
        · rw [h] at hcur
          have := UD.out
          unfold Blk at this
          rw [this] at hcur
          cases hcur
        · have := UF.out _ h
          omega
      · rintro k hk (h | h)
        · omega
        · have := UF.out k h
          omega
      · rintro (h | h)
        · omega
        · exact (UE.out.ne_blk UH.out (by decide)) h
    · rw [hq] at HFA HFR HPY
      clear hq
      gi_wp2_with (first
        | (refine ⟨trivial, ?_⟩; gi_at_call 138; go_loud (refine (CallsIn.inRound lp (callsIn_wide.2 HPY.out)).mono ?_; rintro e w3 ⟨rfl, f3⟩; have g3 : Hid (Fresh W w3) := Lib.hid (((Keep.refl (fun _ => False) W).alloc _).step f3 (fun _ _ h => h)); have bx3 := g3.out.blk_ UX.out; have br3 := g3.out.blk_ UA.out; have bR3 := f3.blk_ BR.out; have cX3 := bx3.cell; have cR3 := bR3.cell; have cB3 := br3.cell; have lX3 := bx3.lt; have lR3 := bR3.lt; have lB3 := br3.lt; have O3 := Lib.hid (UB.out.fresh g3.out); have B3 := Lib.hid br3; have HC : Hid (Src (w3.alloc (.cells #[.int .i64 y.1.a, .int .i64 y.1.s, .int .i64 y.1.t, .int .i64 y.1.n, .int .i64 y.1.d, .int .i64 y.1.k, .int .i64 y.1.x, .bool true] 43)) 8 (.slice (some ⟨w3.heap.size, 0, none⟩) 1 1) 1 (rcells [(y.1, true)])) := Lib.hid (Src.one_new w3 43 8 #[.int .i64 y.1.a, .int .i64 y.1.s, .int .i64 y.1.t, .int .i64 y.1.n, .int .i64 y.1.d, .int .i64 y.1.k, .int .i64 y.1.x, .bool true] rfl); clear f3 bx3 br3 bR3))
        | (gi_at_builtin; go_loud (refine wpListIn_append_OwnS _ rfl _ _ 35 rfl 43 i1 _ 8 64 Tryz.underlying35 hi1 hy0 hy1 hy2 rfl h08.out (.slice A2 P.length cap2) P.length (rcells P) rfl (O3.out.alloc _) (.slice (some ⟨w3.heap.size, 0, none⟩) 1 1) 1 (rcells [(y.1, true)]) rfl HC.out (rcells_one _) hL1.out hL2.out ?_; intro v4 w4 o4 k4 n4; obtain ⟨A4, cap4, rfl, _, _⟩ := o4.shape; have b4 := (B3.out.alloc (.cells #[.int .i64 y.1.a, .int .i64 y.1.s, .int .i64 y.1.t, .int .i64 y.1.n, .int .i64 y.1.d, .int .i64 y.1.k, .int .i64 y.1.x, .bool true] 43)).keep k4 (O3.out.ne_blk B3.out (by decide)); have c4 := b4.cell; have r4 := b4.frozen; have l4 := b4.lt; have V1 := Lib.hid b4; have V2 := Lib.hid o4; have V3 := Lib.hid k4; have V4 := Lib.hid n4; have V5 := Lib.hid g3.out; clear b4 o4 k4 n4)))
      have K1 : Hid (Keep (fun k => k = w.heap.size + 1 ∨ (Value.slice A2 P.length cap2).ownBlock = some k) W (w4.setCell ⟨w.heap.size + 1, 0, none⟩ (.slice A4 (P.length + 1) cap4))) := Lib.hid
        ((((V5.out.more (fun _ _ h => h.elim)).alloc _).step V3.out (fun _ _ h => .inr h)).setCell (p := ⟨w.heap.size + 1, 0, none⟩) (fun _ => .inl rfl) _)
      have NB : Hid (Boxed (w4.setCell ⟨w.heap.size + 1, 0, none⟩ (.slice A4 (P.length + 1) cap4)) (w.heap.size + 1) 35 43 w1.heap.size (P ++ [(y.1, true)])) := Lib.hid (by
        refine ⟨_, by simpa using V1.out.set_ 0 (.slice A4 (P.length + 1) cap4), ?_, ?_⟩
        · have := V2.out.far (p := ⟨w.heap.size + 1, 0, none⟩) (V2.out.ne_blk V1.out (by decide)) (.slice A4 (P.length + 1) cap4)
          simp only [List.length_append, rcells_append, List.length_cons, List.length_nil, Nat.zero_add]
          exact this
        · intro k hk
          rcases V4.out k hk with h | h
          · exact UC.out k h
          · have := V5.out.size
            have := SZ.out
            simp at h
            omega)
      refine ⟨(keepsOthers_of_keep K1.out ?_).from _, KeepsB.of_keep' K1.out ?_, ⟨UG.out.step K1.out ?_, Nat.le_trans SZ.out K1.out.size, UH.out.keep K1.out ?_, by rw [HFA.out]; exact NB.out, by rw [HFR.out]; simp only [if_true, List.append_nil]; exact ⟨_, UD.out.keep K1.out (by rintro (h | h) ; (· omega); (· exact (UB.out.ne_blk UD.out (by decide)) h)), UE.out.kept K1.out (fun i hi h => by rcases h with rfl | h; (· exact (UE.out.ne_blk UA.out (by decide)) hi); (· exact UE.out.ne_own UB.out (by decide) i hi h)), UF.out⟩⟩⟩
      · rintro k o (rfl | hk) ho
        · exact blk_isCells UA.out ho
        · exact own_isCells UB.out hk ho
      · rintro cur hcur (h | h)
        · rw [h] at hcur
          have := UA.out
          unfold Blk at this
          rw [this] at hcur
          cases hcur
        · have := UC.out _ h
          omega
      · rintro k hk (h | h)
        · omega
        · have := UC.out k h
          omega
      · rintro (h | h)
        · omega
        · exact (UB.out.ne_blk UH.out (by decide)) h
  case done =>
    rintro D ys W hD rfl ⟨f2, sz, bf, ⟨va, ba, oa, na⟩, ⟨vr, br, orr, nr⟩⟩ hK
    obtain ⟨A2, cap2, rfl, _, _⟩ := oa.shape
    obtain ⟨A3, cap3, rfl, _, _⟩ := orr.shape
    have Q := HQ.out.fresh f2
    obtain ⟨q4, t4⟩ := HQ.out.put (S := fun _ => False) orr (HQ.out.srt.stay p) f2 (fun _ h => h.elim) (fun i hi => .inr (by have := nr i hi; omega))
    have OA := Lib.hid (oa.far (p := ⟨g, 0, none⟩) (oa.ne_blk Q.blk (by decide)) (.slice A3 (stay p ys).length cap3))
    have bA := ba.far (p := ⟨g, 0, none⟩) (show w.heap.size + 1 ≠ g by have := HQ.out.blk.lt; omega) (.slice A3 (stay p ys).length cap3)
    have hDl := (Array.getElem?_eq_some_iff.1 hK).1
    have hDg : ¬ D = g := by have := HQ.out.blk.lt; omega
    have cQ := Q.blk.cell
    have rQ := Q.blk.frozen
    have lQ := Q.blk.lt
    have cR := br.cell
    have cA := bA.cell
    have KK : Hid ((W.setCell ⟨g, 0, none⟩ (.slice A3 (stay p ys).length cap3)).heap[D]? = some (.deferred (some []))) := Lib.hid (((Keep.setCell (S := fun k => k = g) (Keep.refl _ W) (p := ⟨g, 0, none⟩) (fun _ => rfl) (.slice A3 (stay p ys).length cap3)).block D hDl hDg).trans hK)
    have Q4 := Lib.hid q4
    have T4 := Lib.hid t4
    have NA := Lib.hid na
    have HD := Lib.hid hD
    clear q4 t4 oa orr ba br bA na nr bf sz f2 Q hK hDl hDg hD
    obtain ⟨N, hN⟩ : ∃ N, (stay p ys).length = N := ⟨_, rfl⟩
    obtain ⟨M, hM⟩ : ∃ M, (antis p ys).length = M := ⟨_, rfl⟩
    rw [hN] at OA cR cA KK Q4 T4
    rw [hM] at OA cA NA
    have HN := Lib.hid hN
    have HM := Lib.hid hM
    clear hN hM
    go_wp2_with fail
    refine ⟨by simp, .inl ⟨_, _, rfl, run_takeDeferred KK.out, ?_⟩⟩
    have hr : ∀ r, some D = some r → ∃ o : Obj, (W.setCell ⟨g, 0, none⟩ (.slice A3 N cap3)).heap[r]? = some o ∧ o.isCells = false := fun r e => by cases e; exact ⟨_, KK.out, rfl⟩
    have hg := grownBy_putObj' (W.setCell ⟨g, 0, none⟩ (.slice A3 N cap3)) D (.deferred none)
    have hm := HM.out
    subst hm
    exact ⟨_, results_tmp rfl _ _ _, .slice A2 (antis p ys).length cap2, .slice A3 N cap3, rfl, ownS_grown OA.out hg hr, Q4.out.grown hg hr, T4.out.grown hg (fun r e => by cases e; have := HD.out; omega), fun k hk => by have := NA.out k hk; omega⟩
  case stop =>
    rintro D c pre W _ _ h _
    exact h.elim
end Go.Proofs.YthbcdkeammhakaaGreat

/-
  outq.Queue's take, at what Drop takes.
-/
namespace Go.Proofs.YthbcdkeammhakaaGreat
open Go.RowKit Go.Shelf
attribute [local go_sem] Oper.semAt_some
attribute [local go_sem ↓] Go.wp_at_zero Go.wp_at_succ

set_option maxRecDepth 100000 in
set_option maxHeartbeats 8000000 in
theorem take_anyDrop (g : Nat) (v : Value) (l : List Rec) (p : Rec → Bool) (x1 : Nat) (w : World) (h : OQ w g v l) (hl : l.length ≤ 100000)
    (hp : ∀ W r, Fresh w W → Calls Tryz.prog 111 #[Rec.val r, .pointer (some ⟨x1, 0, none⟩)] W fun e w' => e = .returned (.bool (p r)) ∧ Fresh W w') :
    Calls Tryz.prog 94 #[.pointer (some ⟨g, 0, none⟩), .func (.func 111) #[] #[.pointer (some ⟨x1, 0, none⟩)]] w (TakeP g v l p w) := by
  have HQ := Lib.hid h
  unfold Rec.val at hp
  have HP := Lib.hid hp
  obtain ⟨W0, hW0⟩ : ∃ W0, ((w.alloc (.cells #[.func (.func 111) #[] #[.pointer (some ⟨x1, 0, none⟩)]] 145)).alloc (.cells #[.slice none 0 0] 35)).alloc (.cells #[.slice none 0 0] 133) = W0 := ⟨_, rfl⟩
  have F0 : Fresh w W0 := hW0 ▸ (((Keep.refl _ w).alloc _).alloc _).alloc _
  have B0 : Blk W0 w.heap.size 145 #[.func (.func 111) #[] #[.pointer (some ⟨x1, 0, none⟩)]] := hW0 ▸ ((Blk.new w _ _).alloc _).alloc _
  have B1 : Blk W0 (w.heap.size + 1) 35 #[.slice none 0 0] := hW0 ▸ (Blk.at_new (by simp) _ _).alloc _
  have B2 : Blk W0 (w.heap.size + 2) 133 #[.slice none 0 0] := hW0 ▸ Blk.at_new (by simp) _ _
  have HA := Lib.hid (oall_any g v l W0 (h.fresh F0) hl)
  have KF := Lib.hid F0
  have KB0 := Lib.hid B0
  have KB1 := Lib.hid B1
  have KB2 := Lib.hid B2
  obtain ⟨i0, hi, hz0, hz1, hz2⟩ := info_parts info_rec
  obtain ⟨i1, hi1, hy0, hy1, hy2⟩ := info_parts info_msg
  clear h hp F0 B0 B1 B2
  refine (callsIn_wide (n := 6)).1 ?_
  refine callsIn_of_wp_marks Tryz.func94 rfl trivial ?_ rfl
  simp only [Tryz.ntmps94, List.size_toArray, List.length_cons, List.length_nil, Nat.reduceAdd, Nat.reduceSub, Array.replicate_succ, Array.replicate_zero, List.push_toArray, List.append_toArray, List.nil_append, List.cons_append]
  refine wpIn_wide.2 ?_
  go_wp2_with (go_at_call 87; (with_reducible refine HA.out.mono ?_); rintro e w1 ⟨b1, v1, rfl, B1, O1, F1, N1, M1⟩)
  have hbk : bk v1 < w1.heap.size := by
    unfold bk
    cases hv : v1.ownBlock with
    | none => have := B1.lt; simp; omega
    | some k => simpa using O1.lt hv
  have KO := Lib.hid O1
  have KB := Lib.hid B1
  have T0 : Hid (TInv p (.func (.func 111) #[] #[.pointer (some ⟨x1, 0, none⟩)]) w w1.heap.size [] w1) := Lib.hid ⟨KF.out.step F1 (fun _ _ h => h), Nat.le_refl _, F1.blk_ KB0.out, ⟨_, F1.blk_ KB1.out, OwnS.nil _ _ _, by simp [Value.ownBlock]⟩, ⟨_, F1.blk_ KB2.out, OwnS.nil _ _ _, by simp [Value.ownBlock]⟩⟩
  have szF := (KF.out.step F1 (fun _ _ h => h)).size
  clear O1 B1 F1 N1 M1 KF KB0 KB1 KB2 HA hW0
  refine (wpIn_wide (n := 6)).1 ?_
  refine wpIn_rangeFunc_ownH rfl (by omega) (gf := 126) (lb := #[.pointer (some ⟨b1, 0, none⟩)]) rfl trivial (enters_of Tryz.func126 (by kernel_rfl) rfl)
    (all_stops Fence.wide (6 - 1) trivial rfl (by omega) b1 v1 l (by omega) w1 KB.out KO.out) keepsB_t keepsB_b (Below.refl _ _) (fun _ => rfl)
    (TInv p (.func (.func 111) #[] #[.pointer (some ⟨x1, 0, none⟩)]) w w1.heap.size) (fun _ _ _ => False) (fun pre X Y row hs hg hr => hs.own (by omega) hg hr) (fun _ _ _ _ _ hs _ _ => hs)
    T0.out
    (fun y a' W => ∃ Bx, Blk W Bx 41 #[.int .i64 y.1.a, .int .i64 y.1.s, .int .i64 y.1.t, .int .i64 y.1.n, .int .i64 y.1.d, .int .i64 y.1.k, .int .i64 y.1.x] ∧ a' = { tmps := #[.pointer (some ⟨g, 0, none⟩), .func (.func 111) #[] #[.pointer (some ⟨x1, 0, none⟩)], undef, .pointer (some ⟨w.heap.size, 0, none⟩), .slice none 0 0, .pointer (some ⟨w.heap.size + 1, 0, none⟩), .pointer (some ⟨w.heap.size + 1 + 1, 0, none⟩), .pointer (some ⟨Bx, 0, none⟩), .bool y.2, undef, .pointer (some ⟨g, 0, none⟩), .func (.func 126) #[] #[.pointer (some ⟨b1, 0, none⟩)], .agg #[.int .i64 y.1.a, .int .i64 y.1.s, .int .i64 y.1.t, .int .i64 y.1.n, .int .i64 y.1.d, .int .i64 y.1.k, .int .i64 y.1.x], .bool y.2, undef, undef, undef, undef, undef, undef, undef, undef, undef, undef, undef, undef, undef, undef, undef, undef, undef, undef, undef, undef], defers := [] }) ?ax ?assign ?body ?done ?stop
  case ax =>
    rintro x a' u X Y row ⟨Bx, h2, h3⟩ hg hr
    exact ⟨Bx, blk_grown h2 hg (fun r e => (hr r e).2), h3⟩
  case assign =>
    rintro lp pre y W K f hK
    unfold oenc Ev.val
    gi_wp2
    refine hK _ _ ((KeepsOthers.alloc _ _).from _) ((KeepsB.refl _ _ _).alloc _) (f.fresh ((Keep.refl _ _).alloc _)) ⟨W.heap.size, Blk.new W _ _, rfl⟩
  case body =>
    rintro lp pre y a' W hlp hrec ⟨f2, sz, bf, ⟨va, ba, oa, na⟩, ⟨vr, br, orr, nr⟩⟩ ⟨Bx, bx, rfl⟩ hlt
    obtain ⟨A2, cap2, rfl, _, _⟩ := oa.shape
    obtain ⟨A3, cap3, rfl, _, _⟩ := orr.shape
    have al := antis_le p pre
    have rl := stay_le p pre
    have hL1 := Lib.hid (show (antis p pre).length + 1 ≤ maxLen from one_le_maxLen (by omega))
    have hL2 := Lib.hid (show ((antis p pre).length + 1) * 64 ≤ 140737488355328 by omega)
    have hM1 := Lib.hid (show (stay p pre).length + 1 ≤ maxLen from one_le_maxLen (by omega))
    have hM2 := Lib.hid (show ((stay p pre).length + 1) * 64 ≤ 140737488355328 by omega)
    have HFA := Lib.hid (antis_snoc p pre y)
    have HFR := Lib.hid (stay_snoc p pre y)
    obtain ⟨P, hP⟩ : ∃ P, antis p pre = P := ⟨_, rfl⟩
    obtain ⟨R, hR⟩ : ∃ R, stay p pre = R := ⟨_, rfl⟩
    rw [hP] at ba oa na hL1 hL2 HFA
    rw [hR] at br orr nr hM1 hM2 HFR
    clear hP hR al rl
    have h08 : Hid (0 < 8) := Lib.hid (by omega)
    have cX := bx.cell
    have cF := bf.cell
    have lF := bf.lt
    have lX := bx.lt
    have c2 := ba.cell
    have c3 := br.cell
    have UX := Lib.hid bx
    have UA := Lib.hid ba
    have UB := Lib.hid oa
    have UC := Lib.hid na
    have UD := Lib.hid br
    have UE := Lib.hid orr
    have UF := Lib.hid nr
    have UG := Lib.hid f2
    have UH := Lib.hid bf
    have SZ := Lib.hid sz
    clear bx ba oa na br orr nr f2 bf hrec hlt sz
    have HPY := Lib.hid (HP.out (W.alloc (.cells #[.int .i64 y.1.a, .int .i64 y.1.s, .int .i64 y.1.t, .int .i64 y.1.n, .int .i64 y.1.d, .int .i64 y.1.k, .int .i64 y.1.x, .bool y.2] 137)) y (UG.out.alloc _))
    have BR := Lib.hid (Blk.new W 137 #[.int .i64 y.1.a, .int .i64 y.1.s, .int .i64 y.1.t, .int .i64 y.1.n, .int .i64 y.1.d, .int .i64 y.1.k, .int .i64 y.1.x, .bool y.2])
    cases hq : p y
    · rw [hq] at HFA HFR HPY
      clear hq
      gi_wp2_with (first
        | (refine ⟨trivial, ?_⟩; gi_at_call 111; go_loud (refine (CallsIn.inRound lp (callsIn_wide.2 HPY.out)).mono ?_; rintro e w3 ⟨rfl, f3⟩; have g3 : Hid (Fresh W w3) := Lib.hid (((Keep.refl (fun _ => False) W).alloc _).step f3 (fun _ _ h => h)); have bx3 := g3.out.blk_ UX.out; have br3 := g3.out.blk_ UD.out; have bR3 := f3.blk_ BR.out; have cX3 := bx3.cell; have cR3 := bR3.cell; have cB3 := br3.cell; have lX3 := bx3.lt; have lR3 := bR3.lt; have lB3 := br3.lt; have O3 := Lib.hid (UE.out.fresh g3.out); have B3 := Lib.hid br3; have HC : Hid (Src (w3.alloc (.cells #[.int .i64 y.1.a, .int .i64 y.1.s, .int .i64 y.1.t, .int .i64 y.1.n, .int .i64 y.1.d, .int .i64 y.1.k, .int .i64 y.1.x, .bool y.2] 137)) 8 (.slice (some ⟨w3.heap.size, 0, none⟩) 1 1) 1 (rcells [y])) := Lib.hid (Src.one_new w3 137 8 #[.int .i64 y.1.a, .int .i64 y.1.s, .int .i64 y.1.t, .int .i64 y.1.n, .int .i64 y.1.d, .int .i64 y.1.k, .int .i64 y.1.x, .bool y.2] rfl); clear f3 bx3 br3 bR3))
        | (gi_at_builtin; go_loud (refine wpListIn_append_OwnS _ rfl _ _ 133 rfl 137 i0 _ 8 64 Tryz.underlying133 hi hz0 hz1 hz2 rfl h08.out (.slice A3 R.length cap3) R.length (rcells R) rfl (O3.out.alloc _) (.slice (some ⟨w3.heap.size, 0, none⟩) 1 1) 1 (rcells [y]) rfl HC.out (rcells_one _) hM1.out hM2.out ?_; intro v4 w4 o4 k4 n4; obtain ⟨A4, cap4, rfl, _, _⟩ := o4.shape; have b4 := (B3.out.alloc (.cells #[.int .i64 y.1.a, .int .i64 y.1.s, .int .i64 y.1.t, .int .i64 y.1.n, .int .i64 y.1.d, .int .i64 y.1.k, .int .i64 y.1.x, .bool y.2] 137)).keep k4 (O3.out.ne_blk B3.out (by decide)); have c4 := b4.cell; have r4 := b4.frozen; have l4 := b4.lt; have V1 := Lib.hid b4; have V2 := Lib.hid o4; have V3 := Lib.hid k4; have V4 := Lib.hid n4; have V5 := Lib.hid g3.out; clear b4 o4 k4 n4)))


      have K1 : Hid (Keep (fun k => k = w.heap.size + 2 ∨ (Value.slice A3 R.length cap3).ownBlock = some k) W (w4.setCell ⟨w.heap.size + 2, 0, none⟩ (.slice A4 (R.length + 1) cap4))) := Lib.hid
        ((((V5.out.more (fun _ _ h => h.elim)).alloc _).step V3.out (fun _ _ h => .inr h)).setCell (p := ⟨w.heap.size + 2, 0, none⟩) (fun _ => .inl rfl) _)
      have NB : Hid (Boxed (w4.setCell ⟨w.heap.size + 2, 0, none⟩ (.slice A4 (R.length + 1) cap4)) (w.heap.size + 2) 133 137 w1.heap.size (R ++ [y])) := Lib.hid (by
        refine ⟨_, by simpa using V1.out.set_ 0 (.slice A4 (R.length + 1) cap4), ?_, ?_⟩
        · have := V2.out.far (p := ⟨w.heap.size + 2, 0, none⟩) (V2.out.ne_blk V1.out (by decide)) (.slice A4 (R.length + 1) cap4)
          simp only [List.length_append, rcells_append, List.length_cons, List.length_nil, Nat.zero_add]
          exact this
        · intro k hk
          rcases V4.out k hk with h | h
          · exact UF.out k h
          · have := V5.out.size
            have := SZ.out
            simp at h
            omega)
      refine ⟨(keepsOthers_of_keep K1.out ?_).from _, KeepsB.of_keep' K1.out ?_, ⟨UG.out.step K1.out ?_, Nat.le_trans SZ.out K1.out.size, UH.out.keep K1.out ?_, by rw [HFA.out]; simp only [Bool.false_eq_true, if_false, List.append_nil]; exact ⟨_, UA.out.keep K1.out (by rintro (h | h) ; (· omega); (· exact (UE.out.ne_blk UA.out (by decide)) h)), UB.out.kept K1.out (fun i hi h => by rcases h with rfl | h; (· exact (UB.out.ne_blk UD.out (by decide)) hi); (· exact UB.out.ne_own UE.out (by decide) i hi h)), UC.out⟩, by rw [HFR.out]; exact NB.out⟩⟩
      · rintro k o (rfl | hk) ho
        · exact blk_isCells UD.out ho
        · exact own_isCells UE.out hk ho
      · rintro cur hcur (h | h)
        · rw [h] at hcur
          have := UD.out
          unfold Blk at this
          rw [this] at hcur
          cases hcur
        · have := UF.out _ h
          omega
      · rintro k hk (h | h)
        · omega
        · have := UF.out k h
          omega
      · rintro (h | h)
        · omega
        · exact (UE.out.ne_blk UH.out (by decide)) h
    · rw [hq] at HFA HFR HPY
      clear hq
      gi_wp2_with (first
        | (refine ⟨trivial, ?_⟩; gi_at_call 111; go_loud (refine (CallsIn.inRound lp (callsIn_wide.2 HPY.out)).mono ?_; rintro e w3 ⟨rfl, f3⟩; have g3 : Hid (Fresh W w3) := Lib.hid (((Keep.refl (fun _ => False) W).alloc _).step f3 (fun _ _ h => h)); have bx3 := g3.out.blk_ UX.out; have br3 := g3.out.blk_ UA.out; have bR3 := f3.blk_ BR.out; have cX3 := bx3.cell; have cR3 := bR3.cell; have cB3 := br3.cell; have lX3 := bx3.lt; have lR3 := bR3.lt; have lB3 := br3.lt; have O3 := Lib.hid (UB.out.fresh g3.out); have B3 := Lib.hid br3; have HC : Hid (Src (w3.alloc (.cells #[.int .i64 y.1.a, .int .i64 y.1.s, .int .i64 y.1.t, .int .i64 y.1.n, .int .i64 y.1.d, .int .i64 y.1.k, .int .i64 y.1.x, .bool true] 43)) 8 (.slice (some ⟨w3.heap.size, 0, none⟩) 1 1) 1 (rcells [(y.1, true)])) := Lib.hid (Src.one_new w3 43 8 #[.int .i64 y.1.a, .int .i64 y.1.s, .int .i64 y.1.t, .int .i64 y.1.n, .int .i64 y.1.d, .int .i64 y.1.k, .int .i64 y.1.x, .bool true] rfl); clear f3 bx3 br3 bR3))
        | (gi_at_builtin; go_loud (refine wpListIn_append_OwnS _ rfl _ _ 35 rfl 43 i1 _ 8 64 Tryz.underlying35 hi1 hy0 hy1 hy2 rfl h08.out (.slice A2 P.length cap2) P.length (rcells P) rfl (O3.out.alloc _) (.slice (some ⟨w3.heap.size, 0, none⟩) 1 1) 1 (rcells [(y.1, true)]) rfl HC.out (rcells_one _) hL1.out hL2.out ?_; intro v4 w4 o4 k4 n4; obtain ⟨A4, cap4, rfl, _, _⟩ := o4.shape; have b4 := (B3.out.alloc (.cells #[.int .i64 y.1.a, .int .i64 y.1.s, .int .i64 y.1.t, .int .i64 y.1.n, .int .i64 y.1.d, .int .i64 y.1.k, .int .i64 y.1.x, .bool true] 43)).keep k4 (O3.out.ne_blk B3.out (by decide)); have c4 := b4.cell; have r4 := b4.frozen; have l4 := b4.lt; have V1 := Lib.hid b4; have V2 := Lib.hid o4; have V3 := Lib.hid k4; have V4 := Lib.hid n4; have V5 := Lib.hid g3.out; clear b4 o4 k4 n4)))
      have K1 : Hid (Keep (fun k => k = w.heap.size + 1 ∨ (Value.slice A2 P.length cap2).ownBlock = some k) W (w4.setCell ⟨w.heap.size + 1, 0, none⟩ (.slice A4 (P.length + 1) cap4))) := Lib.hid
        ((((V5.out.more (fun _ _ h => h.elim)).alloc _).step V3.out (fun _ _ h => .inr h)).setCell (p := ⟨w.heap.size + 1, 0, none⟩) (fun _ => .inl rfl) _)
      have NB : Hid (Boxed (w4.setCell ⟨w.heap.size + 1, 0, none⟩ (.slice A4 (P.length + 1) cap4)) (w.heap.size + 1) 35 43 w1.heap.size (P ++ [(y.1, true)])) := Lib.hid (by
        refine ⟨_, by simpa using V1.out.set_ 0 (.slice A4 (P.length + 1) cap4), ?_, ?_⟩
        · have := V2.out.far (p := ⟨w.heap.size + 1, 0, none⟩) (V2.out.ne_blk V1.out (by decide)) (.slice A4 (P.length + 1) cap4)
          simp only [List.length_append, rcells_append, List.length_cons, List.length_nil, Nat.zero_add]
          exact this
        · intro k hk
          rcases V4.out k hk with h | h
          · exact UC.out k h
          · have := V5.out.size
            have := SZ.out
            simp at h
            omega)
      refine ⟨(keepsOthers_of_keep K1.out ?_).from _, KeepsB.of_keep' K1.out ?_, ⟨UG.out.step K1.out ?_, Nat.le_trans SZ.out K1.out.size, UH.out.keep K1.out ?_, by rw [HFA.out]; exact NB.out, by rw [HFR.out]; simp only [if_true, List.append_nil]; exact ⟨_, UD.out.keep K1.out (by rintro (h | h) ; (· omega); (· exact (UB.out.ne_blk UD.out (by decide)) h)), UE.out.kept K1.out (fun i hi h => by rcases h with rfl | h; (· exact (UE.out.ne_blk UA.out (by decide)) hi); (· exact UE.out.ne_own UB.out (by decide) i hi h)), UF.out⟩⟩⟩
      · rintro k o (rfl | hk) ho
        · exact blk_isCells UA.out ho
        · exact own_isCells UB.out hk ho
      · rintro cur hcur (h | h)
        · rw [h] at hcur
          have := UA.out
          unfold Blk at this
          rw [this] at hcur
          cases hcur
        · have := UC.out _ h
          omega
      · rintro k hk (h | h)
        · omega
        · have := UC.out k h
          omega
      · rintro (h | h)
        · omega
        · exact (UB.out.ne_blk UH.out (by decide)) h
  case done =>
    rintro D ys W hD rfl ⟨f2, sz, bf, ⟨va, ba, oa, na⟩, ⟨vr, br, orr, nr⟩⟩ hK
    obtain ⟨A2, cap2, rfl, _, _⟩ := oa.shape
    obtain ⟨A3, cap3, rfl, _, _⟩ := orr.shape
    have Q := HQ.out.fresh f2
    obtain ⟨q4, t4⟩ := HQ.out.put (S := fun _ => False) orr (HQ.out.srt.stay p) f2 (fun _ h => h.elim) (fun i hi => .inr (by have := nr i hi; omega))
    have OA := Lib.hid (oa.far (p := ⟨g, 0, none⟩) (oa.ne_blk Q.blk (by decide)) (.slice A3 (stay p ys).length cap3))
    have bA := ba.far (p := ⟨g, 0, none⟩) (show w.heap.size + 1 ≠ g by have := HQ.out.blk.lt; omega) (.slice A3 (stay p ys).length cap3)
    have hDl := (Array.getElem?_eq_some_iff.1 hK).1
    have hDg : ¬ D = g := by have := HQ.out.blk.lt; omega
    have cQ := Q.blk.cell
    have rQ := Q.blk.frozen
    have lQ := Q.blk.lt
    have cR := br.cell
    have cA := bA.cell
    have KK : Hid ((W.setCell ⟨g, 0, none⟩ (.slice A3 (stay p ys).length cap3)).heap[D]? = some (.deferred (some []))) := Lib.hid (((Keep.setCell (S := fun k => k = g) (Keep.refl _ W) (p := ⟨g, 0, none⟩) (fun _ => rfl) (.slice A3 (stay p ys).length cap3)).block D hDl hDg).trans hK)
    have Q4 := Lib.hid q4
    have T4 := Lib.hid t4
    have NA := Lib.hid na
    have HD := Lib.hid hD
    clear q4 t4 oa orr ba br bA na nr bf sz f2 Q hK hDl hDg hD
    obtain ⟨N, hN⟩ : ∃ N, (stay p ys).length = N := ⟨_, rfl⟩
    obtain ⟨M, hM⟩ : ∃ M, (antis p ys).length = M := ⟨_, rfl⟩
    rw [hN] at OA cR cA KK Q4 T4
    rw [hM] at OA cA NA
    have HN := Lib.hid hN
    have HM := Lib.hid hM
    clear hN hM
    go_wp2_with fail
    refine ⟨by simp, .inl ⟨_, _, rfl, run_takeDeferred KK.out, ?_⟩⟩
    have hr : ∀ r, some D = some r → ∃ o : Obj, (W.setCell ⟨g, 0, none⟩ (.slice A3 N cap3)).heap[r]? = some o ∧ o.isCells = false := fun r e => by cases e; exact ⟨_, KK.out, rfl⟩
    have hg := grownBy_putObj' (W.setCell ⟨g, 0, none⟩ (.slice A3 N cap3)) D (.deferred none)
    have hm := HM.out
    subst hm
    exact ⟨_, results_tmp rfl _ _ _, .slice A2 (antis p ys).length cap2, .slice A3 N cap3, rfl, ownS_grown OA.out hg hr, Q4.out.grown hg hr, T4.out.grown hg (fun r e => by cases e; have := HD.out; omega), fun k hk => by have := NA.out k hk; omega⟩
  case stop =>
    rintro D c pre W _ _ h _
    exact h.elim
end Go.Proofs.YthbcdkeammhakaaGreat

/-
  outq.Queue: Flush, Drop, Back, at once and lazily.
-/
namespace Go.Proofs.YthbcdkeammhakaaGreat
open Go.RowKit
attribute [local go_sem ↓] Go.wp_at_zero Go.wp_at_succ

theorem TakeP.after {g : Nat} {v : Value} {l : List Rec} {p : Rec → Bool} {w W w' : World} {e : Ending} (f : Fresh w W) (h : TakeP g v l p W e w') : TakeP g v l p w e w' := by
  obtain ⟨va, v', h1, h2, h3, h4, h5⟩ := h
  exact ⟨va, v', h1, h2, h3, OTurn.after f h4, fun k hk => Nat.le_trans f.size (h5 k hk)⟩
def flushP (b : Int) (r : Rec) : Bool := !r.2 && decide (r.1.t < b)
def dropP (b : Int) (r : Rec) : Bool := r.2 && decide (r.1.t < b)
def backP (b : Int) (r : Rec) : Bool := decide (b ≤ r.1.t)
theorem flush1 (x1 : Nat) (b : Int) (r : Rec) (w : World) (h : Blk w x1 3 #[.int .i64 b]) :
    Calls Tryz.prog 101 #[Rec.val r, .pointer (some ⟨x1, 0, none⟩)] w fun e w' => e = .returned (.bool (flushP b r)) ∧ Fresh w w' := by
  unfold Rec.val flushP
  have cx := h.cell
  have lx := h.lt
  clear h
  obtain ⟨y, s⟩ := r
  cases s
  · go_enter Tryz.func101, Tryz.ntmps101
    go_wp2_with fail
    go_ret
    exact ⟨rfl, (Keep.refl _ w).alloc _⟩
  · go_enter Tryz.func101, Tryz.ntmps101
    go_wp2_with fail
    go_ret
    exact ⟨rfl, (Keep.refl _ w).alloc _⟩
theorem drop1 (x1 : Nat) (b : Int) (r : Rec) (w : World) (h : Blk w x1 3 #[.int .i64 b]) :
    Calls Tryz.prog 111 #[Rec.val r, .pointer (some ⟨x1, 0, none⟩)] w fun e w' => e = .returned (.bool (dropP b r)) ∧ Fresh w w' := by
  unfold Rec.val dropP
  have cx := h.cell
  have lx := h.lt
  clear h
  obtain ⟨y, s⟩ := r
  cases s
  · go_enter Tryz.func111, Tryz.ntmps111
    go_wp2_with fail
    go_ret
    exact ⟨rfl, (Keep.refl _ w).alloc _⟩
  · go_enter Tryz.func111, Tryz.ntmps111
    go_wp2_with fail
    go_ret
    exact ⟨rfl, (Keep.refl _ w).alloc _⟩
theorem back1 (x1 : Nat) (b : Int) (r : Rec) (w : World) (h : Blk w x1 3 #[.int .i64 b]) :
    Calls Tryz.prog 138 #[Rec.val r, .pointer (some ⟨x1, 0, none⟩)] w fun e w' => e = .returned (.bool (backP b r)) ∧ Fresh w w' := by
  unfold Rec.val backP
  have cx := h.cell
  have lx := h.lt
  clear h
  go_enter Tryz.func138, Tryz.ntmps138
  go_wp2_with fail
  go_ret
  exact ⟨rfl, (Keep.refl _ w).alloc _⟩
theorem flush_any (g : Nat) (v : Value) (l : List Rec) (b : Int) (w : World) (h : OQ w g v l) (hl : l.length ≤ 100000) :
    Calls Tryz.prog 56 #[.pointer (some ⟨g, 0, none⟩), .int .i64 b] w (TakeP g v l (flushP b) w) := by
  have F0 : Fresh w (w.alloc (.cells #[.int .i64 b] 3)) := (Keep.refl _ w).alloc _
  have B0 := Blk.new w 3 #[.int .i64 b]
  have H1 := Lib.hid (take_anyFlush g v l (flushP b) w.heap.size _ (h.fresh F0) hl (fun W r f => flush1 _ b r W (f.blk_ B0)))
  have lg := h.blk.lt
  clear h B0
  go_enter Tryz.func56, Tryz.ntmps56
  go_wp2_with ((with_reducible refine H1.out.mono ?_); rintro e w1 ⟨va, v', rfl, h2, h3⟩)
  go_ret
  exact TakeP.after F0 ⟨_, _, rfl, h2, h3⟩
theorem dropq_any (g : Nat) (v : Value) (l : List Rec) (b : Int) (w : World) (h : OQ w g v l) (hl : l.length ≤ 100000) :
    Calls Tryz.prog 64 #[.pointer (some ⟨g, 0, none⟩), .int .i64 b] w fun e w' => e = .returned (.int .i64 (antis (dropP b) l).length) ∧ ∃ v', OQ w' g v' (stay (dropP b) l) ∧ OTurn w w' g v v' := by
  have F0 : Fresh w (w.alloc (.cells #[.int .i64 b] 3)) := (Keep.refl _ w).alloc _
  have B0 := Blk.new w 3 #[.int .i64 b]
  have H1 := Lib.hid (take_anyDrop g v l (dropP b) w.heap.size _ (h.fresh F0) hl (fun W r f => drop1 _ b r W (f.blk_ B0)))
  have lg := h.blk.lt
  clear h B0
  go_enter Tryz.func64, Tryz.ntmps64
  go_wp2_with ((with_reducible refine H1.out.mono ?_); rintro e w1 ⟨va, v', rfl, h2, h3, h4, h5⟩; obtain ⟨A1, c1, rfl, _, _⟩ := h2.shape)
  go_ret
  exact ⟨rfl, v', h3, OTurn.after F0 h4⟩
theorem back_any (g : Nat) (v : Value) (l : List Rec) (b : Int) (w : World) (h : OQ w g v l) (hl : l.length ≤ 100000) :
    Calls Tryz.prog 118 #[.pointer (some ⟨g, 0, none⟩), .int .i64 b, .bool false] w (TakeP g v l (backP b) w) := by
  have F0 : Fresh w (w.alloc (.cells #[.int .i64 b] 3)) := (Keep.refl _ w).alloc _
  have B0 := Blk.new w 3 #[.int .i64 b]
  have H1 := Lib.hid (take_anyBack g v l (backP b) w.heap.size _ (h.fresh F0) hl (fun W r f => back1 _ b r W (f.blk_ B0)))
  have lg := h.blk.lt
  clear h B0
  go_enter Tryz.func118, Tryz.ntmps118
  go_wp2_with ((with_reducible refine H1.out.mono ?_); rintro e w1 ⟨va, v', rfl, h2, h3⟩)
  go_ret
  exact TakeP.after F0 ⟨_, _, rfl, h2, h3⟩
/-! ### a record's flag turned; Back, lazily -/
theorem rcells_set : ∀ (l : List Rec) (i : Nat) (y : Rec) (b : Bool), l[i]? = some y → (rcells l).set (i * 8 + 7) (.bool b) = rcells (l.set i (y.1, b)) := by
  intro l
  induction l with
  | nil => intro i y b h; simp at h
  | cons a r ih =>
    intro i y b h
    cases i with
    | zero =>
      simp at h
      subst h
      rfl
    | succ i =>
      rw [rcells_cons, show (i + 1) * 8 + 7 = (i * 8 + 7) + 8 by omega]
      simp only [List.set_cons_succ]
      rw [ih i y b (by simpa using h), rcells_cons]
theorem RSrt.iff {l : List Rec} : RSrt l ↔ (l.map (·.1)).Pairwise (fun a b => sLt a b = true) := by
  unfold RSrt
  rw [List.pairwise_map]
theorem map_set_fst (l : List Rec) (i : Nat) (y : Rec) (b : Bool) (h : l[i]? = some y) : (l.set i (y.1, b)).map (·.1) = l.map (·.1) := by
  rw [List.map_set]
  apply List.ext_getElem?
  intro j
  rw [List.getElem?_set]
  split
  · rename_i hj
    subst hj
    rw [List.getElem?_map, h]
    simp
    exact (List.getElem?_eq_some_iff.1 h).1
  · rfl
theorem RSrt.set {l : List Rec} (h : RSrt l) {i : Nat} {y : Rec} (hy : l[i]? = some y) (b : Bool) : RSrt (l.set i (y.1, b)) := by
  rw [RSrt.iff, map_set_fst l i y b hy, ← RSrt.iff]
  exact h
theorem OQ.mark {w : World} {g g3 off cap n : Nat} {l : List Rec} (h : OQ w g (.slice (some ⟨g3, off, none⟩) n cap) l) {i : Nat} {y : Rec} (hy : l[i]? = some y) (b : Bool) :
    OQ (w.setCell ⟨g3, off + i * 8 + 7, none⟩ (.bool b)) g (.slice (some ⟨g3, off, none⟩) n cap) (l.set i (y.1, b)) ∧ OTurn w (w.setCell ⟨g3, off + i * 8 + 7, none⟩ (.bool b)) g (.slice (some ⟨g3, off, none⟩) n cap) (.slice (some ⟨g3, off, none⟩) n cap) := by
  have hne := h.n
  have hn : n = l.length := by
    obtain ⟨A, c, hv, _, _⟩ := h.own.shape
    injection hv
  subst hn
  have hi := (List.getElem?_eq_some_iff.1 hy).1
  have K : Keep (ofoot g (.slice (some ⟨g3, off, none⟩) l.length cap)) w (w.setCell ⟨g3, off + i * 8 + 7, none⟩ (.bool b)) := Keep.setCell (Keep.refl _ w) (p := ⟨g3, off + i * 8 + 7, none⟩) (fun _ => .inr rfl) _
  refine ⟨⟨h.blk.far (p := ⟨g3, off + i * 8 + 7, none⟩) (fun e => hne (by simp only at e; rw [e]; rfl)) _, ?_, h.srt.set hy b⟩, ⟨K, fun k hk => .inl hk⟩⟩
  have := h.own.set_ (i * 8 + 7) (.bool b) (by rw [rcells_length]; omega)
  rw [List.length_set, ← rcells_set l i y b hy, Nat.add_assoc]
  exact this
def doubt (b : Int) (l : List Rec) : List Rec := l.map (fun r => if b ≤ r.1.t then (r.1, false) else r)
theorem doubt_snoc (b : Int) (l : List Rec) (i : Nat) (y : Rec) (hy : l[i]? = some y) (h : b ≤ y.1.t) : (doubt b (l.take i) ++ l.drop i).set i (y.1, false) = doubt b (l.take (i + 1)) ++ l.drop (i + 1) := by
  have hi := (List.getElem?_eq_some_iff.1 hy).1
  have hd : l.drop i = y :: l.drop (i + 1) := by rw [← (List.getElem?_eq_some_iff.1 hy).2]; exact List.drop_eq_getElem_cons hi
  have hl : (doubt b (l.take i)).length = i := by unfold doubt; rw [List.length_map, List.length_take]; omega
  rw [hd, List.set_append_right _ _ (by omega), hl, Nat.sub_self, List.set_cons_zero, List.take_add_one, hy]
  unfold doubt
  simp [h]
theorem doubt_same (b : Int) (l : List Rec) (i : Nat) (y : Rec) (hy : l[i]? = some y) (h : ¬ b ≤ y.1.t) : doubt b (l.take i) ++ l.drop i = doubt b (l.take (i + 1)) ++ l.drop (i + 1) := by
  have hi := (List.getElem?_eq_some_iff.1 hy).1
  have hd : l.drop i = y :: l.drop (i + 1) := by rw [← (List.getElem?_eq_some_iff.1 hy).2]; exact List.drop_eq_getElem_cons hi
  rw [hd, List.take_add_one, hy]
  unfold doubt
  simp [h]
theorem doubt_at (b : Int) (l : List Rec) (i : Nat) (y : Rec) (hy : l[i]? = some y) : (doubt b (l.take i) ++ l.drop i)[i]? = some y := by
  have hi := (List.getElem?_eq_some_iff.1 hy).1
  have hl : (doubt b (l.take i)).length = i := by unfold doubt; rw [List.length_map, List.length_take]; omega
  rw [List.getElem?_append_right (by omega), hl, Nat.sub_self, List.getElem?_drop, Nat.add_zero, hy]
theorem doubt_len (b : Int) (l : List Rec) (i : Nat) (hi : i ≤ l.length) : (doubt b (l.take i) ++ l.drop i).length = l.length := by
  unfold doubt
  simp
  omega
set_option maxHeartbeats 4000000 in
theorem backL_any (g : Nat) (v : Value) (l : List Rec) (b : Int) (w : World) (h : OQ w g v l) (hl : l.length ≤ 100000) :
    Calls Tryz.prog 118 #[.pointer (some ⟨g, 0, none⟩), .int .i64 b, .bool true] w fun e w' => e = .returned (.slice none 0 0) ∧ OQ w' g v (doubt b l) ∧ OTurn w w' g v v := by
  have F0 : Fresh w (w.alloc (.cells #[.int .i64 b] 3)) := (Keep.refl _ w).alloc _
  have T0 : OTurn w (w.alloc (.cells #[.int .i64 b] 3)) g v v := OTurn.fresh F0
  have Q0 := h.fresh F0
  have B0 := Blk.new w 3 #[.int .i64 b]
  obtain ⟨A, cap, rfl, hca, hcm⟩ := h.own.shape
  have hcm : cap ≤ 9223372036854775807 := by unfold maxLen at hcm; omega
  have HNB := Lib.hid (show ∀ k, ofoot g (.slice A l.length cap) k → k < w.heap.size from fun k hk => h.lt k hk)
  have cq := Q0.blk.cell
  have lq := h.blk.lt
  have HT0 := Lib.hid T0
  have HQ0 := Lib.hid Q0
  have HB0 := Lib.hid B0
  clear h F0 T0 Q0 B0
  go_enter Tryz.func118, Tryz.ntmps118
  go_wp2_with fail
  go_loopg [21] l.length (fun gk u21 wr => ∃ i : Nat, i ≤ l.length ∧ gk = l.length - i ∧ u21 = .int .i64 i ∧ OQ wr g (.slice A l.length cap) (doubt b (l.take i) ++ l.drop i) ∧ OTurn w wr g (.slice A l.length cap) (.slice A l.length cap) ∧ Blk wr w.heap.size 3 #[.int .i64 b])
  case atStart => exact ⟨0, by omega, rfl, rfl, by simpa [doubt] using HQ0.out, HT0.out, HB0.out⟩
  case round =>
    obtain ⟨i, hi, rfl, rfl, hQ, hT, hB⟩ := hrel
    by_cases hlt : i < l.length
    · obtain ⟨⟨y, s⟩, hy⟩ : ∃ y, l[i]? = some y := ⟨_, List.getElem?_eq_getElem hlt⟩
      obtain ⟨g3, off3, cap3, hv3, hg3, _, _, hcc⟩ := hQ.own.form (by rw [doubt_len b l i hi]; omega)
      injection hv3 with e1 e2 e3
      subst e1 e3
      have hdy := doubt_at b l i _ hy
      obtain ⟨y0, y1, y2, y3, y4, y5, y6, y7⟩ := rcells_at _ i _ hdy
      have y0 := hcc _ _ y0
      have y1 := hcc _ _ y1
      have y2 := hcc _ _ y2
      have y3 := hcc _ _ y3
      have y4 := hcc _ _ y4
      have y5 := hcc _ _ y5
      have y6 := hcc _ _ y6
      have y7 := hcc _ _ y7
      rw [← Nat.add_assoc] at y1 y2 y3 y4 y5 y6 y7
      simp only at y0 y1 y2 y3 y4 y5 y6 y7
      have cb := hB.cell
      have cq := hQ.blk.cell
      have lq := hQ.blk.lt
      have lb := hB.lt
      have hQo := hQ.own
      rw [doubt_len b l i hi] at hQo
      have fr := (OwnS.at_ hQo).2.1
      clear hQo
      have HX := Lib.hid (hQ.mark (i := i) hdy false)
      have HY := Lib.hid hy
      have HQ := Lib.hid hQ
      have HT := Lib.hid hT
      have HB := Lib.hid hB
      clear hcc hy e2 hdy hQ hT hB
      by_cases ht : b ≤ y.t
      · have t1 : decide (b ≤ y.t) = true := decide_eq_true ht
        have HS := Lib.hid (doubt_snoc b l i _ HY.out ht)
        clear ht
        go_wp2_with fail
        go_roundg (l.length - (i + 1))
        case measure => omega
        case rel => exact ⟨i + 1, by omega, rfl, by go_num, by rw [← HS.out]; exact HX.out.1.fresh ((Keep.refl _ _).alloc _), OTurn.two HT.out (OTurn.two HX.out.2 (OTurn.fresh ((Keep.refl _ _).alloc _))), (HB.out.keep HX.out.2.keep (fun hf => by have := HNB.out _ hf; omega)).alloc _⟩
      · have t1 : decide (b ≤ y.t) = false := decide_eq_false ht
        have HS := Lib.hid (doubt_same b l i _ HY.out ht)
        clear ht
        go_wp2_with fail
        go_roundg (l.length - (i + 1))
        case measure => omega
        case rel => exact ⟨i + 1, by omega, rfl, by go_num, by rw [← HS.out]; exact HQ.out.fresh ((Keep.refl _ _).alloc _), OTurn.two HT.out (OTurn.fresh ((Keep.refl _ _).alloc _)), HB.out.alloc _⟩
    · obtain rfl : i = l.length := by omega
      have HQ := Lib.hid hQ
      have HT := Lib.hid hT
      clear hQ hT hB
      go_wp2_with fail
      go_ret
      exact ⟨rfl, by simpa using HQ.out, HT.out⟩
end Go.Proofs.YthbcdkeammhakaaGreat

/-
  DERIVED: THE SHELF's CONTRACTS AT THIS DUMP, IN PLAIN WORDS (tools/lay-plain.mjs out of 'YthbcdkeammhakaaGreatOSortLay.lean', which tools/lay-shelf.mjs wrote): THE SAME DECLARATIONS UNDER THE SAME NAMES: 'import', 'namespace', 'open', 'def', 'theorem' AND NOTHING ELSE: no command of the shelf's: FOR A HAND-IN. Each laying: the table of numbers ('.._ren') and one theorem, a field a fact of the dump's own or the kernel's comparison; each contract: ONE APPLICATION.
-/
namespace Go.Proofs
open Go.Shelf
def sortEvL_ren : Go.Shelf.Ren := ⟨fun | 6 => 92 | 15 => 128 | 14 => 127 | 28 => 152 | 29 => 153 | 20 => 144 | 21 => 145 | 22 => 146 | 23 => 147 | 24 => 148 | 25 => 149 | 26 => 150 | 27 => 151 | 46 => 157 | 47 => 158 | 48 => 159 | 49 => 160 | 50 => 161 | 57 => 165 | n => n, fun | 22 => 24 | 24 => 41 | 25 => 142 | 3 => 3 | 39 => 181 | 0 => 0 | 53 => 204 | 55 => 206 | 4 => 4 | 46 => 198 | 45 => 197 | 50 => 89 | 5 => 5 | 9 => 9 | 66 => 209 | 70 => 213 | 76 => 217 | 77 => 128 | n => n, fun | n => n⟩
theorem sortEvL : Go.Proofs.SlLaysF0.n6 Tryz.prog sortEvL_ren := {
  mixed := by kernel_rfl
  f6 := ⟨Tryz.f92.name, by decide, Tryz.func92.trans (congrArg some (by kernel_rfl))⟩
  f14 := ⟨Tryz.f127.name, by decide, Tryz.func127.trans (congrArg some (by kernel_rfl))⟩
  f15 := Tryz.func128.trans (congrArg some (by kernel_rfl))
  f20 := ⟨Tryz.f144.name, by decide, Tryz.func144.trans (congrArg some (by kernel_rfl))⟩
  f21 := ⟨Tryz.f145.name, by decide, Tryz.func145.trans (congrArg some (by kernel_rfl))⟩
  f22 := ⟨Tryz.f146.name, by decide, Tryz.func146.trans (congrArg some (by kernel_rfl))⟩
  f23 := ⟨Tryz.f147.name, by decide, Tryz.func147.trans (congrArg some (by kernel_rfl))⟩
  f24 := ⟨Tryz.f148.name, by decide, Tryz.func148.trans (congrArg some (by kernel_rfl))⟩
  f25 := ⟨Tryz.f149.name, by decide, Tryz.func149.trans (congrArg some (by kernel_rfl))⟩
  f26 := ⟨Tryz.f150.name, by decide, Tryz.func150.trans (congrArg some (by kernel_rfl))⟩
  f27 := ⟨Tryz.f151.name, by decide, Tryz.func151.trans (congrArg some (by kernel_rfl))⟩
  f28 := Tryz.func152.trans (congrArg some (by kernel_rfl))
  f29 := Tryz.func153.trans (congrArg some (by kernel_rfl))
  f46 := ⟨Tryz.f157.name, by decide, Tryz.func157.trans (congrArg some (by kernel_rfl))⟩
  f47 := Tryz.func158.trans (congrArg some (by kernel_rfl))
  f48 := Tryz.func159.trans (congrArg some (by kernel_rfl))
  f49 := ⟨Tryz.f160.name, by decide, Tryz.func160.trans (congrArg some (by kernel_rfl))⟩
  f50 := ⟨Tryz.f161.name, by decide, Tryz.func161.trans (congrArg some (by kernel_rfl))⟩
  f57 := ⟨Tryz.f165.name, by decide, Tryz.func165.trans (congrArg some (by kernel_rfl))⟩
  t0 := Tryz.underlying0
  a0 := Tryz.isAgg0
  z0 := Tryz.sizeOf0
  v0 := Tryz.zeroValue0
  t3 := Tryz.underlying3
  a3 := Tryz.isAgg3
  z3 := Tryz.sizeOf3
  v3 := Tryz.zeroValue3
  t4 := Tryz.underlying4
  a4 := Tryz.isAgg4
  z4 := Tryz.sizeOf4
  v4 := Tryz.zeroValue4
  t5 := Tryz.underlying5
  a5 := Tryz.isAgg5
  z5 := Tryz.sizeOf5
  v5 := Tryz.zeroValue5
  t9 := Tryz.underlying9
  a9 := Tryz.isAgg9
  z9 := Tryz.sizeOf9
  v9 := Tryz.zeroValue9
  t22 := Tryz.underlying24
  a22 := Tryz.isAgg24
  z22 := Tryz.sizeOf24
  v22 := Tryz.zeroValue24
  t25 := Tryz.underlying142
  a25 := Tryz.isAgg142
  z25 := Tryz.sizeOf142
  v25 := Tryz.zeroValue142
  t39 := Tryz.underlying181
  a39 := Tryz.isAgg181
  z39 := Tryz.sizeOf181
  v39 := Tryz.zeroValue181
  t45 := Tryz.underlying197
  a45 := Tryz.isAgg197
  z45 := Tryz.sizeOf197
  v45 := Tryz.zeroValue197
  t46 := Tryz.underlying198
  a46 := Tryz.isAgg198
  z46 := Tryz.sizeOf198
  v46 := Tryz.zeroValue198
  t50 := Tryz.underlying89
  a50 := Tryz.isAgg89
  z50 := Tryz.sizeOf89
  v50 := Tryz.zeroValue89
  t53 := Tryz.underlying204
  a53 := Tryz.isAgg204
  z53 := Tryz.sizeOf204
  v53 := Tryz.zeroValue204
  t55 := Tryz.underlying206
  a55 := Tryz.isAgg206
  z55 := Tryz.sizeOf206
  v55 := Tryz.zeroValue206
  t66 := Tryz.underlying209
  a66 := Tryz.isAgg209
  z66 := Tryz.sizeOf209
  v66 := Tryz.zeroValue209
  t70 := Tryz.underlying213
  a70 := Tryz.isAgg213
  z70 := Tryz.sizeOf213
  v70 := Tryz.zeroValue213
  t76 := Tryz.underlying217
  a76 := Tryz.isAgg217
  z76 := Tryz.sizeOf217
  v76 := Tryz.zeroValue217
  t77 := Tryz.underlying128
  a77 := Tryz.isAgg128
  z77 := Tryz.sizeOf128
  v77 := Tryz.zeroValue128 }
end Go.Proofs
