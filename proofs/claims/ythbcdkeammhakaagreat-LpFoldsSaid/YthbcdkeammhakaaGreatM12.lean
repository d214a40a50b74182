/- Chapter 13: OTakeOOsent, OSentK, OSent, LpS. -/
import Derived.Test.YthbcdkeammhakaaGreatM09
import Derived.Test.YthbcdkeammhakaaGreatM11
import Derived.Test.YthbcdkeammhakaaGreatM01
import Derived.Test.YthbcdkeammhakaaGreatM07
import Derived.RecoverIn
import Derived.TacticsInMore
/-
  outq.Queue's take, at what Sent takes.
-/
namespace Go.Proofs.YthbcdkeammhakaaGreat
open Go.RowKit Go.Shelf
attribute [local go_sem] Oper.semAt_some
attribute [local go_sem ↓] Go.wp_at_zero Go.wp_at_succ

set_option maxRecDepth 100000 in
set_option maxHeartbeats 8000000 in
theorem take_anySent (g : Nat) (v : Value) (l : List Rec) (p : Rec → Bool) (x1 x2 : Nat) (w : World) (h : OQ w g v l) (hl : l.length ≤ 100000)
    (hp : ∀ W r, Fresh w W → Calls Tryz.prog 95 #[Rec.val r, .pointer (some ⟨x1, 0, none⟩), .pointer (some ⟨x2, 0, none⟩)] W fun e w' => e = .returned (.bool (p r)) ∧ Fresh W w') :
    Calls Tryz.prog 94 #[.pointer (some ⟨g, 0, none⟩), .func (.func 95) #[] #[.pointer (some ⟨x1, 0, none⟩), .pointer (some ⟨x2, 0, none⟩)]] w (TakeP g v l p w) := by
  have HQ := Lib.hid h
  unfold Rec.val at hp
  have HP := Lib.hid hp
  obtain ⟨W0, hW0⟩ : ∃ W0, ((w.alloc (.cells #[.func (.func 95) #[] #[.pointer (some ⟨x1, 0, none⟩), .pointer (some ⟨x2, 0, none⟩)]] 145)).alloc (.cells #[.slice none 0 0] 35)).alloc (.cells #[.slice none 0 0] 133) = W0 := ⟨_, rfl⟩
  have F0 : Fresh w W0 := hW0 ▸ (((Keep.refl _ w).alloc _).alloc _).alloc _
  have B0 : Blk W0 w.heap.size 145 #[.func (.func 95) #[] #[.pointer (some ⟨x1, 0, none⟩), .pointer (some ⟨x2, 0, none⟩)]] := hW0 ▸ ((Blk.new w _ _).alloc _).alloc _
  have B1 : Blk W0 (w.heap.size + 1) 35 #[.slice none 0 0] := hW0 ▸ (Blk.at_new (by simp) _ _).alloc _
  have B2 : Blk W0 (w.heap.size + 2) 133 #[.slice none 0 0] := hW0 ▸ Blk.at_new (by simp) _ _
  have HA := Lib.hid (oall_any g v l W0 (h.fresh F0) hl)
  have KF := Lib.hid F0
  have KB0 := Lib.hid B0
  have KB1 := Lib.hid B1
  have KB2 := Lib.hid B2
  obtain ⟨i0, hi, hz0, hz1, hz2⟩ := info_parts info_rec
  obtain ⟨i1, hi1, hy0, hy1, hy2⟩ := info_parts info_msg
  clear h hp F0 B0 B1 B2
  refine (callsIn_wide (n := 6)).1 ?_
  refine callsIn_of_wp_marks Tryz.func94 rfl trivial ?_ rfl
  simp only [Tryz.ntmps94, List.size_toArray, List.length_cons, List.length_nil, Nat.reduceAdd, Nat.reduceSub, Array.replicate_succ, Array.replicate_zero, List.push_toArray, List.append_toArray, List.nil_append, List.cons_append]
  refine wpIn_wide.2 ?_
  go_wp2_with (go_at_call 87; (with_reducible refine HA.out.mono ?_); rintro e w1 ⟨b1, v1, rfl, B1, O1, F1, N1, M1⟩)
  have hbk : bk v1 < w1.heap.size := by
    unfold bk
    cases hv : v1.ownBlock with
    | none => have := B1.lt; simp; omega
    | some k => simpa using O1.lt hv
  have KO := Lib.hid O1
  have KB := Lib.hid B1
  have T0 : Hid (TInv p (.func (.func 95) #[] #[.pointer (some ⟨x1, 0, none⟩), .pointer (some ⟨x2, 0, none⟩)]) w w1.heap.size [] w1) := Lib.hid ⟨KF.out.step F1 (fun _ _ h => h), Nat.le_refl _, F1.blk_ KB0.out, ⟨_, F1.blk_ KB1.out, OwnS.nil _ _ _, by simp [Value.ownBlock]⟩, ⟨_, F1.blk_ KB2.out, OwnS.nil _ _ _, by simp [Value.ownBlock]⟩⟩
  have szF := (KF.out.step F1 (fun _ _ h => h)).size
  clear O1 B1 F1 N1 M1 KF KB0 KB1 KB2 HA hW0
  refine (wpIn_wide (n := 6)).1 ?_
  refine wpIn_rangeFunc_ownH rfl (by omega) (gf := 126) (lb := #[.pointer (some ⟨b1, 0, none⟩)]) rfl trivial (enters_of Tryz.func126 (by kernel_rfl) rfl)
    (all_stops Fence.wide (6 - 1) trivial rfl (by omega) b1 v1 l (by omega) w1 KB.out KO.out) keepsB_t keepsB_b (Below.refl _ _) (fun _ => rfl)
    (TInv p (.func (.func 95) #[] #[.pointer (some ⟨x1, 0, none⟩), .pointer (some ⟨x2, 0, none⟩)]) w w1.heap.size) (fun _ _ _ => False) (fun pre X Y row hs hg hr => hs.own (by omega) hg hr) (fun _ _ _ _ _ hs _ _ => hs)
    T0.out
    (fun y a' W => ∃ Bx, Blk W Bx 41 #[.int .i64 y.1.a, .int .i64 y.1.s, .int .i64 y.1.t, .int .i64 y.1.n, .int .i64 y.1.d, .int .i64 y.1.k, .int .i64 y.1.x] ∧ a' = { tmps := #[.pointer (some ⟨g, 0, none⟩), .func (.func 95) #[] #[.pointer (some ⟨x1, 0, none⟩), .pointer (some ⟨x2, 0, none⟩)], undef, .pointer (some ⟨w.heap.size, 0, none⟩), .slice none 0 0, .pointer (some ⟨w.heap.size + 1, 0, none⟩), .pointer (some ⟨w.heap.size + 1 + 1, 0, none⟩), .pointer (some ⟨Bx, 0, none⟩), .bool y.2, undef, .pointer (some ⟨g, 0, none⟩), .func (.func 126) #[] #[.pointer (some ⟨b1, 0, none⟩)], .agg #[.int .i64 y.1.a, .int .i64 y.1.s, .int .i64 y.1.t, .int .i64 y.1.n, .int .i64 y.1.d, .int .i64 y.1.k, .int .i64 y.1.x], .bool y.2, undef, undef, undef, undef, undef, undef, undef, undef, undef, undef, undef, undef, undef, undef, undef, undef, undef, undef, undef, undef], defers := [] }) ?ax ?assign ?body ?done ?stop
  case ax =>
    rintro x a' u X Y row ⟨Bx, h2, h3⟩ hg hr
    exact ⟨Bx, blk_grown h2 hg (fun r e => (hr r e).2), h3⟩
  case assign =>
    rintro lp pre y W K f hK
    unfold oenc Ev.val
    gi_wp2
    refine hK _ _ ((KeepsOthers.alloc _ _).from _) ((KeepsB.refl _ _ _).alloc _) (f.fresh ((Keep.refl _ _).alloc _)) ⟨W.heap.size, Blk.new W _ _, rfl⟩
  case body =>
    rintro lp pre y a' W hlp hrec ⟨f2, sz, bf, ⟨va, ba, oa, na⟩, ⟨vr, br, orr, nr⟩⟩ ⟨Bx, bx, rfl⟩ hlt
    obtain ⟨A2, cap2, rfl, _, _⟩ := oa.shape
    obtain ⟨A3, cap3, rfl, _, _⟩ := orr.shape
    have al := antis_le p pre
    have rl := stay_le p pre
    have hL1 := Lib.hid (show (antis p pre).length + 1 ≤ maxLen from one_le_maxLen (by omega))
    have hL2 := Lib.hid (show ((antis p pre).length + 1) * 64 ≤ 140737488355328 by omega)
    have hM1 := Lib.hid (show (stay p pre).length + 1 ≤ maxLen from one_le_maxLen (by omega))
    have hM2 := Lib.hid (show ((stay p pre).length + 1) * 64 ≤ 140737488355328 by omega)
    have HFA := Lib.hid (antis_snoc p pre y)
    have HFR := Lib.hid (stay_snoc p pre y)
    obtain ⟨P, hP⟩ : ∃ P, antis p pre = P := ⟨_, rfl⟩
    obtain ⟨R, hR⟩ : ∃ R, stay p pre = R := ⟨_, rfl⟩
    rw [hP] at ba oa na hL1 hL2 HFA
    rw [hR] at br orr nr hM1 hM2 HFR
    clear hP hR al rl
    have h08 : Hid (0 < 8) := Lib.hid (by omega)
    have cX := bx.cell
    have cF := bf.cell
    have lF := bf.lt
    have lX := bx.lt
    have c2 := ba.cell
    have c3 := br.cell
    have UX := Lib.hid bx
    have UA := Lib.hid ba
    have UB := Lib.hid oa
    have UC := Lib.hid na
    have UD := Lib.hid br
    have UE := Lib.hid orr
    have UF := Lib.hid nr
    have UG := Lib.hid f2
    have UH := Lib.hid bf
    have SZ := Lib.hid sz
    clear bx ba oa na br orr nr f2 bf hrec hlt sz
    have HPY := Lib.hid (HP.out (W.alloc (.cells #[.int .i64 y.1.a, .int .i64 y.1.s, .int .i64 y.1.t, .int .i64 y.1.n, .int .i64 y.1.d, .int .i64 y.1.k, .int .i64 y.1.x, .bool y.2] 137)) y (UG.out.alloc _))
    have BR := Lib.hid (Blk.new W 137 #[.int .i64 y.1.a, .int .i64 y.1.s, .int .i64 y.1.t, .int .i64 y.1.n, .int .i64 y.1.d, .int .i64 y.1.k, .int .i64 y.1.x, .bool y.2])
    cases hq : p y
    · rw [hq] at HFA HFR HPY
      clear hq
      gi_wp2_with (first
        | (refine ⟨trivial, ?_⟩; gi_at_call 95; go_loud (refine (CallsIn.inRound lp (callsIn_wide.2 HPY.out)).mono ?_; rintro e w3 ⟨rfl, f3⟩; have g3 : Hid (Fresh W w3) := Lib.hid (((Keep.refl (fun _ => False) W).alloc _).step f3 (fun _ _ h => h)); have bx3 := g3.out.blk_ UX.out; have br3 := g3.out.blk_ UD.out; have bR3 := f3.blk_ BR.out; have cX3 := bx3.cell; have cR3 := bR3.cell; have cB3 := br3.cell; have lX3 := bx3.lt; have lR3 := bR3.lt; have lB3 := br3.lt; have O3 := Lib.hid (UE.out.fresh g3.out); have B3 := Lib.hid br3; have HC : Hid (Src (w3.alloc (.cells #[.int .i64 y.1.a, .int .i64 y.1.s, .int .i64 y.1.t, .int .i64 y.1.n, .int .i64 y.1.d, .int .i64 y.1.k, .int .i64 y.1.x, .bool y.2] 137)) 8 (.slice (some ⟨w3.heap.size, 0, none⟩) 1 1) 1 (rcells [y])) := Lib.hid (Src.one_new w3 137 8 #[.int .i64 y.1.a, .int .i64 y.1.s, .int .i64 y.1.t, .int .i64 y.1.n, .int .i64 y.1.d, .int .i64 y.1.k, .int .i64 y.1.x, .bool y.2] rfl); clear f3 bx3 br3 bR3))
        | (gi_at_builtin; go_loud (refine wpListIn_append_OwnS _ rfl _ _ 133 rfl 137 i0 _ 8 64 Tryz.underlying133 hi hz0 hz1 hz2 rfl h08.out (.slice A3 R.length cap3) R.length (rcells R) rfl (O3.out.alloc _) (.slice (some ⟨w3.heap.size, 0, none⟩) 1 1) 1 (rcells [y]) rfl HC.out (rcells_one _) hM1.out hM2.out ?_; intro v4 w4 o4 k4 n4; obtain ⟨A4, cap4, rfl, _, _⟩ := o4.shape; have b4 := (B3.out.alloc (.cells #[.int .i64 y.1.a, .int .i64 y.1.s, .int .i64 y.1.t, .int .i64 y.1.n, .int .i64 y.1.d, .int .i64 y.1.k, .int .i64 y.1.x, .bool y.2] 137)).keep k4 (O3.out.ne_blk B3.out (by decide)); have c4 := b4.cell; have r4 := b4.frozen; have l4 := b4.lt; have V1 := Lib.hid b4; have V2 := Lib.hid o4; have V3 := Lib.hid k4; have V4 := Lib.hid n4; have V5 := Lib.hid g3.out; clear b4 o4 k4 n4)))


      have K1 : Hid (Keep (fun k => k = w.heap.size + 2 ∨ (Value.slice A3 R.length cap3).ownBlock = some k) W (w4.setCell ⟨w.heap.size + 2, 0, none⟩ (.slice A4 (R.length + 1) cap4))) := Lib.hid
        ((((V5.out.more (fun _ _ h => h.elim)).alloc _).step V3.out (fun _ _ h => .inr h)).setCell (p := ⟨w.heap.size + 2, 0, none⟩) (fun _ => .inl rfl) _)
      have NB : Hid (Boxed (w4.setCell ⟨w.heap.size + 2, 0, none⟩ (.slice A4 (R.length + 1) cap4)) (w.heap.size + 2) 133 137 w1.heap.size (R ++ [y])) := Lib.hid (by
        refine ⟨_, by simpa using V1.out.set_ 0 (.slice A4 (R.length + 1) cap4), ?_, ?_⟩
        · have := V2.out.far (p := ⟨w.heap.size + 2, 0, none⟩) (V2.out.ne_blk V1.out (by decide)) (.slice A4 (R.length + 1) cap4)
          simp only [List.length_append, rcells_append, List.length_cons, List.length_nil, Nat.zero_add]
          exact this
        · intro k hk
          rcases V4.out k hk with h | h
          · exact UF.out k h
          · have := V5.out.size
            have := SZ.out
            simp at h
            omega)
      refine ⟨(keepsOthers_of_keep K1.out ?_).from _, KeepsB.of_keep' K1.out ?_, ⟨UG.out.step K1.out ?_, Nat.le_trans SZ.out K1.out.size, UH.out.keep K1.out ?_, by rw [HFA.out]; simp only [Bool.false_eq_true, if_false, List.append_nil]; exact ⟨_, UA.out.keep K1.out (by rintro (h | h) ; (· omega); (· exact (UE.out.ne_blk UA.out (by decide)) h)), UB.out.kept K1.out (fun i hi h => by rcases h with rfl | h; (· exact (UB.out.ne_blk UD.out (by decide)) hi); (· exact UB.out.ne_own UE.out (by decide) i hi h)), UC.out⟩, by rw [HFR.out]; exact NB.out⟩⟩
      · rintro k o (rfl | hk) ho
        · exact blk_isCells UD.out ho
        · exact own_isCells UE.out hk ho
      · rintro cur hcur (h | h)
        · rw [h] at hcur
          have := UD.out
          unfold Blk at this
          rw [this] at hcur
          cases hcur
        · have := UF.out _ h
          omega
      · rintro k hk (h | h)
        · omega
        · have := UF.out k h
          omega
      · rintro (h | h)
        · omega
        · exact (UE.out.ne_blk UH.out (by decide)) h
    · rw [hq] at HFA HFR HPY
      clear hq
      gi_wp2_with (first
        | (refine ⟨trivial, ?_⟩; gi_at_call 95; go_loud (refine (CallsIn.inRound lp (callsIn_wide.2 HPY.out)).mono ?_; rintro e w3 ⟨rfl, f3⟩; have g3 : Hid (Fresh W w3) := Lib.hid (((Keep.refl (fun _ => False) W).alloc _).step f3 (fun _ _ h => h)); have bx3 := g3.out.blk_ UX.out; have br3 := g3.out.blk_ UA.out; have bR3 := f3.blk_ BR.out; have cX3 := bx3.cell; have cR3 := bR3.cell; have cB3 := br3.cell; have lX3 := bx3.lt; have lR3 := bR3.lt; have lB3 := br3.lt; have O3 := Lib.hid (UB.out.fresh g3.out); have B3 := Lib.hid br3; have HC : Hid (Src (w3.alloc (.cells #[.int .i64 y.1.a, .int .i64 y.1.s, .int .i64 y.1.t, .int .i64 y.1.n, .int .i64 y.1.d, .int .i64 y.1.k, .int .i64 y.1.x, .bool true] 43)) 8 (.slice (some ⟨w3.heap.size, 0, none⟩) 1 1) 1 (rcells [(y.1, true)])) := Lib.hid (Src.one_new w3 43 8 #[.int .i64 y.1.a, .int .i64 y.1.s, .int .i64 y.1.t, .int .i64 y.1.n, .int .i64 y.1.d, .int .i64 y.1.k, .int .i64 y.1.x, .bool true] rfl); clear f3 bx3 br3 bR3))
        | (gi_at_builtin; go_loud (refine wpListIn_append_OwnS _ rfl _ _ 35 rfl 43 i1 _ 8 64 Tryz.underlying35 hi1 hy0 hy1 hy2 rfl h08.out (.slice A2 P.length cap2) P.length (rcells P) rfl (O3.out.alloc _) (.slice (some ⟨w3.heap.size, 0, none⟩) 1 1) 1 (rcells [(y.1, true)]) rfl HC.out (rcells_one _) hL1.out hL2.out ?_; intro v4 w4 o4 k4 n4; obtain ⟨A4, cap4, rfl, _, _⟩ := o4.shape; have b4 := (B3.out.alloc (.cells #[.int .i64 y.1.a, .int .i64 y.1.s, .int .i64 y.1.t, .int .i64 y.1.n, .int .i64 y.1.d, .int .i64 y.1.k, .int .i64 y.1.x, .bool true] 43)).keep k4 (O3.out.ne_blk B3.out (by decide)); have c4 := b4.cell; have r4 := b4.frozen; have l4 := b4.lt; have V1 := Lib.hid b4; have V2 := Lib.hid o4; have V3 := Lib.hid k4; have V4 := Lib.hid n4; have V5 := Lib.hid g3.out; clear b4 o4 k4 n4)))
      have K1 : Hid (Keep (fun k => k = w.heap.size + 1 ∨ (Value.slice A2 P.length cap2).ownBlock = some k) W (w4.setCell ⟨w.heap.size + 1, 0, none⟩ (.slice A4 (P.length + 1) cap4))) := Lib.hid
        ((((V5.out.more (fun _ _ h => h.elim)).alloc _).step V3.out (fun _ _ h => .inr h)).setCell (p := ⟨w.heap.size + 1, 0, none⟩) (fun _ => .inl rfl) _)
      have NB : Hid (Boxed (w4.setCell ⟨w.heap.size + 1, 0, none⟩ (.slice A4 (P.length + 1) cap4)) (w.heap.size + 1) 35 43 w1.heap.size (P ++ [(y.1, true)])) := Lib.hid (by
        refine ⟨_, by simpa using V1.out.set_ 0 (.slice A4 (P.length + 1) cap4), ?_, ?_⟩
        · have := V2.out.far (p := ⟨w.heap.size + 1, 0, none⟩) (V2.out.ne_blk V1.out (by decide)) (.slice A4 (P.length + 1) cap4)
          simp only [List.length_append, rcells_append, List.length_cons, List.length_nil, Nat.zero_add]
          exact this
        · intro k hk
          rcases V4.out k hk with h | h
          · exact UC.out k h
          · have := V5.out.size
            have := SZ.out
            simp at h
            omega)
      refine ⟨(keepsOthers_of_keep K1.out ?_).from _, KeepsB.of_keep' K1.out ?_, ⟨UG.out.step K1.out ?_, Nat.le_trans SZ.out K1.out.size, UH.out.keep K1.out ?_, by rw [HFA.out]; exact NB.out, by rw [HFR.out]; simp only [if_true, List.append_nil]; exact ⟨_, UD.out.keep K1.out (by rintro (h | h) ; (· omega); (· exact (UB.out.ne_blk UD.out (by decide)) h)), UE.out.kept K1.out (fun i hi h => by rcases h with rfl | h; (· exact (UE.out.ne_blk UA.out (by decide)) hi); (· exact UE.out.ne_own UB.out (by decide) i hi h)), UF.out⟩⟩⟩
      · rintro k o (rfl | hk) ho
        · exact blk_isCells UA.out ho
        · exact own_isCells UB.out hk ho
      · rintro cur hcur (h | h)
        · rw [h] at hcur
          have := UA.out
          unfold Blk at this
          rw [this] at hcur
          cases hcur
        · have := UC.out _ h
          omega
      · rintro k hk (h | h)
        · omega
        · have := UC.out k h
          omega
      · rintro (h | h)
        · omega
        · exact (UB.out.ne_blk UH.out (by decide)) h
  case done =>
    rintro D ys W hD rfl ⟨f2, sz, bf, ⟨va, ba, oa, na⟩, ⟨vr, br, orr, nr⟩⟩ hK
    obtain ⟨A2, cap2, rfl, _, _⟩ := oa.shape
    obtain ⟨A3, cap3, rfl, _, _⟩ := orr.shape
    have Q := HQ.out.fresh f2
    obtain ⟨q4, t4⟩ := HQ.out.put (S := fun _ => False) orr (HQ.out.srt.stay p) f2 (fun _ h => h.elim) (fun i hi => .inr (by have := nr i hi; omega))
    have OA := Lib.hid (oa.far (p := ⟨g, 0, none⟩) (oa.ne_blk Q.blk (by decide)) (.slice A3 (stay p ys).length cap3))
    have bA := ba.far (p := ⟨g, 0, none⟩) (show w.heap.size + 1 ≠ g by have := HQ.out.blk.lt; omega) (.slice A3 (stay p ys).length cap3)
    have hDl := (Array.getElem?_eq_some_iff.1 hK).1
    have hDg : ¬ D = g := by have := HQ.out.blk.lt; omega
    have cQ := Q.blk.cell
    have rQ := Q.blk.frozen
    have lQ := Q.blk.lt
    have cR := br.cell
    have cA := bA.cell
    have KK : Hid ((W.setCell ⟨g, 0, none⟩ (.slice A3 (stay p ys).length cap3)).heap[D]? = some (.deferred (some []))) := Lib.hid (((Keep.setCell (S := fun k => k = g) (Keep.refl _ W) (p := ⟨g, 0, none⟩) (fun _ => rfl) (.slice A3 (stay p ys).length cap3)).block D hDl hDg).trans hK)
    have Q4 := Lib.hid q4
    have T4 := Lib.hid t4
    have NA := Lib.hid na
    have HD := Lib.hid hD
    clear q4 t4 oa orr ba br bA na nr bf sz f2 Q hK hDl hDg hD
    obtain ⟨N, hN⟩ : ∃ N, (stay p ys).length = N := ⟨_, rfl⟩
    obtain ⟨M, hM⟩ : ∃ M, (antis p ys).length = M := ⟨_, rfl⟩
    rw [hN] at OA cR cA KK Q4 T4
    rw [hM] at OA cA NA
    have HN := Lib.hid hN
    have HM := Lib.hid hM
    clear hN hM
    go_wp2_with fail
    refine ⟨by simp, .inl ⟨_, _, rfl, run_takeDeferred KK.out, ?_⟩⟩
    have hr : ∀ r, some D = some r → ∃ o : Obj, (W.setCell ⟨g, 0, none⟩ (.slice A3 N cap3)).heap[r]? = some o ∧ o.isCells = false := fun r e => by cases e; exact ⟨_, KK.out, rfl⟩
    have hg := grownBy_putObj' (W.setCell ⟨g, 0, none⟩ (.slice A3 N cap3)) D (.deferred none)
    have hm := HM.out
    subst hm
    exact ⟨_, results_tmp rfl _ _ _, .slice A2 (antis p ys).length cap2, .slice A3 N cap3, rfl, ownS_grown OA.out hg hr, Q4.out.grown hg hr, T4.out.grown hg (fun r e => by cases e; have := HD.out; omega), fun k hk => by have := NA.out k hk; omega⟩
  case stop =>
    rintro D c pre W _ _ h _
    exact h.elim
end Go.Proofs.YthbcdkeammhakaaGreat

/-
  outq.Queue's Sent: which records it takes, and what it comes to.
-/
namespace Go.Proofs.YthbcdkeammhakaaGreat
open Go.RowKit
attribute [local go_sem ↓] Go.wp_at_zero Go.wp_at_succ

theorem sort_ext {l m : List Ev} (hl : Srt l) (hm : Srt m) (h : l.Perm m) : l = m :=
  List.Perm.eq_of_pairwise (le := fun p q => evLt q p = false) (fun _ _ _ _ h1 h2 => evLt_total h2 h1) hl hm h
def esort (l : List Ev) : List Ev := l.mergeSort (fun a b => !evLt b a)
theorem esort_perm (l : List Ev) : (esort l).Perm l := List.mergeSort_perm l _
theorem esort_srt (l : List Ev) : Srt (esort l) := by
  have h := List.pairwise_mergeSort (le := fun a b => !evLt b a) (fun a b c h1 h2 => by
    simp only [Bool.not_eq_true'] at *
    exact evLt_ntrans h2 h1) (fun a b => by
    cases h1 : evLt b a
    · simp
    · have : evLt a b = false := by
        cases h2 : evLt a b
        · rfl
        · have := evLt_trans h1 h2
          rw [evLt_irrefl] at this
          cases this
      simp [this]) l
  exact List.Pairwise.imp (fun h => by simpa using h) h
theorem esort_is {l s : List Ev} (hp : s.Perm l) (hs : Srt s) : s = esort l := sort_ext hs (esort_srt l) (hp.trans (esort_perm l).symm)
theorem esort_len (l : List Ev) : (esort l).length = l.length := (esort_perm l).length_eq
/-- is an event in a list in order? -/
def ehas (s : List Ev) (e : Ev) : Bool := decide (s[pos s e]? = some e)
def sentP (a0 : Int) (s : List Ev) (r : Rec) : Bool := if r.1.t = a0 then !ehas s r.1 else !r.2 && decide (r.1.t < a0)
set_option maxHeartbeats 1000000 in
theorem sent1 (x1 x2 : Nat) (a0 : Int) (vs : Value) (s : List Ev) (r : Rec) (w : World) (h1 : Blk w x1 3 #[.int .i64 a0]) (h2 : Blk w x2 24 #[vs]) (ho : OwnS w 41 7 vs s.length (cells s)) (hs : Srt s) (hl : s.length ≤ 100000) :
    Calls Tryz.prog 95 #[Rec.val r, .pointer (some ⟨x1, 0, none⟩), .pointer (some ⟨x2, 0, none⟩)] w fun e w' => e = .returned (.bool (sentP a0 s r)) ∧ Fresh w w' := by
  have HS := Lib.hid (fun (W : World) (f : Fresh w W) => osearch_any vs s r.1 W (ho.fresh f) hs hl)
  unfold Rec.val sentP
  have c1 := h1.cell
  have c2 := h2.cell
  have l1 := h1.lt
  have l2 := h2.lt
  clear h1 h2 ho hs
  obtain ⟨y, b⟩ := r
  unfold Ev.val at HS
  have F0 : Hid (Fresh w (w.alloc (.cells #[.int .i64 y.a, .int .i64 y.s, .int .i64 y.t, .int .i64 y.n, .int .i64 y.d, .int .i64 y.k, .int .i64 y.x, .bool b] 137))) := Lib.hid ((Keep.refl _ w).alloc _)
  by_cases ht : y.t = a0
  · have t1 : (y.t == a0) = true := by simp [ht]
    rw [if_pos ht]
    unfold ehas
    obtain ⟨N, hN⟩ : ∃ N, pos s y = N := ⟨_, rfl⟩
    simp only at HS
    rw [hN] at HS
    obtain ⟨D, hD⟩ : ∃ D, decide (s[N]? = some y) = D := ⟨_, rfl⟩
    rw [hD] at HS
    simp only
    rw [hN, hD]
    clear ht hN hD
    go_enter Tryz.func95, Tryz.ntmps95
    go_wp2_with (go_at_call 96; (with_reducible refine (HS.out _ F0.out).mono ?_); rintro e w1 ⟨rfl, f1⟩)
    go_ret
    exact ⟨rfl, F0.out.step f1 (fun _ _ h => h)⟩
  · have t1 : (y.t == a0) = false := by simp [ht]
    rw [if_neg ht]
    clear ht HS
    cases b
    · go_enter Tryz.func95, Tryz.ntmps95
      go_wp2_with fail
      go_ret
      exact ⟨rfl, F0.out⟩
    · go_enter Tryz.func95, Tryz.ntmps95
      go_wp2_with fail
      go_ret
      exact ⟨rfl, F0.out⟩
/-! ### a record put in, or marked -/
def rins (q : List Rec) (x : Rec) : List Rec := q.take (rpos q x.1) ++ x :: q.drop (rpos q x.1)
def rmark (q : List Rec) (e : Ev) : List Rec := q.set (rpos q e) (e, true)
theorem rpos_le (l : List Rec) (e : Ev) : rpos l e ≤ l.length := List.countP_le_length
theorem RSrt.ins {q : List Rec} (h : RSrt q) {x : Rec} (hx : rhas q x.1 = false) : RSrt (rins q x) := by
  obtain ⟨h1, h2⟩ := h.pos_ x.1
  unfold RSrt rins
  rw [List.pairwise_append]
  refine ⟨List.Pairwise.sublist (List.take_sublist _ _) h, List.pairwise_cons.2 ⟨fun p hp => ?_, List.Pairwise.sublist (List.drop_sublist _ _) h⟩, fun p hp r hr => ?_⟩
  · obtain ⟨j, hj⟩ := List.mem_iff_getElem?.1 hp
    rw [List.getElem?_drop] at hj
    have h3 := h2 _ p (Nat.le_add_right _ _) hj
    cases h4 : sLt x.1 p.1
    · have := sLt_total h3 h4
      have hm : rhas q x.1 = true := (rhas_mem h x.1).2 ⟨p.2, by rw [← this]; exact List.mem_of_getElem? hj⟩
      rw [hm] at hx
      cases hx
    · rfl
  · obtain ⟨j, hj⟩ := List.mem_iff_getElem?.1 hp
    rw [List.getElem?_take] at hj
    split at hj
    · rename_i hlt
      have h3 := h1 j p hlt hj
      rcases List.mem_cons.1 hr with rfl | hr
      · exact h3
      · obtain ⟨i, hi⟩ := List.mem_iff_getElem?.1 hr
        rw [List.getElem?_drop] at hi
        have h4 := h2 _ r (Nat.le_add_right _ _) hi
        cases h5 : sLt x.1 r.1
        · have e := sLt_total h4 h5
          rw [e]
          exact h3
        · exact sLt_trans h3 h5
    · cases hj
theorem oins_any (v : Value) (gs : Nat) (l : List Rec) (x : Rec) (w : World) (ho : OwnS w 137 8 v l.length (rcells l)) (hb : Blk w gs 137 x.enc.toArray) (hne : v.ownBlock ≠ some gs) (hl : l.length ≤ 100000) :
    Calls Tryz.prog 98 #[v, .int .i64 (rpos l x.1 : Nat), .slice (some ⟨gs, 0, none⟩) 1 1] w (OInsP v (rins l x) w) := by
  by_cases hp : rpos l x.1 = l.length
  · have h := oins_end v gs l x w ho hb hl
    unfold rins
    rw [hp, List.take_length, List.drop_length]
    exact h
  have hlt : rpos l x.1 < l.length := by have := rpos_le l x.1; omega
  obtain ⟨g', off, cap, rfl, _⟩ := ho.form (by omega)
  have hne' : gs ≠ g' := fun h => hne (by simp [Value.ownBlock, h])
  by_cases hr : l.length + 1 ≤ cap
  · exact oins_shift g' off cap gs _ l x w ho hb hne' hl hlt hr
  · exact oins_grow g' off cap gs _ l x w ho hb hl hlt (by omega)
/-- one event sent -/
def sentStep (st : List Rec × List OMsg) (e : Ev) : List Rec × List OMsg := if rhas st.1 e then (rmark st.1 e, st.2) else (rins st.1 (e, true), st.2 ++ [(e, false)])
theorem rins_len (q : List Rec) (x : Rec) : (rins q x).length = q.length + 1 := by
  have := rpos_le q x.1
  unfold rins
  simp
  omega
theorem rmark_len (q : List Rec) (e : Ev) : (rmark q e).length = q.length := by unfold rmark; simp
theorem step_le (st : List Rec × List OMsg) (e : Ev) : (sentStep st e).1.length ≤ st.1.length + 1 ∧ (sentStep st e).2.length ≤ st.2.length + 1 := by
  unfold sentStep
  split
  · rw [rmark_len]; exact ⟨Nat.le_succ _, Nat.le_succ _⟩
  · rw [rins_len]; simp
theorem steps_le (s : List Ev) : ∀ (st : List Rec × List OMsg), (s.foldl sentStep st).1.length ≤ st.1.length + s.length ∧ (s.foldl sentStep st).2.length ≤ st.2.length + s.length := by
  induction s with
  | nil => intro st; exact ⟨Nat.le_refl _, Nat.le_refl _⟩
  | cons e r ih =>
    intro st
    have h1 := ih (sentStep st e)
    have h2 := step_le st e
    simp only [List.foldl_cons, List.length_cons]
    omega
def sentFrom (a0 : Int) (l : List Ev) (q : List Rec) : List Rec × List OMsg := (esort l).foldl sentStep (stay (sentP a0 (esort l)) q, antis (sentP a0 (esort l)) q)
def sentQ (a0 : Int) (l : List Ev) (q : List Rec) : List Rec := if wrongE a0 l q = 0 then (sentFrom a0 l q).1 else q
def sentM (a0 : Int) (l : List Ev) (q : List Rec) : List OMsg := if wrongE a0 l q = 0 then (sentFrom a0 l q).2 else []
/-- what Sent answers, and leaves -/
def SentP (g : Nat) (v : Value) (a0 : Int) (l : List Ev) (q : List Rec) (w : World) (e : Ending) (w' : World) : Prop :=
  ∃ va v', e = .returned (.tuple #[va, .int .i64 (wrongE a0 l q)]) ∧ OwnS w' 43 8 va (sentM a0 l q).length (rcells (sentM a0 l q)) ∧ OQ w' g v' (sentQ a0 l q) ∧ OTurn w w' g v v' ∧ ∀ k, va.ownBlock = some k → w.heap.size ≤ k
end Go.Proofs.YthbcdkeammhakaaGreat

/-
  outq.Queue: Sent.
-/
namespace Go.Proofs.YthbcdkeammhakaaGreat
open Go.RowKit
attribute [local go_sem ↓] Go.wp_at_zero Go.wp_at_succ

set_option maxHeartbeats 8000000 in
set_option maxRecDepth 100000 in
theorem sent_any (g : Nat) (v u : Value) (q : List Rec) (a0 : Int) (l : List Ev) (w : World) (h : OQ w g v q) (hu : EvAt w u l) (hl : l.length ≤ 1000) (hq : q.length ≤ 50000) :
    Calls Tryz.prog 54 #[.pointer (some ⟨g, 0, none⟩), .int .i64 a0, u] w (SentP g v a0 l q w) := by
  have F0 : Fresh w (w.alloc (.cells #[.int .i64 a0] 3)) := (Keep.refl _ _).alloc _
  have B0 := Blk.new w 3 #[.int .i64 a0]
  have H := Lib.hid h
  have HW := Lib.hid (wrong_any g v u q a0 l _ (h.fresh F0) (hu.fresh F0) (by omega) (by omega))
  have HE := Lib.hid (fun (W : World) (f : Fresh w W) => eclone_any u l W (hu.fresh f) (by omega))
  have KF0 := Lib.hid F0
  have KB0 := Lib.hid B0
  obtain ⟨B, d, rfl, _⟩ := hu
  obtain ⟨i1, hi1, hy0, hy1, hy2⟩ := info_parts info_msg
  have lg := h.blk.lt
  clear h F0 B0
  obtain ⟨E, hE⟩ : ∃ E, wrongE a0 l q = E := ⟨_, rfl⟩
  unfold SentP
  unfold WrongP at HW
  rw [hE] at HW ⊢
  have HEE := Lib.hid hE
  clear hE
  by_cases hz : E = 0
  rotate_left
  · have t1 : (E != 0) = true := by simp [hz]
    have Q1 : Hid (sentQ a0 l q = q) := Lib.hid (by unfold sentQ; rw [HEE.out, if_neg hz])
    have M1 : Hid (sentM a0 l q = []) := Lib.hid (by unfold sentM; rw [HEE.out, if_neg hz])
    clear hz
    rw [Q1.out, M1.out]
    go_enter Tryz.func54, Tryz.ntmps54
    go_wp2_with (go_at_call 90; (with_reducible refine HW.out.mono ?_); rintro e w1 ⟨rfl, f1⟩; have F1 := Lib.hid (KF0.out.step f1 (fun _ _ h => h)); clear f1)
    go_ret2
    exact ⟨_, v, rfl, OwnS.nil _ _ _, H.out.fresh F1.out, OTurn.fresh F1.out, by simp [Value.ownBlock]⟩
  · subst hz
    have Q1 : Hid (sentQ a0 l q = (sentFrom a0 l q).1) := Lib.hid (by unfold sentQ; rw [HEE.out, if_pos rfl])
    have M1 : Hid (sentM a0 l q = (sentFrom a0 l q).2) := Lib.hid (by unfold sentM; rw [HEE.out, if_pos rfl])
    rw [Q1.out, M1.out]
    clear Q1 M1 HEE
    unfold sentFrom
    have hsl := esort_len l
    have hss := esort_srt l
    have hsp := esort_perm l
    obtain ⟨s, hs⟩ : ∃ s, esort l = s := ⟨_, rfl⟩
    have HES := Lib.hid (show ∀ t, t.Perm l → Srt t → t = s from fun t h1 h2 => (esort_is h1 h2).trans hs)
    rw [hs] at hsl hss ⊢
    clear hs hsp
    have HSL := Lib.hid hsl
    have HSS := Lib.hid hss
    have LS := Lib.hid (show (stay (sentP a0 s) q).length ≤ 50000 from Nat.le_trans (stay_le _ _) hq)
    have LA := Lib.hid (show (antis (sentP a0 s) q).length ≤ 50000 from Nat.le_trans (antis_le _ _) hq)
    obtain ⟨P, hP⟩ : ∃ P, antis (sentP a0 s) q = P := ⟨_, rfl⟩
    obtain ⟨R, hR⟩ : ∃ R, stay (sentP a0 s) q = R := ⟨_, rfl⟩
    have HPE := Lib.hid hP
    have HRE := Lib.hid hR
    rw [hP, hR]
    rw [hR] at LS
    rw [hP] at LA
    clear hP hR hsl hss
    have HL := Lib.hid hl
    have HQL := Lib.hid hq
    clear hl hq
    go_enter Tryz.func54, Tryz.ntmps54
    go_wp2_with (first
      | (go_at_call 90; (with_reducible refine HW.out.mono ?_); rintro e w1 ⟨rfl, f1⟩; have F1 : Hid (Fresh w w1) := Lib.hid (KF0.out.step f1 (fun _ _ h => h)); have B1 := Lib.hid (f1.blk_ KB0.out); have c1 := B1.out.cell; have l1 := B1.out.lt; clear f1)
      | (go_at_call 91; go_loud ((with_reducible refine (HE.out _ F1.out).mono ?_); rintro e w2 ⟨v1, rfl, o1, f1, n1⟩; obtain ⟨A1, cap1, rfl, _, _⟩ := o1.shape; have F2 : Hid (Fresh w1 w2) := Lib.hid f1; have N1 := Lib.hid n1; have O1 := Lib.hid (o1.alloc (.cells #[.slice A1 l.length cap1] 24)); have B2 := Lib.hid (Blk.new w2 24 #[.slice A1 l.length cap1]); have BI := Lib.hid ((f1.blk_ B1.out).alloc (.cells #[.slice A1 l.length cap1] 24)); clear o1 f1 n1))
      | (go_at_call 92; go_loud ((with_reducible refine (sortE_any _ l _ O1.out (by have := HL.out; omega)).mono ?_); rintro e w3 ⟨rfl, s9, s1, s2, s3, s4⟩; have b2 := B2.out.keep s4 (O1.out.ne_blk B2.out (by decide)); have bi := BI.out.keep s4 (O1.out.ne_blk BI.out (by decide)); have B3 := Lib.hid b2; have BJ := Lib.hid bi; have S1 := Lib.hid s1; have S2 := Lib.hid s2; have S3 := Lib.hid s3; have S4 := Lib.hid s4; have cb3 := b2.cell; have ci3 := bi.cell; have lb3 := b2.lt; have li3 := bi.lt; clear b2 bi s1 s2 s3 s4)))
    obtain rfl := HES.out _ S1.out S2.out
    have F3 : Hid (Fresh w w3) := Lib.hid (((F1.out.step F2.out (fun _ _ h => h)).alloc _).step S4.out (fun k hk h => by have := N1.out k h; have := F1.out.size; omega))
    have NF : Hid (∀ k, w.heap.size ≤ k → ¬ ofoot g v k) := Lib.hid (fun k hk hf => by have := H.out.lt k hf; omega)
    have NS : Hid (∀ k, (Value.slice A1 l.length cap1).ownBlock = some k → ¬ ofoot g v k) := Lib.hid (fun k hk => NF.out k (by have := N1.out k hk; have := F1.out.size; omega))
    have HT := Lib.hid (take_anySent g v q (sentP a0 s9) w.heap.size w2.heap.size w3 (H.out.fresh F3.out) (by have := HQL.out; omega) (fun W r f => sent1 _ _ a0 _ s9 r W (f.blk_ BJ.out) (f.blk_ B3.out) (by have h := S3.out.fresh f; exact h) HSS.out (by rw [HSL.out]; have := HL.out; omega)))
    unfold TakeP at HT
    rw [HPE.out, HRE.out] at HT
    refine HT.out.mono ?_
    rintro e w4 ⟨va, v', rfl, o4, q4, t4, n4⟩
    obtain ⟨A4, cap4, rfl, _, _⟩ := o4.shape
    have b4 := B3.out.keep t4.keep (NF.out _ (by have := F1.out.size; have := F2.out.size; omega))
    have cb4 := b4.cell
    have hs4 : OwnS w4 41 7 (.slice A1 l.length cap1) l.length (cells s9) := by
      have h := S3.out.kept t4.keep (fun k hk => NS.out k hk)
      rw [HSL.out] at h
      exact h
    have HS4 := Lib.hid hs4
    have T4 := Lib.hid (OTurn.after F3.out t4)
    have O4 := Lib.hid o4
    have Q4 := Lib.hid q4
    have N4 := Lib.hid (show ∀ k, (Value.slice A4 P.length cap4).ownBlock = some k → w.heap.size ≤ k from fun k hk => by have := n4 k hk; have := F3.out.size; omega)
    clear b4 hs4 t4 o4 q4 n4 HT S1 S2 S3 S4 B3 BJ cb3 ci3 lb3 li3 F1 F2 F3 N1 O1 B2 BI B1 c1 l1 NF NS HW HE KF0 KB0 HES HPE HRE HSS
    go_wp2_with fail
    go_loopg [31, 10] l.length (fun gk u31 u10 wr => ∃ (i : Nat) (vq : Value), i ≤ l.length ∧ gk = l.length - i ∧ u31 = .int .i64 i ∧ OwnS wr 43 8 u10 ((s9.take i).foldl sentStep (R, P)).2.length (rcells ((s9.take i).foldl sentStep (R, P)).2) ∧ OQ wr g vq ((s9.take i).foldl sentStep (R, P)).1 ∧ OTurn w wr g v vq ∧ (∀ k, u10.ownBlock = some k → w.heap.size ≤ k) ∧ OwnS wr 41 7 (.slice A1 l.length cap1) l.length (cells s9))
    case atStart => exact ⟨0, v', by omega, rfl, rfl, O4.out, Q4.out, T4.out, N4.out, HS4.out⟩
    case round =>
      obtain ⟨i, vq, hi, rfl, rfl, hO, hQ, hT, hN, hS⟩ := hrel
      have hst := steps_le (s9.take i) (R, P)
      have hti : (s9.take i).length ≤ i := List.length_take_le _ _
      have hlq : ((s9.take i).foldl sentStep (R, P)).1.length ≤ 60000 := by have := LS.out; have := HL.out; simp only at hst; omega
      have hlm : ((s9.take i).foldl sentStep (R, P)).2.length ≤ 60000 := by have := LA.out; have := HL.out; simp only at hst; omega
      by_cases hlt : i < l.length
      · obtain ⟨A5, cap5, rfl, hc5, hm5⟩ := hO.shape
        obtain ⟨y, hy⟩ : ∃ y, s9[i]? = some y := ⟨_, List.getElem?_eq_getElem (by rw [HSL.out]; exact hlt)⟩
        have HST := Lib.hid (show (s9.take (i + 1)).foldl sentStep (R, P) = sentStep ((s9.take i).foldl sentStep (R, P)) y by rw [List.take_add_one, hy, Option.toList_some, List.foldl_append]; rfl)
        obtain ⟨⟨Q, M⟩, hQM⟩ : ∃ st, (s9.take i).foldl sentStep (R, P) = st := ⟨_, rfl⟩
        rw [hQM] at hO hQ hlq hlm hN HST ⊢
        simp only at hO hQ hlq hlm hN ⊢
        obtain ⟨g3, off3, _, hv3, hg3, _, _, hcc⟩ := hS.form (by omega)
        injection hv3 with e1 e2 e3
        subst e1 e3
        obtain ⟨x0, x1, x2, x3, x4, x5, x6⟩ := cells_at s9 _ y hy
        have x0 := hcc _ _ x0
        have x1 := hcc _ _ x1
        have x2 := hcc _ _ x2
        have x3 := hcc _ _ x3
        have x4 := hcc _ _ x4
        have x5 := hcc _ _ x5
        have x6 := hcc _ _ x6
        rw [← Nat.add_assoc] at x1 x2 x3 x4 x5 x6
        have FE : Hid (Fresh wr (wr.alloc (.cells #[.int .i64 y.a, .int .i64 y.s, .int .i64 y.t, .int .i64 y.n, .int .i64 y.d, .int .i64 y.k, .int .i64 y.x] 41))) := Lib.hid ((Keep.refl _ _).alloc _)
        have BE := Lib.hid (Blk.new wr 41 #[.int .i64 y.a, .int .i64 y.s, .int .i64 y.t, .int .i64 y.n, .int .i64 y.d, .int .i64 y.k, .int .i64 y.x])
        have HF := Lib.hid (find_any g vq Q y _ (hQ.fresh FE.out) (by omega))
        unfold Ev.val at HF
        have XO := Lib.hid hO
        have XQ := Lib.hid hQ
        have XT := Lib.hid hT
        have XN := Lib.hid hN
        have XS := Lib.hid hS
        have hqs := hQ.own.shape
        clear hcc hy e2 hQM hst hti hO hQ hT hN hS
        have hl3 := HL.out
        cases hh : rhas Q y
        · rw [hh] at HF
          obtain ⟨Aq, capq, rfl, hcq, hmq⟩ := hqs
          have hmq : capq ≤ 9223372036854775807 := by unfold maxLen at hmq; omega
          have HI := Lib.hid (XQ.out.srt.ins (x := (y, true)) hh)
          have ES : Hid ((s9.take (i + 1)).foldl sentStep (R, P) = (rins Q (y, true), M ++ [(y, false)])) := Lib.hid (by rw [HST.out]; unfold sentStep; simp only; rw [hh]; rfl)
          clear hh
          go_wp2_with (go_at_call 97; (with_reducible refine HF.out.mono ?_); rintro e w5 ⟨rfl, f5⟩; have F5 : Hid (Fresh wr w5) := Lib.hid (FE.out.step f5 (fun _ _ h => h)); have b5 := f5.blk_ BE.out; have cb5 := b5.cell; have lb5 := b5.lt; have q5 := XQ.out.fresh F5.out; have cq5 := q5.blk.cell; have lq5 := q5.blk.lt; have B5 := Lib.hid b5; have Q5 := Lib.hid q5; clear f5 b5 q5)
          obtain ⟨WA, hWA⟩ : ∃ WA, WA = (w5.alloc (.cells #[.int .i64 y.a, .int .i64 y.s, .int .i64 y.t, .int .i64 y.n, .int .i64 y.d, .int .i64 y.k, .int .i64 y.x, .bool true] 137)).drew := ⟨_, rfl⟩
          have bi : Blk WA w5.heap.size 137 (Rec.enc (y, true)).toArray := by rw [hWA]; exact (Blk.at_new (w := w5) rfl _ _).drew
          have fa1 : Fresh w5 WA := by rw [hWA]; exact ((Keep.refl _ _).alloc _).drew
          have FA : Hid (Fresh wr WA) := Lib.hid (F5.out.step fa1 (fun _ _ h => h))
          have QA := Lib.hid (XQ.out.fresh FA.out)
          have BA := Lib.hid (fa1.blk_ B5.out)
          have hvs : (Value.slice Aq Q.length capq).ownBlock ≠ some w5.heap.size := fun h => by
            have := Q5.out.own.lt h
            omega
          have HIN := Lib.hid (oins_any _ w5.heap.size Q (y, true) WA QA.out.own bi hvs (by omega))
          have HG := Lib.hid (QA.out.n)
          clear hvs bi fa1
          simp only at HIN
          rw [hWA] at HIN FA QA BA
          go_region_law (rw [if_pos (by simp [Region.wanted])]; go_simp; go_at_call 98; (with_reducible refine HIN.out.mono ?_); rintro en2 w6 ⟨v6, rfl, own, kp, lt⟩; obtain ⟨A9, cap9, rfl, _, _⟩ := own.shape; have b2 := QA.out.blk.keep kp HG.out; have c2 := b2.cell; have c3 := b2.frozen; have lg2 := b2.lt; have be := BA.out.keep kp (QA.out.own.ne_blk BA.out (by decide)); have ce6 := be.cell; have le6 := be.lt; have OW := Lib.hid own; have KP := Lib.hid kp; have LT := Lib.hid lt; clear own kp lt be b2)
          all_goals
            obtain ⟨q7, t7⟩ := QA.out.put (l' := rins Q (y, true)) (v' := .slice A9 (rins Q (y, true)).length cap9) OW.out HI.out KP.out (fun i hi => hi) LT.out
            obtain ⟨W7, hW7⟩ : ∃ W7, w6.setCell ⟨g, 0, none⟩ (.slice A9 (rins Q (y, true)).length cap9) = W7 := ⟨_, rfl⟩
            rw [hW7] at q7 t7 ⊢
            have nf : Hid (∀ k, ofoot g (.slice Aq Q.length capq) k → k < wr.heap.size) := Lib.hid (fun k hk => XQ.out.lt k hk)
            have om7 := (XO.out.fresh FA.out).kept t7.keep (fun k hk hf => by
              rcases hf with rfl | hf
              · exact (XO.out.fresh FA.out).ne_blk QA.out.blk (by decide) hk
              · exact (XO.out.fresh FA.out).ne_own QA.out.own (by decide) k hk hf)
            have s7 := (XS.out.fresh FA.out).kept t7.keep (fun k hk hf => by
              rcases hf with rfl | hf
              · exact (XS.out.fresh FA.out).ne_blk QA.out.blk (by decide) hk
              · exact (XS.out.fresh FA.out).ne_own QA.out.own (by decide) k hk hf)
            have be7 := BA.out.keep t7.keep (fun hf => by have := nf.out _ hf; omega)
            have T7 := Lib.hid (OTurn.two XT.out (OTurn.after FA.out t7))
            have ce7 := be7.cell
            have le7 := be7.lt
            have Q7 := Lib.hid q7
            have OM7 := Lib.hid om7
            have S7 := Lib.hid s7
            have hL1 := Lib.hid (show M.length + 1 ≤ maxLen from one_le_maxLen (by omega))
            have hL2 := Lib.hid (show (M.length + 1) * 64 ≤ 140737488355328 by omega)
            have HC : Hid (Src (W7.alloc (.cells #[.int .i64 y.a, .int .i64 y.s, .int .i64 y.t, .int .i64 y.n, .int .i64 y.d, .int .i64 y.k, .int .i64 y.x, .bool false] 43)) 8 (.slice (some ⟨W7.heap.size, 0, none⟩) 1 1) 1 (rcells [(y, false)])) := Lib.hid (Src.one_new W7 43 8 #[.int .i64 y.a, .int .i64 y.s, .int .i64 y.t, .int .i64 y.n, .int .i64 y.d, .int .i64 y.k, .int .i64 y.x, .bool false] rfl)
            have h08 : Hid (0 < 8) := Lib.hid (by omega)
            have FW : Hid (w.heap.size ≤ W7.heap.size) := Lib.hid T7.out.keep.size
            clear q7 t7 om7 s7 be7 hW7 c2 c3 lg2 ce6 le6 OW KP LT cb5 lb5 cq5 lq5
            go_wp2_with (at_builtin; go_loud (refine wpList_append_OwnS _ rfl _ _ 35 rfl 43 i1 _ 8 64 Tryz.underlying35 hi1 hy0 hy1 hy2 rfl h08.out (.slice A5 M.length cap5) M.length (rcells M) rfl (OM7.out.alloc _) (.slice (some ⟨W7.heap.size, 0, none⟩) 1 1) 1 (rcells [(y, false)]) rfl HC.out (rcells_one _) hL1.out hL2.out ?_; intro v8 w8 o8 k8 n8; have O8 := Lib.hid o8; have K8 := Lib.hid k8; have N8 := Lib.hid n8; clear o8 k8 n8))
            go_roundg (l.length - (i + 1))
            case measure => omega
            case rel =>
              refine ⟨i + 1, .slice A9 (rins Q (y, true)).length cap9, by omega, rfl, by go_num, ?_, ?_, ?_, ?_, ?_⟩
              · rw [ES.out]; simp only [List.length_append, rcells_append, List.length_cons, List.length_nil, Nat.zero_add]; exact O8.out
              · rw [ES.out]; exact (Q7.out.fresh ((Keep.refl _ _).alloc _)).kept K8.out (fun k hf hm => by
                  rcases hf with rfl | hf
                  · exact OM7.out.ne_blk Q7.out.blk (by decide) hm
                  · exact OM7.out.ne_own Q7.out.own (by decide) k hm hf)
              · exact ⟨(T7.out.keep.alloc _).step K8.out (fun k hk h => by have := XN.out k h; omega), T7.out.later⟩
              · intro k hk
                rcases N8.out k hk with h | h
                · exact XN.out k h
                · simp at h; have := FW.out; omega
              · exact (S7.out.alloc _).kept K8.out (fun k hk hm => OM7.out.ne_own S7.out (by decide) k hm hk)
        · have hri := rhas_lt hh
          obtain ⟨b, hyb⟩ := rhas_at hh
          have ES : Hid ((s9.take (i + 1)).foldl sentStep (R, P) = (rmark Q y, M)) := Lib.hid (by rw [HST.out]; unfold sentStep; simp only; rw [hh]; rfl)
          obtain ⟨gq, offq, capq, hvq, hgq, hcq, hmq, _⟩ := XQ.out.own.form (by omega)
          subst hvq
          have hmq : capq ≤ 9223372036854775807 := by unfold maxLen at hmq; omega
          rw [hh] at HF
          have HRM : Hid (rmark Q y = Q.set (rpos Q y) (y, true)) := Lib.hid rfl
          obtain ⟨N, hN⟩ : ∃ N, rpos Q y = N := ⟨_, rfl⟩
          rw [hN] at HF hri hyb HRM
          have HYB := Lib.hid hyb
          clear hh hyb hN
          go_wp2_with (go_at_call 97; (with_reducible refine HF.out.mono ?_); rintro e w5 ⟨rfl, f5⟩; have F5 : Hid (Fresh wr w5) := Lib.hid (FE.out.step f5 (fun _ _ h => h)); have q5 := XQ.out.fresh F5.out; have cq5 := q5.blk.cell; have lq5 := q5.blk.lt; have fr5 := (OwnS.at_ q5.own).2.1; have y7 := (OwnS.at_ q5.own).2.2.2.2 _ _ (rcells_at Q N _ HYB.out).2.2.2.2.2.2.2; rw [← Nat.add_assoc] at y7; have Q5 := Lib.hid q5; clear f5 q5)
          obtain ⟨q6, t6⟩ := Q5.out.mark HYB.out true
          have om6 := (XO.out.fresh F5.out).kept t6.keep (fun k hk hf => by
            rcases hf with rfl | hf
            · exact (XO.out.fresh F5.out).ne_blk Q5.out.blk (by decide) hk
            · exact (XO.out.fresh F5.out).ne_own Q5.out.own (by decide) k hk hf)
          have s6 := (XS.out.fresh F5.out).kept t6.keep (fun k hk hf => by
            rcases hf with rfl | hf
            · exact (XS.out.fresh F5.out).ne_blk Q5.out.blk (by decide) hk
            · exact (XS.out.fresh F5.out).ne_own Q5.out.own (by decide) k hk hf)
          go_roundg (l.length - (i + 1))
          case measure => omega
          case rel =>
            refine ⟨i + 1, .slice (some ⟨gq, offq, none⟩) Q.length capq, by omega, rfl, by go_num, ?_, ?_, ?_, XN.out, s6⟩
            · rw [ES.out]; exact om6
            · rw [ES.out]; simp only; rw [HRM.out]; exact q6
            · exact OTurn.two XT.out (OTurn.after F5.out t6)
      · obtain rfl : i = l.length := by omega
        have e1 : s9.take l.length = s9 := by rw [← HSL.out]; exact List.take_length
        rw [e1] at hO hQ hlm
        have XO := Lib.hid hO
        have XQ := Lib.hid hQ
        have XT := Lib.hid hT
        have XN := Lib.hid hN
        clear hO hQ hT hN hS hst hti
        go_wp2_with fail
        go_ret2
        exact ⟨_, vq, rfl, XO.out, XQ.out, XT.out, XN.out⟩
end Go.Proofs.YthbcdkeammhakaaGreat

/-
  A process where it lies.
-/
namespace Go.Proofs.YthbcdkeammhakaaGreat
open Go.RowKit
attribute [local go_sem ↓] Go.wp_at_zero Go.wp_at_succ
/-- a process in plain words -/
structure LPs where
  l : List Ev
  m : List Ev
  q : List Rec
  sv : List (Int × St)
  now : Int
  st : St
  since : Int
  freed : Int
  steps : Int
  coasted : Int
/-- what never turns: the rules' number, who it is, how often it saves, whether it is lazy -/
structure LC where
  md : Int
  id : Int
  every : Int
  lz : Bool
/-- where it lies -/
structure PV where
  g : Nat
  gq : Nat
  go : Nat
  gr : Nat
  v1 : Value
  v2 : Value
  v3 : Value
  v4 : Value
def rulesV (md : Int) : Value := .iface 55 (.agg #[.int .i64 md])
def lcells (c : LC) (y : PV) (p : LPs) : Array Value := #[.pointer (some ⟨y.gq, 0, none⟩), rulesV c.md, .int .i64 c.id, .int .i64 c.every, .bool c.lz, .pointer (some ⟨y.go, 0, none⟩), .pointer (some ⟨y.gr, 0, none⟩), .int .i64 p.now, .int .i64 p.st.s0, .int .i64 p.st.s1, .int .i64 p.st.s2, .int .i64 p.st.s3, .int .i64 p.since, .int .i64 p.freed, .int .i64 p.steps, .int .i64 p.coasted]
structure SLP (w : World) (c : LC) (y : PV) (p : LPs) : Prop where
  blk : Blk w y.g 103 (lcells c y p)
  sq : SQ w y.gq y.v1 y.v2 p.l p.m
  oq : OQ w y.go y.v3 p.q
  sr : RS.SRow w y.gr y.v4 p.sv
def lfoot (y : PV) (k : Nat) : Prop := k = y.g ∨ foot y.gq y.v1 y.v2 k ∨ ofoot y.go y.v3 k ∨ RS.foot y.gr y.v4 k
structure LTurn (w w' : World) (y y' : PV) : Prop where
  keep : Keep (lfoot y) w w'
  g : y'.g = y.g
  q : y'.gq = y.gq
  o : y'.go = y.go
  r : y'.gr = y.gr
  later : ∀ k, lfoot y' k → lfoot y k ∨ w.heap.size ≤ k
theorem SLP.kept {w w' : World} {c : LC} {y : PV} {p : LPs} {S : Nat → Prop} (h : SLP w c y p) (k : Keep S w w') (hS : ∀ i, lfoot y i → ¬ S i) : SLP w' c y p :=
  ⟨h.blk.keep k (hS _ (.inl rfl)), h.sq.kept k (fun i hi => hS i (.inr (.inl hi))), h.oq.kept k (fun i hi => hS i (.inr (.inr (.inl hi)))), h.sr.kept k (hS _ (.inr (.inr (.inr (.inl rfl))))) (fun i hi => hS i (.inr (.inr (.inr (.inr hi)))))⟩
theorem SLP.fresh {w w' : World} {c : LC} {y : PV} {p : LPs} (h : SLP w c y p) (k : Fresh w w') : SLP w' c y p := h.kept k (fun _ _ h => h)
theorem SLP.lt {w : World} {c : LC} {y : PV} {p : LPs} (h : SLP w c y p) : ∀ k, lfoot y k → k < w.heap.size := by
  rintro k (rfl | hk | hk | hk)
  · exact h.blk.lt
  · exact h.sq.lt k hk
  · exact h.oq.lt k hk
  · exact h.sr.lt k hk
theorem LTurn.fresh {w w' : World} {y : PV} (f : Fresh w w') : LTurn w w' y y := ⟨f.more (fun _ _ h => h.elim), rfl, rfl, rfl, rfl, fun _ h => .inl h⟩
theorem LTurn.two {w w1 w2 : World} {y y1 y2 : PV} (t : LTurn w w1 y y1) (u : LTurn w1 w2 y1 y2) : LTurn w w2 y y2 := by
  refine ⟨Keep.step t.keep u.keep (fun k hk h => ?_), u.g.trans t.g, u.q.trans t.q, u.o.trans t.o, u.r.trans t.r, fun k hk => ?_⟩
  · rcases t.later k h with h | h
    · exact h
    · omega
  · rcases u.later k hk with h | h
    · exact t.later k h
    · exact .inr (Nat.le_trans t.keep.size h)
theorem run_method (v : Value) (w : World) : (method 335 55 v "Run").run Tryz.prog w = .ok (48, v) w := by
  kernel_rfl
attribute [local go_sem] run_method
theorem ask_idle (p q r : Addr) (n : Nat) (w : World) :
    CallsDIn Fence.wide n Tryz.prog 88 #[.pointer (some p), .pointer (some q), .pointer (some r)] .returning w fun e u' w' => e = .returned (.tuple #[]) ∧ u' = .returning ∧ w' = w := by
  refine callsDIn_of_wpSIn Tryz.func88 rfl trivial fun c₀ cs hu => ?_
  apply wpSIn_seq
  apply wpSIn_region
  have hfa : ∀ f, Fence.wide.fn f := fun _ => trivial
  simp [wpOpsSIn, go_sem, recoverD, hu, Tryz.ntmps88, Exit.thenS]
  refine wpSIn_cond (t := false) (by simp [Act.eval, Array.replicate]) ?_
  simp only [Bool.false_eq_true, if_false]
  refine wpSIn_of_wpIn rfl (wpIn_skip ?_)
  cases c₀
  simp_all [bodyPostS, results, Tryz.results88]
/-- what holds while ask runs -/
structure Ask4 (w : World) (W : World) (g : Nat) (cs : Array Value) : Prop where
  b0 : Blk W w.heap.size 31 #[.pointer (some ⟨g, 0, none⟩)]
  b1 : Blk W g 103 cs
  b2 : Blk W (w.heap.size + 1) 23 #[.int .i64 0, .int .i64 0, .int .i64 0, .int .i64 0]
  b3 : Blk W (w.heap.size + 1 + 1) 24 #[.slice none 0 0]
  f : Fresh w W
theorem Ask4.step {w W W' : World} {g : Nat} {cs : Array Value} (h : Ask4 w W g cs) (f : Fresh W W') : Ask4 w W' g cs := ⟨f.blk_ h.b0, f.blk_ h.b1, f.blk_ h.b2, f.blk_ h.b3, h.f.step f (fun _ _ h => h)⟩
theorem lcells_at (c : LC) (y : PV) (p : LPs) (i : Nat) : (lcells c y p)[i]? = #[.pointer (some ⟨y.gq, 0, none⟩), .iface 55 (.agg #[.int .i64 c.md]), .int .i64 c.id, .int .i64 c.every, .bool c.lz, .pointer (some ⟨y.go, 0, none⟩), .pointer (some ⟨y.gr, 0, none⟩), .int .i64 p.now, .int .i64 p.st.s0, .int .i64 p.st.s1, .int .i64 p.st.s2, .int .i64 p.st.s3, .int .i64 p.since, .int .i64 p.freed, .int .i64 p.steps, .int .i64 p.coasted][i]? := rfl
set_option maxRecDepth 100000 in
set_option maxHeartbeats 4000000 in
theorem ask_any (c : LC) (y : PV) (p : LPs) (at_ : Int) (w : World) (h : SLP w c y p) (hl : p.l.length ≤ 1000) (hid : 0 ≤ c.id ∧ c.id ≤ 31) (hmd : c.md < 1000) (hs : OkS p.st) (hev : ∀ e ∈ p.l, SmE e ∧ 0 ≤ e.a ∧ e.a ≤ 1073741824) :
    Calls Tryz.prog 53 #[.pointer (some ⟨y.g, 0, none⟩), .int .i64 at_] w (fun en w' => ∃ v', en = .returned (.tuple #[(runP c.md c.id p.st (p.l.filter (fun e => e.a == at_))).1.val, v']) ∧ OwnS w' 41 7 v' (runP c.md c.id p.st (p.l.filter (fun e => e.a == at_))).2.length (cells (runP c.md c.id p.st (p.l.filter (fun e => e.a == at_))).2) ∧ Fresh w w' ∧ ∀ k, v'.ownBlock = some k → w.heap.size ≤ k) := by
  have hlt := h.blk.lt
  have HBA : Hid (∀ W, Fresh w W → Calls Tryz.prog 89 #[.pointer (some ⟨y.gq, 0, none⟩), .int .i64 at_] W (ListedP (p.l.filter (fun e => e.a == at_)) W)) := Lib.hid fun W f => batch_any y.gq y.v1 y.v2 p.l p.m at_ W (h.sq.fresh f) (by omega)
  have hbl : (p.l.filter (fun e => e.a == at_)).length ≤ 1000 := Nat.le_trans (List.length_filter_le _ _) hl
  have HEV : Hid (∀ e ∈ p.l.filter (fun e => e.a == at_), SmE e ∧ 0 ≤ e.a ∧ e.a ≤ 1073741824) := Lib.hid fun e he => hev e (List.mem_filter.1 he).1
  have HOK := Lib.hid hs
  have A0 : Hid (Ask4 w (((w.alloc (.cells #[.pointer (some ⟨y.g, 0, none⟩)] 31)).alloc (.cells #[.int .i64 0, .int .i64 0, .int .i64 0, .int .i64 0] 23)).alloc (.cells #[.slice none 0 0] 24)).drew y.g (lcells c y p)) := Lib.hid ⟨(((Blk.new w _ _).alloc _).alloc _).drew, (((h.blk.alloc _).alloc _).alloc _).drew, ((Blk.at_new (by simp) _ _).alloc _).drew, (Blk.at_new (by simp) _ _).drew, ((((Keep.refl _ w).alloc _).alloc _).alloc _).drew⟩
  obtain ⟨B, hB⟩ : ∃ B, p.l.filter (fun e => e.a == at_) = B := ⟨_, rfl⟩
  rw [hB] at HBA hbl HEV ⊢
  have HRUN : Hid (∀ W v, EvAt W v B → Calls Tryz.prog 48 #[.agg #[.int .i64 c.md], .int .i64 c.id, .agg #[.int .i64 p.st.s0, .int .i64 p.st.s1, .int .i64 p.st.s2, .int .i64 p.st.s3], v] W fun en w' => ∃ v', en = .returned (.tuple #[(runP c.md c.id p.st B).1.val, v']) ∧ OwnS w' 41 7 v' (runP c.md c.id p.st B).2.length (cells (runP c.md c.id p.st B).2) ∧ Fresh W w' ∧ ∀ k, v'.ownBlock = some k → W.heap.size ≤ k) := Lib.hid fun W v hv => run_any c.md c.id p.st v B W hid hmd HOK.out HEV.out hv hbl
  obtain ⟨⟨⟨r0, r1, r2, r3⟩, out⟩, hR⟩ : ∃ R, runP c.md c.id p.st B = R := ⟨_, rfl⟩
  rw [hR] at HRUN ⊢
  unfold St.val at HRUN ⊢
  simp only at HRUN ⊢
  clear hR
  have y0 := fun (W' : World) (h : Ask4 w W' y.g (lcells c y p)) (i : Nat) => h.b0.cell i
  have y1 := fun (W' : World) (h : Ask4 w W' y.g (lcells c y p)) => h.b0.lt
  have y2 := fun (W' : World) (h : Ask4 w W' y.g (lcells c y p)) (i : Nat) => (h.b1.cell i).trans (lcells_at c y p i)
  have y3 := fun (W' : World) (h : Ask4 w W' y.g (lcells c y p)) => h.b1.lt
  clear h hB hs hev hl
  have hmf : ∀ (fn : Fn) (first cap : Array Value) (w : World), (Instr.makeFunc fn first cap).run Tryz.prog w = .ok (.func fn first cap) w := fun _ _ _ _ => rfl
  refine (callsIn_wide (n := 6)).1 ?_
  refine callsIn_of_wp_marks Tryz.func53 rfl trivial ?_ rfl
  simp only [Tryz.ntmps53, List.size_toArray, List.length_cons, List.length_nil, Nat.reduceAdd, Nat.reduceSub, Array.replicate_succ, Array.replicate_zero, List.push_toArray, List.append_toArray, List.nil_append, List.cons_append]
  refine wpIn_wide.2 ?_
  go_wp2_with fail
  -- <ask
  rename_i K0 hK0
  refine Code.wp_mono (Q := normOnly K0) (fun e a w h => by cases e <;> first | exact h | exact h.elim) ?_
  refine region_T (S := fun W' => Ask4 w W' y.g (lcells c y p)) (T := [23, 24]) (by kernel_rfl) ?_
  refine anyT_take (i := 0) (oi := _) (v := ?vb0) rfl (by kernel_rfl) (by kernel_rfl) (by kernel_rfl) (by kernel_rfl) (fun _ _ _ h => h) (Or.inl ⟨by rfl, ?hyb0⟩) A0.out ?restb0
  case hyb0 => (intro W hSw; go_simp; try with_reducible rfl)
  try simp only [List.getElem_toArray, List.getElem_cons_zero, Act.put, List.setIfInBounds_toArray, List.set_cons_zero, List.set_cons_succ]
  refine anyT_take (i := 1) (oi := _) (v := ?vb1) rfl (by kernel_rfl) (by kernel_rfl) (by kernel_rfl) (by kernel_rfl) (fun _ _ _ h => h) (Or.inl ⟨by rfl, ?hyb1⟩) A0.out ?restb1
  case hyb1 => (intro W hSw; go_simp; try with_reducible rfl)
  try simp only [List.getElem_toArray, List.getElem_cons_zero, List.getElem_cons_succ, Act.put, List.setIfInBounds_toArray, List.set_cons_zero, List.set_cons_succ]
  refine anyT_take (i := 2) (oi := _) (v := ?vb2) rfl (by kernel_rfl) (by kernel_rfl) (by kernel_rfl) (by kernel_rfl) (fun _ _ _ h => h) (Or.inl ⟨by rfl, ?hyb2⟩) A0.out ?restb2
  case hyb2 => (intro W hSw; go_simp; try with_reducible rfl)
  try simp only [List.getElem_toArray, List.getElem_cons_zero, List.getElem_cons_succ, Act.put, List.setIfInBounds_toArray, List.set_cons_zero, List.set_cons_succ]
  refine anyT_take (i := 3) (oi := _) (v := ?vb3) rfl (by kernel_rfl) (by kernel_rfl) (by kernel_rfl) (by kernel_rfl) (fun _ _ _ h => h) (Or.inl ⟨by rfl, ?hyb3⟩) A0.out ?restb3
  case hyb3 => (intro W hSw; go_simp; try with_reducible rfl)
  try simp only [List.getElem_toArray, List.getElem_cons_zero, List.getElem_cons_succ, Act.put, List.setIfInBounds_toArray, List.set_cons_zero, List.set_cons_succ]
  refine anyT_take (i := 4) (oi := _) (v := ?vb4) rfl (by kernel_rfl) (by kernel_rfl) (by kernel_rfl) (by kernel_rfl) (fun _ _ _ h => h) (Or.inl ⟨by rfl, ?hyb4⟩) A0.out ?restb4
  case hyb4 => (intro W hSw; go_simp; try with_reducible rfl)
  try simp only [List.getElem_toArray, List.getElem_cons_zero, List.getElem_cons_succ, Act.put, List.setIfInBounds_toArray, List.set_cons_zero, List.set_cons_succ]
  refine anyT_take (i := 5) (oi := _) (v := ?vb5) rfl (by kernel_rfl) (by kernel_rfl) (by kernel_rfl) (by kernel_rfl) (fun _ _ _ h => h) (Or.inl ⟨by rfl, ?hyb5⟩) A0.out ?restb5
  case hyb5 => (intro W hSw; go_simp; try with_reducible rfl)
  try simp only [List.getElem_toArray, List.getElem_cons_zero, List.getElem_cons_succ, Act.put, List.setIfInBounds_toArray, List.set_cons_zero, List.set_cons_succ]
  refine anyT_take (i := 6) (oi := _) (v := ?vb6) rfl (by kernel_rfl) (by kernel_rfl) (by kernel_rfl) (by kernel_rfl) (fun _ _ _ h => h) (Or.inl ⟨by rfl, ?hyb6⟩) A0.out ?restb6
  case hyb6 => (intro W hSw; go_simp; try with_reducible rfl)
  try simp only [List.getElem_toArray, List.getElem_cons_zero, List.getElem_cons_succ, Act.put, List.setIfInBounds_toArray, List.set_cons_zero, List.set_cons_succ]
  refine anyT_take (i := 7) (oi := _) (v := ?vb7) rfl (by kernel_rfl) (by kernel_rfl) (by kernel_rfl) (by kernel_rfl) (fun _ _ _ h => h) (Or.inl ⟨by rfl, ?hyb7⟩) A0.out ?restb7
  case hyb7 => (intro W hSw; go_simp; try with_reducible rfl)
  try simp only [List.getElem_toArray, List.getElem_cons_zero, List.getElem_cons_succ, Act.put, List.setIfInBounds_toArray, List.set_cons_zero, List.set_cons_succ]
  refine anyT_take (i := 8) (oi := _) (v := ?vb8) rfl (by kernel_rfl) (by kernel_rfl) (by kernel_rfl) (by kernel_rfl) (fun _ _ _ h => h) (Or.inl ⟨by rfl, ?hyb8⟩) A0.out ?restb8
  case hyb8 => (intro W hSw; go_simp; try with_reducible rfl)
  try simp only [List.getElem_toArray, List.getElem_cons_zero, List.getElem_cons_succ, Act.put, List.setIfInBounds_toArray, List.set_cons_zero, List.set_cons_succ]
  refine anyT_take (i := 9) (oi := _) (v := ?vb9) rfl (by kernel_rfl) (by kernel_rfl) (by kernel_rfl) (by kernel_rfl) (fun _ _ _ h => h) (Or.inl ⟨by rfl, ?hyb9⟩) A0.out ?restb9
  case hyb9 => (intro W hSw; go_simp; try with_reducible rfl)
  try simp only [List.getElem_toArray, List.getElem_cons_zero, List.getElem_cons_succ, Act.put, List.setIfInBounds_toArray, List.set_cons_zero, List.set_cons_succ]
  refine anyT_take (i := 10) (oi := _) (v := ?vb10) rfl (by kernel_rfl) (by kernel_rfl) (by kernel_rfl) (by kernel_rfl) (fun _ _ _ h => h) (Or.inl ⟨by rfl, ?hyb10⟩) A0.out ?restb10
  case hyb10 => (intro W hSw; go_simp; try with_reducible rfl)
  try simp only [List.getElem_toArray, List.getElem_cons_zero, List.getElem_cons_succ, Act.put, List.setIfInBounds_toArray, List.set_cons_zero, List.set_cons_succ]
  refine anyT_take (i := 11) (oi := _) (v := ?vb11) rfl (by kernel_rfl) (by kernel_rfl) (by kernel_rfl) (by kernel_rfl) (fun _ _ _ h => h) (Or.inl ⟨by rfl, ?hyb11⟩) A0.out ?restb11
  case hyb11 => (intro W hSw; go_simp; try with_reducible rfl)
  try simp only [List.getElem_toArray, List.getElem_cons_zero, List.getElem_cons_succ, Act.put, List.setIfInBounds_toArray, List.set_cons_zero, List.set_cons_succ]
  refine anyT_take (i := 12) (oi := _) (v := ?vb12) rfl (by kernel_rfl) (by kernel_rfl) (by kernel_rfl) (by kernel_rfl) (fun _ _ _ h => h) (Or.inl ⟨by rfl, ?hyb12⟩) A0.out ?restb12
  case hyb12 => (intro W hSw; go_simp; try with_reducible rfl)
  try simp only [List.getElem_toArray, List.getElem_cons_zero, List.getElem_cons_succ, Act.put, List.setIfInBounds_toArray, List.set_cons_zero, List.set_cons_succ]
  refine anyT_take (i := 13) (oi := _) (v := ?vb13) rfl (by kernel_rfl) (by kernel_rfl) (by kernel_rfl) (by kernel_rfl) (fun _ _ _ h => h) (Or.inl ⟨by rfl, ?hyb13⟩) A0.out ?restb13
  case hyb13 => (intro W hSw; go_simp; try with_reducible rfl)
  try simp only [List.getElem_toArray, List.getElem_cons_zero, List.getElem_cons_succ, Act.put, List.setIfInBounds_toArray, List.set_cons_zero, List.set_cons_succ]
  refine anyT_take (i := 14) (oi := _) (v := ?vb14) rfl (by kernel_rfl) (by kernel_rfl) (by kernel_rfl) (by kernel_rfl) (fun _ _ _ h => h) (Or.inl ⟨by rfl, ?hyb14⟩) A0.out ?restb14
  case hyb14 => (intro W hSw; go_simp; try with_reducible rfl)
  try simp only [List.getElem_toArray, List.getElem_cons_zero, List.getElem_cons_succ, Act.put, List.setIfInBounds_toArray, List.set_cons_zero, List.set_cons_succ]
  refine anyT_take (i := 15) (oi := _) (v := ?vb15) rfl (by kernel_rfl) (by kernel_rfl) (by kernel_rfl) (by kernel_rfl) (fun _ _ _ h => h) (Or.inl ⟨by rfl, ?hyb15⟩) A0.out ?restb15
  case hyb15 => (intro W hSw; go_simp; try with_reducible rfl)
  try simp only [List.getElem_toArray, List.getElem_cons_zero, List.getElem_cons_succ, Act.put, List.setIfInBounds_toArray, List.set_cons_zero, List.set_cons_succ]
  refine anyT_take (i := 16) (oi := _) (v := ?vb16) rfl (by kernel_rfl) (by kernel_rfl) (by kernel_rfl) (by kernel_rfl) (fun _ _ _ h => h) (Or.inl ⟨by rfl, ?hyb16⟩) A0.out ?restb16
  case hyb16 => (intro W hSw; go_simp; try with_reducible rfl)
  try simp only [List.getElem_toArray, List.getElem_cons_zero, List.getElem_cons_succ, Act.put, List.setIfInBounds_toArray, List.set_cons_zero, List.set_cons_succ]
  refine anyT_take (i := 18) (oi := _) (v := ?vb18) rfl (by kernel_rfl) (by kernel_rfl) (by kernel_rfl) (by kernel_rfl) (fun _ _ _ h => h) (Or.inl ⟨by rfl, ?hyb18⟩) A0.out ?restb18
  case hyb18 => (intro W hSw; go_simp; try with_reducible rfl)
  try simp only [List.getElem_toArray, List.getElem_cons_zero, List.getElem_cons_succ, Act.put, List.setIfInBounds_toArray, List.set_cons_zero, List.set_cons_succ]
  refine anyT_take (i := 19) (oi := _) (v := ?vb19) rfl (by kernel_rfl) (by kernel_rfl) (by kernel_rfl) (by kernel_rfl) (fun _ _ _ h => h) (Or.inl ⟨by rfl, ?hyb19⟩) A0.out ?restb19
  case hyb19 => (intro W hSw; go_simp; try with_reducible rfl)
  try simp only [List.getElem_toArray, List.getElem_cons_zero, List.getElem_cons_succ, Act.put, List.setIfInBounds_toArray, List.set_cons_zero, List.set_cons_succ]
  refine anyT_one' (i := 17) (by kernel_rfl) rfl (by rfl) (fun KQ hK => ?_)
  go_simp
  go_at_call 89
  (with_reducible refine (HBA.out _ A0.out.f).mono ?_)
  rintro e w3 ⟨v3, rfl, o3, f3, n3⟩
  have A3 := Lib.hid (A0.out.step f3)
  have O3 := Lib.hid o3
  clear f3 o3 n3
  refine hK.out _ _ A3.out ?_
  clear hK KQ
  try simp only [List.getElem_toArray, List.getElem_cons_zero, List.getElem_cons_succ, Act.put, List.setIfInBounds_toArray, List.set_cons_zero, List.set_cons_succ]
  refine anyT_one' (i := 20) (by kernel_rfl) rfl (by rfl) (fun KQ hK => ?_)
  go_simp
  (with_reducible refine (HRUN.out _ _ O3.out.evs).mono ?_)
  rintro e w4 ⟨v4, rfl, o4, f4, n4⟩
  have A4 := Lib.hid (A3.out.step f4)
  have O4 := Lib.hid o4
  have N4 := Lib.hid (fun k hk => Nat.le_trans A3.out.f.size (n4 k hk))
  clear f4 o4 n4
  refine hK.out _ _ A4.out ?_
  clear hK KQ
  try simp only [List.getElem_toArray, List.getElem_cons_zero, List.getElem_cons_succ, Act.put, List.setIfInBounds_toArray, List.set_cons_zero, List.set_cons_succ]
  refine anyT_take (i := 21) (oi := _) (v := ?vb21) rfl (by kernel_rfl) (by kernel_rfl) (by kernel_rfl) (by kernel_rfl) (fun _ _ _ h => h) (Or.inl ⟨by rfl, ?hyb21⟩) A4.out ?restb21
  case hyb21 => (intro W hSw; go_simp; try with_reducible rfl)
  try simp only [List.getElem_toArray, List.getElem_cons_zero, List.getElem_cons_succ, Act.put, List.setIfInBounds_toArray, List.set_cons_zero, List.set_cons_succ]
  refine anyT_take (i := 22) (oi := _) (v := ?vb22) rfl (by kernel_rfl) (by kernel_rfl) (by kernel_rfl) (by kernel_rfl) (fun _ _ _ h => h) (Or.inl ⟨by rfl, ?hyb22⟩) A4.out ?restb22
  case hyb22 => (intro W hSw; go_simp; try with_reducible rfl)
  try simp only [List.getElem_toArray, List.getElem_cons_zero, List.getElem_cons_succ, Act.put, List.setIfInBounds_toArray, List.set_cons_zero, List.set_cons_succ]
  have a4 := A4.out
  have c2 := a4.b2.cell
  have f2 := a4.b2.frozen
  have l2 := a4.b2.lt
  have c3 := a4.b3.cell
  have f3 := a4.b3.frozen
  have l3 := a4.b3.lt
  clear y0 y1 y2 y3 a4
  refine anyT_tail (k := 23) rfl (by decide) (by kernel_rfl) ?_
  simp only [List.drop_succ_cons, List.drop_zero]
  obtain ⟨A', c', rfl, _, _⟩ := O4.out.shape
  go_wp2_with fail
  refine hK0 _ _ ?_
  have b2 := ((((A4.out.b2.set_ 0 (.int .i64 r0)).set_ 1 (.int .i64 r1)).set_ 2 (.int .i64 r2)).set_ 3 (.int .i64 r3)).far (p := ⟨w.heap.size + 1 + 1, 0, none⟩) (by simp) (.slice A' out.length c')
  have b3 := ((((A4.out.b3.far (p := ⟨w.heap.size + 1, 0, none⟩) (by simp) (.int .i64 r0)).far (p := ⟨w.heap.size + 1, 1, none⟩) (by simp) (.int .i64 r1)).far (p := ⟨w.heap.size + 1, 2, none⟩) (by simp) (.int .i64 r2)).far (p := ⟨w.heap.size + 1, 3, none⟩) (by simp) (.int .i64 r3)).set_ 0 (.slice A' out.length c')
  obtain ⟨WZ, hWZ⟩ : ∃ WZ, (((((w4.setCell ⟨w.heap.size + 1, 0, none⟩ (.int .i64 r0)).setCell ⟨w.heap.size + 1, 1, none⟩ (.int .i64 r1)).setCell ⟨w.heap.size + 1, 2, none⟩ (.int .i64 r2)).setCell ⟨w.heap.size + 1, 3, none⟩ (.int .i64 r3)).setCell ⟨w.heap.size + 1 + 1, 0, none⟩ (.slice A' out.length c')) = WZ := ⟨_, rfl⟩
  have FZ : Hid (Fresh w WZ) := Lib.hid (by
    rw [← hWZ]
    refine Keep.setCell (Keep.setCell (Keep.setCell (Keep.setCell (Keep.setCell A4.out.f (p := ⟨w.heap.size + 1, 0, none⟩) ?_ _) (p := ⟨w.heap.size + 1, 1, none⟩) ?_ _) (p := ⟨w.heap.size + 1, 2, none⟩) ?_ _) (p := ⟨w.heap.size + 1, 3, none⟩) ?_ _) (p := ⟨w.heap.size + 1 + 1, 0, none⟩) ?_ _ <;> (intro h; simp at h; try omega))
  have OZ : Hid (OwnS WZ 41 7 (.slice A' out.length c') out.length (cells out)) := Lib.hid (by
    rw [← hWZ]
    have n2 := O4.out.ne_blk A4.out.b2 (by decide)
    have n3 := O4.out.ne_blk A4.out.b3 (by decide)
    exact ((((O4.out.far (p := ⟨w.heap.size + 1, 0, none⟩) n2 _).far (p := ⟨w.heap.size + 1, 1, none⟩) n2 _).far (p := ⟨w.heap.size + 1, 2, none⟩) n2 _).far (p := ⟨w.heap.size + 1, 3, none⟩) n2 _).far (p := ⟨w.heap.size + 1 + 1, 0, none⟩) n3 _)
  rw [hWZ] at b2 b3 ⊢
  clear hWZ hK0
  have c5 := b2.cell
  have c6 := b3.cell
  go_wp2_with fail
  refine ⟨by simp, .inr ⟨fun h => by omega, _, _, 88, _, rfl, by simp [go_sem]; rfl, fun _ _ => trivial, ?_⟩⟩
  refine (ask_idle ⟨w.heap.size, 0, none⟩ ⟨w.heap.size + 1, 0, none⟩ ⟨w.heap.size + 1 + 1, 0, none⟩ _ _).mono ?_
  rintro e u' w'' ⟨rfl, rfl, rfl⟩
  exact ⟨.tuple #[.agg #[.int .i64 r0, .int .i64 r1, .int .i64 r2, .int .i64 r3], .slice A' out.length c'], by simp [results, Tryz.results53, go_sem, c5, c6]; try rfl, ⟨_, rfl, OZ.out, FZ.out, N4.out⟩⟩
  -- ask>
end Go.Proofs.YthbcdkeammhakaaGreat
