/-
  The law's same: is a queue the document's answer's?
-/
import Derived.Test.YtecobebndjnhnaaDoesN
namespace Go.Proofs.Ytecobebndjnhnaa
open Go.RowKit Go.Shelf
attribute [local go_sem] Oper.semAt_some
attribute [local go_sem ↓] Go.wp_at_zero Go.wp_at_succ run_eql_ev
theorem run_eql_seq (fn : Fn) (a b : Array Value) (w : World) : (binOp .eql 45 (.func fn a b) .nilFunc).run Try.prog w = .ok (.bool false) w := by
  first | rfl | (kernel_rfl)
attribute [local go_sem] run_eql_seq

theorem LInv.fresh_ {w W : World} {pre : List Ev} (h : LInv w pre W) : Fresh w W := h.2
set_option maxRecDepth 100000 in
set_option maxHeartbeats 16000000 in
theorem same_any (w : World) (k g : Nat) (v1 v2 : Value) (l m : List Ev) (gr : Nat) (u1 u2 : Value) (L B : List Ev) (w0 : World) (h : PQ w k g v1 v2 l m gr u1 u2 L B w0) (hk : k ≤ 200) :
    Calls Try.prog 28 #[.pointer (some ⟨g, 0, none⟩), .pointer (some ⟨gr, 0, none⟩)] w0 fun e w' => e = .returned (.bool true) ∧ Fresh w0 w' := by
  have H := Lib.hid h
  have hfew := h.few
  have hL : L.length ≤ 200 := by rw [h.pl.length_eq]; omega
  have hB : B.length ≤ 200 := by rw [h.pm.length_eq]; omega
  have hl : l.length ≤ 200 := by omega
  have hm : m.length ≤ 200 := by omega
  clear h hfew
  obtain ⟨i0, hi, hz0, hz1, hz2⟩ := info_parts info_ev
  refine (callsIn_wide (n := 6)).1 ?_
  refine callsIn_of_wp_marks Try.func28 rfl trivial ?_ rfl
  simp only [Try.ntmps28, List.size_toArray, List.length_cons, List.length_nil, Nat.reduceAdd, Nat.reduceSub, Array.replicate_succ, Array.replicate_zero, List.push_toArray, List.append_toArray, List.nil_append, List.cons_append]
  refine wpIn_wide.2 ?_
  go_wp2_with fail
  refine (all_any g v1 v2 l m w0 H.out.p.q.q (by omega)).mono ?_
  rintro e w1 ⟨b1, x1, rfl, k1, o1, f1⟩
  have F1 := Lib.hid f1
  have K1 := Lib.hid k1
  have O1 := Lib.hid o1
  clear f1 k1 o1
  simp only [seqV]
  go_wp2_with fail
  refine (antis_any g v1 v2 l m w1 (H.out.p.q.q.fresh F1.out) (by omega)).mono ?_
  rintro e w2 ⟨b2, x2, rfl, k2, o2, f2⟩
  have F2 := Lib.hid (F1.out.step f2 (fun _ _ h => h))
  have K1 := Lib.hid (f2.blk_ K1.out)
  have O1 := Lib.hid (O1.out.fresh f2)
  have K2 := Lib.hid k2
  have O2 := Lib.hid o2
  clear f2 k2 o2
  simp only [seqV]
  go_wp2_with fail
  have F0 : Fresh w2 (w2.alloc (.cells #[.slice none 0 0] 42)) := (Keep.refl _ _).alloc _
  have B0 := Blk.new w2 42 #[.slice none 0 0]
  obtain ⟨w3, hw3⟩ : ∃ w3, w2.alloc (.cells #[.slice none 0 0] 42) = w3 := ⟨_, rfl⟩
  rw [hw3] at F0 B0 ⊢
  have FF0 := Lib.hid F0
  have BB0 := Lib.hid B0
  have szF := F0.size
  have szN := B0.lt
  clear hw3 F0 B0
  have hb1 : bk x1 < w2.heap.size := by
    unfold bk
    cases hv : x1.ownBlock with
    | none => have := (K1.out.lt); simp; omega
    | some k => simpa using (O1.out).lt hv
  have hb2 : bk x2 < w2.heap.size := by
    unfold bk
    cases hv : x2.ownBlock with
    | none => have := (K2.out.lt); simp; omega
    | some k => simpa using (O2.out).lt hv
  refine (wpIn_wide (n := 6)).1 ?_
  refine wpIn_rangeFunc_ownH rfl (by omega) (gf := 52) (lb := #[.pointer (some ⟨b1, 0, none⟩)]) rfl trivial (enters_of Try.func52 (by kernel_rfl) rfl)
    (vals_stops Fence.wide (6 - 1) trivial rfl (by omega) b1 x1 l (by omega) w3 (FF0.out.blk_ K1.out) (O1.out.fresh FF0.out)) keepsB_t keepsB_b (Below.refl _ _) (fun _ => rfl)
    (LInv w2) (fun _ _ _ => False) (lInv_own w2 _ (by omega)) (fun _ _ _ _ _ hs _ _ => hs)
    ⟨⟨.slice none 0 0, BB0.out, OwnS.nil _ _ _, fun k hk => by simp [Value.ownBlock] at hk⟩, FF0.out⟩
    (fun y a' W => ∃ Bx, Blk W Bx 25 #[.int .i64 y.a, .int .i64 y.s, .int .i64 y.t, .int .i64 y.n, .int .i64 y.d, .int .i64 y.k, .int .i64 y.x] ∧ a' = { tmps := #[.pointer (some ⟨g, 0, none⟩), .pointer (some ⟨gr, 0, none⟩), undef, undef, .bool false, .func (.func 52) #[] #[.pointer (some ⟨b1, 0, none⟩)], .func (.func 52) #[] #[.pointer (some ⟨b2, 0, none⟩)], .pointer (some ⟨w2.heap.size, 0, none⟩), .pointer (some ⟨Bx, 0, none⟩), undef, undef, undef, undef, undef, undef, .pointer (some ⟨g, 0, none⟩), .func (.func 52) #[] #[.pointer (some ⟨b1, 0, none⟩)], .pointer (some ⟨g, 0, none⟩), .func (.func 52) #[] #[.pointer (some ⟨b2, 0, none⟩)], .func (.func 52) #[] #[.pointer (some ⟨b1, 0, none⟩)], .bool false, .bool false, .func (.func 52) #[] #[.pointer (some ⟨b2, 0, none⟩)], .bool false, .bool false, .func (.func 52) #[] #[.pointer (some ⟨b1, 0, none⟩)], .agg #[.int .i64 y.a, .int .i64 y.s, .int .i64 y.t, .int .i64 y.n, .int .i64 y.d, .int .i64 y.k, .int .i64 y.x], undef, undef, undef, undef, undef, undef, undef, undef, undef, undef, undef, undef, undef, undef, undef, undef, undef, undef, undef, undef, undef, undef, undef, undef, undef, undef, undef, undef, undef, undef, undef, undef, undef, undef, undef, undef, undef, undef, undef, undef, undef, undef, undef, undef, undef, undef, undef, undef, undef, undef, undef, undef, undef, undef, undef, undef, undef, undef, undef, undef, undef], defers := [] }) ?ax ?assign ?body ?done ?stop
  case stop =>
    rintro D c pre W _ _ h _
    exact h.elim
  case ax =>
    rintro x a' u X Y row ⟨Bx, h2, h3⟩ hg hr
    exact ⟨Bx, blk_grown h2 hg (fun r e => (hr r e).2), h3⟩
  case assign =>
    rintro lp pre y W K ⟨⟨v2, b2, o2, n2⟩, f2⟩ hK
    unfold enc Ev.val
    gi_wp2
    exact hK _ _ ((KeepsOthers.alloc _ _).from _) ((KeepsB.refl _ _ _).alloc _) ⟨⟨v2, b2.alloc _, o2.alloc _, n2⟩, f2.alloc _⟩ ⟨W.heap.size, Blk.new W _ _, rfl⟩
  case body =>
    rintro lp pre y a' W hlp hrec ⟨⟨v2, b2, o2, n2⟩, f2⟩ ⟨Bx, bx, rfl⟩ hlt
    obtain ⟨A2, cap2, rfl, _, _⟩ := o2.shape
    have c2 := b2.cell
    have r2 := b2.frozen
    have l2 := b2.lt
    have cX := bx.cell
    have ne2 := o2.ne_blk b2 (by decide)
    have HC : Hid (Src (W.alloc (.cells #[.int .i64 y.a, .int .i64 y.s, .int .i64 y.t, .int .i64 y.n, .int .i64 y.d, .int .i64 y.k, .int .i64 y.x] 25)) 7 (.slice (some ⟨W.heap.size, 0, none⟩) 1 1) 1 (cells [y])) := Lib.hid (Src.one_new W 25 7 #[.int .i64 y.a, .int .i64 y.s, .int .i64 y.t, .int .i64 y.n, .int .i64 y.d, .int .i64 y.k, .int .i64 y.x] rfl)
    have h07 : Hid (0 < 7) := Lib.hid (by omega)
    have hL1 := Lib.hid (show pre.length + 1 ≤ maxLen from one_le_maxLen (by omega))
    have hL2 := Lib.hid (show (pre.length + 1) * 56 ≤ 140737488355328 by omega)
    have U1 := Lib.hid b2
    have U2 := Lib.hid o2
    have U3 := Lib.hid n2
    have U4 := Lib.hid f2
    have U5 := Lib.hid ne2
    clear b2 o2 n2 f2 ne2 bx hrec
    gi_wp2_with (gi_at_builtin; refine wpListIn_append_OwnS _ rfl _ _ 42 rfl 25 i0 _ 7 56 Try.underlying42 hi hz0 hz1 hz2 rfl h07.out (.slice A2 pre.length cap2) pre.length (cells pre) rfl (U2.out.alloc _) (.slice (some ⟨W.heap.size, 0, none⟩) 1 1) 1 (cells [y]) rfl HC.out (cells_one _) hL1.out hL2.out ?_; intro v3 w3' o3 k3 n3; obtain ⟨A3, cap3, rfl, _, _⟩ := o3.shape; have b3 := (U1.out.alloc (.cells #[.int .i64 y.a, .int .i64 y.s, .int .i64 y.t, .int .i64 y.n, .int .i64 y.d, .int .i64 y.k, .int .i64 y.x] 25)).keep k3 U5.out; have c3 := b3.cell; have r3 := b3.frozen; have l3 := b3.lt; have V1 := Lib.hid b3; have V2 := Lib.hid o3; have V3 := Lib.hid k3; have V4 := Lib.hid n3; clear b3 o3 k3 n3)
    have K1 : Keep (fun k => k = w2.heap.size ∨ (Value.slice A2 pre.length cap2).ownBlock = some k) W (w3'.setCell ⟨w2.heap.size, 0, none⟩ (.slice A3 (pre.length + 1) cap3)) :=
      (((Keep.refl _ W).alloc _).step V3.out (fun _ _ h => .inr h)).setCell (fun _ => .inl rfl) _
    refine ⟨(keepsOthers_of_keep K1 ?_).from _, KeepsB.of_keep' K1 ?_, ⟨.slice A3 (pre.length + 1) cap3, V1.out.set_ 0 _, ?_, ?_⟩, ?_⟩
    · rintro k o (rfl | hk) ho
      · exact blk_isCells U1.out ho
      · exact own_isCells U2.out hk ho
    · rintro cur hcur (h | h)
      · omega
      · have := U3.out _ h; omega
    · have := V2.out.far (p := ⟨w2.heap.size, 0, none⟩) (V2.out.ne_blk V1.out (by decide)) (.slice A3 (pre.length + 1) cap3)
      rw [List.length_append, cells_append]
      exact this
    · intro k hk
      rcases V4.out k hk with h | h
      · exact U3.out k h
      · have := U4.out.size
        simp at h
        omega
    · exact U4.out.step K1 (by
        rintro k hk (h | h)
        · omega
        · have := U3.out k h; omega)
  case done =>
    rintro D ys wB hD rfl hI hK
    obtain ⟨⟨v7, b7, o7, n7⟩, f7⟩ := hI
    have hDl := (Array.getElem?_eq_some_iff.1 hK).1
    have FB := Lib.hid f7
    have B7 := Lib.hid b7
    have O7 := Lib.hid o7
    have HK := Lib.hid hK
    have szB := f7.size
    obtain ⟨A7, c7, rfl, _, _⟩ := o7.shape
    have K2 := Lib.hid (f7.blk_ K2.out)
    have O2 := Lib.hid (O2.out.fresh f7)
    clear b7 o7 n7 f7 hK K1 O1 FF0 BB0
    go_wp2_with fail
    have F0 : Fresh wB (wB.alloc (.cells #[.slice none 0 0] 42)) := (Keep.refl _ _).alloc _
    have B0 := Blk.new wB 42 #[.slice none 0 0]
    obtain ⟨w4, hw4⟩ : ∃ w4, wB.alloc (.cells #[.slice none 0 0] 42) = w4 := ⟨_, rfl⟩
    rw [hw4] at F0 B0 ⊢
    have FF0 := Lib.hid F0
    have BB0 := Lib.hid B0
    have szF4 := F0.size
    have szN4 := B0.lt
    clear hw4 F0 B0
    refine (wpIn_wide (n := 6)).1 ?_
    refine wpIn_rangeFunc_ownH rfl (by omega) (gf := 52) (lb := #[.pointer (some ⟨b2, 0, none⟩)]) rfl trivial (enters_of Try.func52 (by kernel_rfl) rfl)
      (vals_stops Fence.wide (6 - 1) trivial rfl (by omega) b2 x2 m (by omega) w4 (FF0.out.blk_ K2.out) (O2.out.fresh FF0.out)) keepsB_t keepsB_b (Below.refl _ _) (fun _ => rfl)
      (LInv wB) (fun _ _ _ => False) (lInv_own wB _ (by omega)) (fun _ _ _ _ _ hs _ _ => hs)
      ⟨⟨.slice none 0 0, BB0.out, OwnS.nil _ _ _, fun k hk => by simp [Value.ownBlock] at hk⟩, FF0.out⟩
      (fun y a' W => ∃ Bx, Blk W Bx 25 #[.int .i64 y.a, .int .i64 y.s, .int .i64 y.t, .int .i64 y.n, .int .i64 y.d, .int .i64 y.k, .int .i64 y.x] ∧ a' = { tmps := #[.pointer (some ⟨g, 0, none⟩), .pointer (some ⟨gr, 0, none⟩), undef, undef, .bool false, .func (.func 52) #[] #[.pointer (some ⟨b1, 0, none⟩)], .func (.func 52) #[] #[.pointer (some ⟨b2, 0, none⟩)], .pointer (some ⟨w2.heap.size, 0, none⟩), undef, .pointer (some ⟨wB.heap.size, 0, none⟩), .pointer (some ⟨Bx, 0, none⟩), undef, undef, undef, undef, .pointer (some ⟨g, 0, none⟩), .func (.func 52) #[] #[.pointer (some ⟨b1, 0, none⟩)], .pointer (some ⟨g, 0, none⟩), .func (.func 52) #[] #[.pointer (some ⟨b2, 0, none⟩)], .func (.func 52) #[] #[.pointer (some ⟨b1, 0, none⟩)], .bool false, .bool false, .func (.func 52) #[] #[.pointer (some ⟨b2, 0, none⟩)], .bool false, .bool false, .func (.func 52) #[] #[.pointer (some ⟨b1, 0, none⟩)], undef, undef, undef, undef, undef, .func (.func 52) #[] #[.pointer (some ⟨b2, 0, none⟩)], .agg #[.int .i64 y.a, .int .i64 y.s, .int .i64 y.t, .int .i64 y.n, .int .i64 y.d, .int .i64 y.k, .int .i64 y.x], undef, undef, undef, undef, undef, undef, undef, undef, undef, undef, undef, undef, undef, undef, undef, undef, undef, undef, undef, undef, undef, undef, undef, undef, undef, undef, undef, undef, undef, undef, undef, undef, undef, undef, undef, undef, undef, undef, undef, undef, undef, undef, undef, undef, undef, undef, undef, undef, undef, undef, undef, undef, undef, undef, undef], defers := [] }) ?ax ?assign ?body ?done ?stop
    case stop =>
      rintro D c pre W _ _ h _
      exact h.elim
    case ax =>
      rintro x a' u X Y row ⟨Bx, h2, h3⟩ hg hr
      exact ⟨Bx, blk_grown h2 hg (fun r e => (hr r e).2), h3⟩
    case assign =>
      rintro lp pre y W K ⟨⟨v2, b2, o2, n2⟩, f2⟩ hK
      unfold enc Ev.val
      gi_wp2
      exact hK _ _ ((KeepsOthers.alloc _ _).from _) ((KeepsB.refl _ _ _).alloc _) ⟨⟨v2, b2.alloc _, o2.alloc _, n2⟩, f2.alloc _⟩ ⟨W.heap.size, Blk.new W _ _, rfl⟩
    case body =>
      rintro lp pre y a' W hlp hrec ⟨⟨v2, b2, o2, n2⟩, f2⟩ ⟨Bx, bx, rfl⟩ hlt
      obtain ⟨A2, cap2, rfl, _, _⟩ := o2.shape
      have c2 := b2.cell
      have r2 := b2.frozen
      have l2 := b2.lt
      have cX := bx.cell
      have ne2 := o2.ne_blk b2 (by decide)
      have HC : Hid (Src (W.alloc (.cells #[.int .i64 y.a, .int .i64 y.s, .int .i64 y.t, .int .i64 y.n, .int .i64 y.d, .int .i64 y.k, .int .i64 y.x] 25)) 7 (.slice (some ⟨W.heap.size, 0, none⟩) 1 1) 1 (cells [y])) := Lib.hid (Src.one_new W 25 7 #[.int .i64 y.a, .int .i64 y.s, .int .i64 y.t, .int .i64 y.n, .int .i64 y.d, .int .i64 y.k, .int .i64 y.x] rfl)
      have h07 : Hid (0 < 7) := Lib.hid (by omega)
      have hL1 := Lib.hid (show pre.length + 1 ≤ maxLen from one_le_maxLen (by omega))
      have hL2 := Lib.hid (show (pre.length + 1) * 56 ≤ 140737488355328 by omega)
      have U1 := Lib.hid b2
      have U2 := Lib.hid o2
      have U3 := Lib.hid n2
      have U4 := Lib.hid f2
      have U5 := Lib.hid ne2
      clear b2 o2 n2 f2 ne2 bx hrec
      gi_wp2_with (gi_at_builtin; refine wpListIn_append_OwnS _ rfl _ _ 42 rfl 25 i0 _ 7 56 Try.underlying42 hi hz0 hz1 hz2 rfl h07.out (.slice A2 pre.length cap2) pre.length (cells pre) rfl (U2.out.alloc _) (.slice (some ⟨W.heap.size, 0, none⟩) 1 1) 1 (cells [y]) rfl HC.out (cells_one _) hL1.out hL2.out ?_; intro v3 w3' o3 k3 n3; obtain ⟨A3, cap3, rfl, _, _⟩ := o3.shape; have b3 := (U1.out.alloc (.cells #[.int .i64 y.a, .int .i64 y.s, .int .i64 y.t, .int .i64 y.n, .int .i64 y.d, .int .i64 y.k, .int .i64 y.x] 25)).keep k3 U5.out; have c3 := b3.cell; have r3 := b3.frozen; have l3 := b3.lt; have V1 := Lib.hid b3; have V2 := Lib.hid o3; have V3 := Lib.hid k3; have V4 := Lib.hid n3; clear b3 o3 k3 n3)
      have K1 : Keep (fun k => k = wB.heap.size ∨ (Value.slice A2 pre.length cap2).ownBlock = some k) W (w3'.setCell ⟨wB.heap.size, 0, none⟩ (.slice A3 (pre.length + 1) cap3)) :=
        (((Keep.refl _ W).alloc _).step V3.out (fun _ _ h => .inr h)).setCell (fun _ => .inl rfl) _
      refine ⟨(keepsOthers_of_keep K1 ?_).from _, KeepsB.of_keep' K1 ?_, ⟨.slice A3 (pre.length + 1) cap3, V1.out.set_ 0 _, ?_, ?_⟩, ?_⟩
      · rintro k o (rfl | hk) ho
        · exact blk_isCells U1.out ho
        · exact own_isCells U2.out hk ho
      · rintro cur hcur (h | h)
        · omega
        · have := U3.out _ h; omega
      · have := V2.out.far (p := ⟨wB.heap.size, 0, none⟩) (V2.out.ne_blk V1.out (by decide)) (.slice A3 (pre.length + 1) cap3)
        rw [List.length_append, cells_append]
        exact this
      · intro k hk
        rcases V4.out k hk with h | h
        · exact U3.out k h
        · have := U4.out.size
          simp at h
          omega
      · exact U4.out.step K1 (by
          rintro k hk (h | h)
          · omega
          · have := U3.out k h; omega)
    case done =>
      rintro D2 zs wC hD2 rfl hI hK2
      obtain ⟨⟨v9, b9, o9, n9⟩, f9⟩ := hI
      have hD2l := (Array.getElem?_eq_some_iff.1 hK2).1
      have FC := Lib.hid f9
      have B9 := Lib.hid b9
      have O9 := Lib.hid o9
      have HK2 := Lib.hid hK2
      have HK1 := Lib.hid ((f9.block D hDl (fun h => h)).trans HK.out)
      obtain ⟨A9, c9, rfl, _, _⟩ := o9.shape
      have B7 := Lib.hid (f9.blk_ B7.out)
      have O7 := Lib.hid (O7.out.fresh f9)
      clear b9 o9 n9 f9 hK2 K2 O2 FF0 BB0
      have FA : Hid (Fresh w0 wC) := Lib.hid ((F2.out.step FB.out (fun _ _ h => h)).step FC.out (fun _ _ h => h))
      have HL := Lib.hid (late_any g v1 v2 ys zs wC (H.out.p.q.q.fresh FA.out) (by omega))
      have LS := Lib.hid (show ((lateL ys).isSome = true ∧ 0 < ys.length) ∨ ((lateL ys).isSome = false ∧ ys.length = 0) from by
        by_cases h0 : ys = []
        · subst h0; exact .inr ⟨rfl, rfl⟩
        · obtain ⟨z, hz⟩ := lateL_some h0
          exact .inl ⟨by rw [hz]; rfl, List.length_pos_iff.2 h0⟩)
      have HRL := Lib.hid (fun W (f : Fresh wC W) => rlate_any gr u1 u2 L B ys W (H.out.p.r.fresh (FA.out.step f (fun _ _ h => h))) H.out.p.q.q.s1 H.out.pl (by omega))
      have HLN := Lib.hid (fun W (f : Fresh wC W) => len_any g v1 v2 ys zs W (H.out.p.q.q.fresh (FA.out.step f (fun _ _ h => h))))
      have S1 : Hid (∀ W, Fresh wC W → Calls Try.prog 47 #[u1] W fun e w' => ∃ A c, e = .returned (.slice A ys.length c) ∧ EvAt w' (.slice A ys.length c) ys ∧ Fresh W w') := Lib.hid fun W f => (sort_any u1 L W (H.out.p.r.own1.fresh (FA.out.step f (fun _ _ h => h))).evs (by omega)).mono fun e w' ⟨v', out, h1, h2, h3, h4, h5, _⟩ => by
        have e1 : out = ys := srt_perm h2 H.out.p.q.q.s1 (h3.trans H.out.pl)
        subst e1
        obtain ⟨A, c, rfl, _, _⟩ := h4.shape
        exact ⟨A, c, h1, h4.evs, h5⟩
      have S2 : Hid (∀ W, Fresh wC W → Calls Try.prog 47 #[u2] W fun e w' => ∃ A c, e = .returned (.slice A zs.length c) ∧ EvAt w' (.slice A zs.length c) zs ∧ Fresh W w') := Lib.hid fun W f => (sort_any u2 B W (H.out.p.r.own2.fresh (FA.out.step f (fun _ _ h => h))).evs (by omega)).mono fun e w' ⟨v', out, h1, h2, h3, h4, h5, _⟩ => by
        have e1 : out = zs := srt_perm h2 H.out.p.q.q.s2 (h3.trans H.out.pm)
        subst e1
        obtain ⟨A, c, rfl, _, _⟩ := h4.shape
        exact ⟨A, c, h1, h4.evs, h5⟩
      have RB : Hid (∀ W, Fresh wC W → Blk W gr 61 #[u1, u2]) := Lib.hid fun W f => (H.out.p.r.fresh (FA.out.step f (fun _ _ h => h))).blk
      have RL : Hid (gr < wC.heap.size) := Lib.hid (RB.out wC (Keep.refl _ _)).lt
      have E7 := Lib.hid O7.out.evs
      have E9 := Lib.hid O9.out.evs
      obtain ⟨Au1, cu1, rfl, _, _⟩ := H.out.p.r.own1.shape
      obtain ⟨Au2, cu2, rfl, _, _⟩ := H.out.p.r.own2.shape
      obtain ⟨z, hz⟩ : ∃ z, lateV ys = z := ⟨_, rfl⟩
      obtain ⟨b, hb⟩ : ∃ b, (lateL ys).isSome = b := ⟨_, rfl⟩
      unfold LateP at HL
      rw [hz, hb] at HL
      rw [hz] at HRL
      rw [hb] at LS
      unfold Ev.val at HL HRL
      have EV1 : Hid (∀ (W : World) (A A' : Option Addr) (c c' : Nat), EvAt W (.slice A ys.length c) ys → EvAt W (.slice A' ys.length c') ys → Calls Try.prog 26 #[.slice A ys.length c, .slice A' ys.length c'] W fun e w' => e = .returned (.bool true) ∧ Fresh W w') := Lib.hid fun W A A' c c' ha hb => (events_any _ _ _ _ W ha hb (by omega) (by omega)).mono fun e w' ⟨h1, h2⟩ => ⟨by rw [h1]; simp, h2⟩
      have EV2 : Hid (∀ (W : World) (A A' : Option Addr) (c c' : Nat), EvAt W (.slice A zs.length c) zs → EvAt W (.slice A' zs.length c') zs → Calls Try.prog 26 #[.slice A zs.length c, .slice A' zs.length c'] W fun e w' => e = .returned (.bool true) ∧ Fresh W w') := Lib.hid fun W A A' c c' ha hb => (events_any _ _ _ _ W ha hb (by omega) (by omega)).mono fun e w' ⟨h1, h2⟩ => ⟨by rw [h1]; simp, h2⟩
      clear hz hb H hL hB hb1 hb2 O7 O9 hl hm hk
      obtain ⟨n1, hn1⟩ : ∃ n1, ys.length = n1 := ⟨_, rfl⟩
      obtain ⟨n2, hn2⟩ : ∃ n2, zs.length = n2 := ⟨_, rfl⟩
      rw [hn1] at LS HLN S1 E7 EV1 B7
      rw [hn2] at HLN S2 E9 EV2 B9
      clear hn1 hn2
      have c7 := B7.out.cell
      have c9' := B9.out.cell
      go_wp2_with fail
      refine HL.out.mono ?_
      rintro e w5 ⟨rfl, f5⟩
      have F5 := Lib.hid f5
      have FA5 : Hid (Fresh wC (w5.alloc (.cells #[.int .i64 z.a, .int .i64 z.s, .int .i64 z.t, .int .i64 z.n, .int .i64 z.d, .int .i64 z.k, .int .i64 z.x] 25))) := Lib.hid (f5.alloc _)
      have B11 := Lib.hid (Blk.new w5 25 #[.int .i64 z.a, .int .i64 z.s, .int .i64 z.t, .int .i64 z.n, .int .i64 z.d, .int .i64 z.k, .int .i64 z.x])
      clear f5 c7 c9'
      go_wp2_with fail
      refine (HLN.out _ FA5.out).mono ?_
      rintro e w6 ⟨rfl, f6⟩
      have F6 := Lib.hid (FA5.out.step f6 (fun _ _ h => h))
      have B11 := Lib.hid (f6.blk_ B11.out)
      clear f6
      have HX := Lib.hid (show ∀ W, Fresh w6 W → Fresh wC W from fun W f => F6.out.step f (fun _ _ h => h))
      have k7 := fun (W : World) (f : Fresh w6 W) (i : Nat) => ((HX.out W f).blk_ B7.out).cell i
      have k9 := fun (W : World) (f : Fresh w6 W) (i : Nat) => ((HX.out W f).blk_ B9.out).cell i
      have kR := fun (W : World) (f : Fresh w6 W) (i : Nat) => (RB.out W (HX.out W f)).cell i
      have k11 := fun (W : World) (f : Fresh w6 W) (i : Nat) => (Fresh.blk_ f B11.out).cell i
      rcases LS.out with ⟨rfl, hp⟩ | ⟨rfl, hp⟩
      · have hd : decide ((0 : Int) < (n1 : Int)) = true := decide_eq_true (by omega)
        have hd2 : decide (0 < n1) = true := decide_eq_true hp
        go_wp2_with fail
        go_region_held3 (fun W' => Fresh w6 W') (exact (fun (f : Fresh w6 _) => f) (by (repeat (first | (with_reducible exact Keep.refl _ _) | (with_reducible assumption) | (with_reducible refine Keep.drew ?_) | (with_reducible refine Keep.drewN ?_ _) | (with_reducible refine Keep.alloc ?_ _) | (with_reducible refine Keep.setCell ?_ ?_ _) | (with_reducible refine fun _ => rfl)))))
          ((first
            | (go_at_call 47; (with_reducible refine (S1.out _ (HX.out _ (by (repeat (first | (with_reducible exact Keep.refl _ _) | (with_reducible assumption) | (with_reducible refine Keep.drew ?_) | (with_reducible refine Keep.drewN ?_ _) | (with_reducible refine Keep.alloc ?_ _) | (with_reducible refine Keep.setCell ?_ ?_ _) | (with_reducible refine fun _ => rfl)))))).mono ?_); rintro e1 y1 ⟨A1, d1, rfl, o1, f1⟩; have f1 := Keep.step (S := fun _ => False) (by (repeat (first | (with_reducible exact Keep.refl _ _) | (with_reducible assumption) | (with_reducible refine Keep.drew ?_) | (with_reducible refine Keep.drewN ?_ _) | (with_reducible refine Keep.alloc ?_ _) | (with_reducible refine Keep.setCell ?_ ?_ _) | (with_reducible refine fun _ => rfl))) : Fresh w6 _) f1 (fun _ _ h => h))
            | (go_at_call 26; (with_reducible refine (EV1.out _ _ _ _ _ (E7.out.fresh (HX.out _ f1)) o1).mono ?_); rintro e2 y2 ⟨rfl, f2⟩; have f2 := Keep.step (S := fun _ => False) (by (repeat (first | (with_reducible exact Keep.refl _ _) | (with_reducible assumption) | (with_reducible refine Keep.drew ?_) | (with_reducible refine Keep.drewN ?_ _) | (with_reducible refine Keep.alloc ?_ _) | (with_reducible refine Keep.setCell ?_ ?_ _) | (with_reducible refine fun _ => rfl))) : Fresh w6 _) f2 (fun _ _ h => h))
            | (go_at_call 47; (with_reducible refine (S2.out _ (HX.out _ (by (repeat (first | (with_reducible exact Keep.refl _ _) | (with_reducible assumption) | (with_reducible refine Keep.drew ?_) | (with_reducible refine Keep.drewN ?_ _) | (with_reducible refine Keep.alloc ?_ _) | (with_reducible refine Keep.setCell ?_ ?_ _) | (with_reducible refine fun _ => rfl)))))).mono ?_); rintro e3 y3 ⟨A3, d3, rfl, o3, f3⟩; have f3 := Keep.step (S := fun _ => False) (by (repeat (first | (with_reducible exact Keep.refl _ _) | (with_reducible assumption) | (with_reducible refine Keep.drew ?_) | (with_reducible refine Keep.drewN ?_ _) | (with_reducible refine Keep.alloc ?_ _) | (with_reducible refine Keep.setCell ?_ ?_ _) | (with_reducible refine fun _ => rfl))) : Fresh w6 _) f3 (fun _ _ h => h))
            | (go_at_call 26; (with_reducible refine (EV2.out _ _ _ _ _ (E9.out.fresh (HX.out _ f3)) o3).mono ?_); rintro e4 y4 ⟨rfl, f4⟩; have f4 := Keep.step (S := fun _ => False) (by (repeat (first | (with_reducible exact Keep.refl _ _) | (with_reducible assumption) | (with_reducible refine Keep.drew ?_) | (with_reducible refine Keep.drewN ?_ _) | (with_reducible refine Keep.alloc ?_ _) | (with_reducible refine Keep.setCell ?_ ?_ _) | (with_reducible refine fun _ => rfl))) : Fresh w6 _) f4 (fun _ _ h => h))
            | (go_at_call 48; (with_reducible refine (HRL.out _ (HX.out _ (by (repeat (first | (with_reducible exact Keep.refl _ _) | (with_reducible assumption) | (with_reducible refine Keep.drew ?_) | (with_reducible refine Keep.drewN ?_ _) | (with_reducible refine Keep.alloc ?_ _) | (with_reducible refine Keep.setCell ?_ ?_ _) | (with_reducible refine fun _ => rfl)))))).mono ?_); rintro e5 y5 ⟨rfl, f5⟩; have f5 := Keep.step (S := fun _ => False) (by (repeat (first | (with_reducible exact Keep.refl _ _) | (with_reducible assumption) | (with_reducible refine Keep.drew ?_) | (with_reducible refine Keep.drewN ?_ _) | (with_reducible refine Keep.alloc ?_ _) | (with_reducible refine Keep.setCell ?_ ?_ _) | (with_reducible refine fun _ => rfl))) : Fresh w6 _) f5 (fun _ _ h => h))))
        have FE := Lib.hid (FA.out.step (HX.out _ f5) (fun _ _ h => h))
        have G2 := Lib.hid ((HX.out _ f5).block D2 hD2l (fun h => h) |>.trans HK2.out)
        have G1 := Lib.hid ((HX.out _ f5).block D (Nat.lt_of_lt_of_le hDl (by omega)) (fun h => h) |>.trans HK1.out)
        clear f1 f2 f3 f4 f5 o1 o3
        go_wp2_with fail
        refine ⟨by simp, .inl ⟨_, _, rfl, run_takeDeferred G2.out, ?_⟩⟩
        have h1 := FE.out.size
        have szF6 := F6.out.size
        have hn : D ≠ D2 := by omega
        have h2 := grownBy_putObj' y5 D2 (.deferred none)
        have G3 : (y5.putObj D2 (.deferred none)).heap[D]? = some (.deferred (some [])) := (h2.block D ((Array.getElem?_eq_some_iff.1 G1.out).1) (fun e => hn (Option.some.inj e))).trans G1.out
        have h3 := ownFrom_fresh (β := Unit) (Nat.le_refl w0.heap.size) () _ _ _ FE.out h2 (fun r e => by cases e; refine ⟨?_, _, G2.out, rfl⟩; have := F2.out.size; omega)
        refine ⟨by simp, .inl ⟨_, _, rfl, run_takeDeferred G3, ?_⟩⟩
        have h4 := ownFrom_fresh (β := Unit) (Nat.le_refl w0.heap.size) () _ _ _ h3 (grownBy_putObj' _ D (.deferred none)) (fun r e => by cases e; refine ⟨?_, _, G3, rfl⟩; have := F2.out.size; omega)
        exact ⟨_, results_tmp rfl _ _ _, rfl, h4⟩
      · have hd : decide ((0 : Int) < (n1 : Int)) = false := decide_eq_false (by omega)
        have hd2 : decide (0 < n1) = false := decide_eq_false (by omega)
        clear hp
        go_wp2_with fail
        go_region_held3 (fun W' => Fresh w6 W') (exact (fun (f : Fresh w6 _) => f) (by (repeat (first | (with_reducible exact Keep.refl _ _) | (with_reducible assumption) | (with_reducible refine Keep.drew ?_) | (with_reducible refine Keep.drewN ?_ _) | (with_reducible refine Keep.alloc ?_ _) | (with_reducible refine Keep.setCell ?_ ?_ _) | (with_reducible refine fun _ => rfl)))))
          ((first
            | (go_at_call 47; (with_reducible refine (S1.out _ (HX.out _ (by (repeat (first | (with_reducible exact Keep.refl _ _) | (with_reducible assumption) | (with_reducible refine Keep.drew ?_) | (with_reducible refine Keep.drewN ?_ _) | (with_reducible refine Keep.alloc ?_ _) | (with_reducible refine Keep.setCell ?_ ?_ _) | (with_reducible refine fun _ => rfl)))))).mono ?_); rintro e1 y1 ⟨A1, d1, rfl, o1, f1⟩; have f1 := Keep.step (S := fun _ => False) (by (repeat (first | (with_reducible exact Keep.refl _ _) | (with_reducible assumption) | (with_reducible refine Keep.drew ?_) | (with_reducible refine Keep.drewN ?_ _) | (with_reducible refine Keep.alloc ?_ _) | (with_reducible refine Keep.setCell ?_ ?_ _) | (with_reducible refine fun _ => rfl))) : Fresh w6 _) f1 (fun _ _ h => h))
            | (go_at_call 26; (with_reducible refine (EV1.out _ _ _ _ _ (E7.out.fresh (HX.out _ f1)) o1).mono ?_); rintro e2 y2 ⟨rfl, f2⟩; have f2 := Keep.step (S := fun _ => False) (by (repeat (first | (with_reducible exact Keep.refl _ _) | (with_reducible assumption) | (with_reducible refine Keep.drew ?_) | (with_reducible refine Keep.drewN ?_ _) | (with_reducible refine Keep.alloc ?_ _) | (with_reducible refine Keep.setCell ?_ ?_ _) | (with_reducible refine fun _ => rfl))) : Fresh w6 _) f2 (fun _ _ h => h))
            | (go_at_call 47; (with_reducible refine (S2.out _ (HX.out _ (by (repeat (first | (with_reducible exact Keep.refl _ _) | (with_reducible assumption) | (with_reducible refine Keep.drew ?_) | (with_reducible refine Keep.drewN ?_ _) | (with_reducible refine Keep.alloc ?_ _) | (with_reducible refine Keep.setCell ?_ ?_ _) | (with_reducible refine fun _ => rfl)))))).mono ?_); rintro e3 y3 ⟨A3, d3, rfl, o3, f3⟩; have f3 := Keep.step (S := fun _ => False) (by (repeat (first | (with_reducible exact Keep.refl _ _) | (with_reducible assumption) | (with_reducible refine Keep.drew ?_) | (with_reducible refine Keep.drewN ?_ _) | (with_reducible refine Keep.alloc ?_ _) | (with_reducible refine Keep.setCell ?_ ?_ _) | (with_reducible refine fun _ => rfl))) : Fresh w6 _) f3 (fun _ _ h => h))
            | (go_at_call 26; (with_reducible refine (EV2.out _ _ _ _ _ (E9.out.fresh (HX.out _ f3)) o3).mono ?_); rintro e4 y4 ⟨rfl, f4⟩; have f4 := Keep.step (S := fun _ => False) (by (repeat (first | (with_reducible exact Keep.refl _ _) | (with_reducible assumption) | (with_reducible refine Keep.drew ?_) | (with_reducible refine Keep.drewN ?_ _) | (with_reducible refine Keep.alloc ?_ _) | (with_reducible refine Keep.setCell ?_ ?_ _) | (with_reducible refine fun _ => rfl))) : Fresh w6 _) f4 (fun _ _ h => h))
            | (go_at_call 48; (with_reducible refine (HRL.out _ (HX.out _ (by (repeat (first | (with_reducible exact Keep.refl _ _) | (with_reducible assumption) | (with_reducible refine Keep.drew ?_) | (with_reducible refine Keep.drewN ?_ _) | (with_reducible refine Keep.alloc ?_ _) | (with_reducible refine Keep.setCell ?_ ?_ _) | (with_reducible refine fun _ => rfl)))))).mono ?_); rintro e5 y5 ⟨rfl, f5⟩; have f5 := Keep.step (S := fun _ => False) (by (repeat (first | (with_reducible exact Keep.refl _ _) | (with_reducible assumption) | (with_reducible refine Keep.drew ?_) | (with_reducible refine Keep.drewN ?_ _) | (with_reducible refine Keep.alloc ?_ _) | (with_reducible refine Keep.setCell ?_ ?_ _) | (with_reducible refine fun _ => rfl))) : Fresh w6 _) f5 (fun _ _ h => h))))
        have FE := Lib.hid (FA.out.step (HX.out _ f5) (fun _ _ h => h))
        have G2 := Lib.hid ((HX.out _ f5).block D2 hD2l (fun h => h) |>.trans HK2.out)
        have G1 := Lib.hid ((HX.out _ f5).block D (Nat.lt_of_lt_of_le hDl (by omega)) (fun h => h) |>.trans HK1.out)
        clear f1 f2 f3 f4 f5 o1 o3
        go_wp2_with fail
        refine ⟨by simp, .inl ⟨_, _, rfl, run_takeDeferred G2.out, ?_⟩⟩
        have h1 := FE.out.size
        have szF6 := F6.out.size
        have hn : D ≠ D2 := by omega
        have h2 := grownBy_putObj' y5 D2 (.deferred none)
        have G3 : (y5.putObj D2 (.deferred none)).heap[D]? = some (.deferred (some [])) := (h2.block D ((Array.getElem?_eq_some_iff.1 G1.out).1) (fun e => hn (Option.some.inj e))).trans G1.out
        have h3 := ownFrom_fresh (β := Unit) (Nat.le_refl w0.heap.size) () _ _ _ FE.out h2 (fun r e => by cases e; refine ⟨?_, _, G2.out, rfl⟩; have := F2.out.size; omega)
        refine ⟨by simp, .inl ⟨_, _, rfl, run_takeDeferred G3, ?_⟩⟩
        have h4 := ownFrom_fresh (β := Unit) (Nat.le_refl w0.heap.size) () _ _ _ h3 (grownBy_putObj' _ D (.deferred none)) (fun r e => by cases e; refine ⟨?_, _, G3, rfl⟩; have := F2.out.size; omega)
        exact ⟨_, results_tmp rfl _ _ _, rfl, h4⟩
end Go.Proofs.Ytecobebndjnhnaa
