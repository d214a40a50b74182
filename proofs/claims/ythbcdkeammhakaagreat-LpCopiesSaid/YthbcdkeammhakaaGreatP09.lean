/- Chapter 13: PBatch. -/
import Derived.Test.YthbcdkeammhakaaGreatP06
set_option maxRecDepth 100000
set_option maxHeartbeats 16000000
namespace Go.Proofs.YthbcdkeammhakaaGreat
open Go.RowKit Go.Shelf
attribute [local go_sem] Oper.semAt_some
attribute [local go_sem ↓] Go.wp_at_zero Go.wp_at_succ
def PInv (c : Ev → Bool) (b0 : Int) (w : World) (pre : List Ev) (W : World) : Prop :=
 ((∃ v, Blk W (w.heap.size + 1) 24 #[v] ∧ OwnS W 41 7 v (pre.filter c).length (cells (pre.filter c)) ∧ ∀ k, v.ownBlock = some k → w.heap.size ≤ k) ∧ Blk W w.heap.size 3 #[.int .i64 b0]) ∧ Fresh w W
theorem pInv_own (c : Ev → Bool) (b0 : Int) (w : World) (B : Nat) (hB : w.heap.size ≤ B) : OwnFrom B (PInv c b0 w) := by
 intro pre X Y row hs hg hr
 obtain ⟨⟨⟨v, h1, h2, h3⟩, h5⟩, h4⟩ := hs
 have hr' : ∀ r, row = some r → ∃ o : Obj, X.heap[r]? = some o ∧ o.isCells = false := fun r e => (hr r e).2
 exact ⟨⟨⟨v, blk_grown h1 hg hr', ownS_grown h2 hg hr', h3⟩, blk_grown h5 hg hr'⟩, ownFrom_fresh (β := Unit) hB () X Y row h4 hg hr⟩
def DropP (g : Nat) (v1 v2 : Value) (l m : List Ev) (b0 : Int) (w : World) (e : Ending) (w' : World) : Prop :=
 ∃ v' v1', e = .returned v' ∧ OwnS w' 41 7 v' (l.filter (fun y => decide (y.a < b0))).length (cells (l.filter (fun y => decide (y.a < b0)))) ∧ SQ w' g v1' v2 (l.drop (l.filter (fun y => decide (y.a < b0))).length) m ∧ Turn w w' g v1 v2 v1' v2 ∧ ∀ k, v'.ownBlock = some k → w.heap.size ≤ k
theorem del_head (v : Value) (k : Nat) (l : List Ev) (w : World) (ho : OwnS w 41 7 v l.length (cells l)) (hk : k ≤ l.length) (hl : l.length ≤ 1000000) :
  Calls Tryz.prog 110 #[v, .int .i64 0, .int .i64 (k : Nat)] w fun e w' => ∃ A' cap', e = .returned (.slice A' (l.drop k).length cap') ∧ OwnS w' 41 7 (.slice A' (l.drop k).length cap') (l.drop k).length (cells (l.drop k)) ∧ Keep (fun i => v.ownBlock = some i) w w' ∧ ∀ i, (Value.slice A' (l.drop k).length cap').ownBlock = some i → v.ownBlock = some i := by
 by_cases h0 : k = 0
 ·subst h0
  obtain ⟨A, cap, rfl, hnc, hmc⟩ := ho.shape
  refine (del_same A l.length cap 0 w (Nat.zero_le _) hnc (by unfold maxLen at hmc; omega)).mono ?_
  rintro e w' ⟨rfl, f⟩
  exact ⟨A, cap, by rw [List.drop_zero], by rw [List.drop_zero]; exact ho.fresh f, f.more (fun _ _ h => h.elim), fun i hi => by rw [List.drop_zero] at hi; exact hi⟩
 ·obtain ⟨g', off, cap, rfl, _⟩ := ho.form (by omega)
  refine (del_j g' off cap 0 k l w ho (by omega) hk hl).mono ?_
  rintro e w' ⟨rfl, o, kp⟩
  have hd : 0 + (l.length - k) = (l.drop k).length := by simp
  rw [hd, List.take_zero, List.nil_append] at o
  exact ⟨_, cap, by rw [hd], o, kp.more (fun i _ h => by simp [Value.ownBlock, h]), fun i hi => hi⟩
def normOnly (K : Act → World → Prop) : Exit → Act → World → Prop
 | .normal, a, w => K a w
 | _, _, _ => False
theorem Fresh.pre_ {w W w' : World} {S : Nat → Prop} (f : Fresh w W) (k : Keep S W w') : Keep S w w' := (f.more (fun _ _ h => h.elim)).trans k
theorem SQ.grown {X Y : World} {row : Option Nat} {g : Nat} {v1 v2 : Value} {l m : List Ev} (h : SQ X g v1 v2 l m) (hg : X.grownBy Y row) (hr : ∀ r, row = some r → ∃ o : Obj, X.heap[r]? = some o ∧ o.isCells = false) : SQ Y g v1 v2 l m :=
 ⟨blk_grown h.blk hg hr, ownS_grown h.own1 hg hr, ownS_grown h.own2 hg hr, h.s1, h.s2, h.n1, h.n2, h.n12⟩
theorem Turn.grown {w X Y : World} {row : Option Nat} {g : Nat} {v1 v2 v1' v2' : Value} (h : Turn w X g v1 v2 v1' v2') (hg : X.grownBy Y row) (hr : ∀ r, row = some r → w.heap.size ≤ r) : Turn w Y g v1 v2 v1' v2' :=
 ⟨⟨hg.os.trans h.keep.os, hg.tape.trans h.keep.tape, hg.output.trans h.keep.output, Nat.le_trans h.keep.size hg.size, fun k hk hs =>
  (hg.block k (Nat.lt_of_lt_of_le hk h.keep.size) (fun e => by have := hr k e.symm; omega)).trans (h.keep.block k hk hs)⟩, h.later⟩
theorem filt_snoc (c : Ev → Bool) (pre : List Ev) (y : Ev) : (pre ++ [y]).filter c = pre.filter c ++ (if c y then [y] else []) := by
 rw [List.filter_append]
 congr 1
 cases h : c y <;> simp [List.filter, h]
theorem batch_any (g : Nat) (v1 v2 : Value) (l m : List Ev) (b0 : Int) (w : World) (h : SQ w g v1 v2 l m) (hl : l.length ≤ 100000) :
  Calls Tryz.prog 89 #[.pointer (some ⟨g, 0, none⟩), .int .i64 b0] w (ListedP (l.filter (fun y => y.a == b0)) w) := by
 obtain ⟨c, hcd⟩ : ∃ c : Ev → Bool, c = fun y => (y.a == b0) := ⟨_, rfl⟩
 have hcy : ∀ y : Ev, c y = (y.a == b0) := fun y => by rw [hcd]
 have HQ := Lib.hid h
 have HNL : Hid (∀ i, w.heap.size ≤ i → v1.ownBlock ≠ some i) := Lib.hid fun i hi he => by have := h.own1.lt he; omega
 have hbk : bk v1 < w.heap.size := by
  unfold bk
  cases hv : v1.ownBlock with
  | none => have := h.blk.lt; simp; omega
  | some k => simpa using h.own1.lt hv
 obtain ⟨A, cap, rfl, hnc, hmc⟩ := h.own1.shape
 have HO := Lib.hid h.own1
 have HE := Lib.hid (fun (W : World) (f : Fresh w W) => each_any g 0 A l.length cap W ((h.fresh f).blk.cell_ 0 rfl))
 obtain ⟨i0, hi, hz0, hz1, hz2⟩ := info_parts info_ev
 have HCD := Lib.hid hcd
 clear h hcd
 refine (callsIn_wide (n := 6)).1 ?_
 refine callsIn_of_wp_marks Tryz.func89 rfl trivial ?_ rfl
 simp only [Tryz.ntmps89, List.size_toArray, List.length_cons, List.length_nil, Nat.reduceAdd, Nat.reduceSub, Array.replicate_succ, Array.replicate_zero, List.push_toArray, List.append_toArray, List.nil_append, List.cons_append]
 refine wpIn_wide.2 ?_
 go_wp2_with (go_at_call 109; (with_reducible refine (HE.out _ (by (repeat (first | (with_reducible exact Keep.refl _ _) | (with_reducible assumption) | (with_reducible refine Keep.drew ?_) | (with_reducible refine Keep.drewN ?_ _) | (with_reducible refine Keep.alloc ?_ _) | (with_reducible refine Keep.setCell ?_ ?_ _) | (with_reducible refine fun _ => rfl))))).mono ?_); rintro e w1 ⟨b1, rfl, B1, N1, F1⟩)
 have E1 := F1.blk_ ((Blk.new w 3 #[.int .i64 b0]).alloc (.cells #[.slice none 0 0] 24))
 have M0 : Blk ((w.alloc (.cells #[.int .i64 b0] 3)).alloc (.cells #[.slice none 0 0] 24)) (w.heap.size + 1) 24 #[.slice none 0 0] := Blk.at_new (by simp) _ _
 have M1 := F1.blk_ M0
 clear M0
 have G1 : Fresh w w1 := (((Keep.refl _ w).alloc _).alloc _).step F1 (fun _ _ h => h)
 have KB := Lib.hid B1
 have KE := Lib.hid E1
 have KM := Lib.hid M1
 have KG := Lib.hid G1
 have szF := G1.size
 have szM := M1.lt
 simp only [seqV]
 clear F1 B1 E1 M1 G1 N1 HE
 refine (wpIn_wide (n := 6)).1 ?_
 refine wpIn_rangeFunc_ownH rfl (by omega) (gf := 143) (lb := #[.pointer (some ⟨b1, 0, none⟩)]) rfl trivial (enters_of Tryz.func143 (by kernel_rfl) rfl)
  (vals_stops Fence.wide (6 - 1) trivial rfl (by omega) b1 (.slice A l.length cap) l (by omega) w1 KB.out (HO.out.fresh KG.out)) keepsB_t keepsB_b (Below.refl _ _) (fun _ => rfl)
  (PInv c b0 w) (fun _ _ _ => False) (pInv_own c b0 w _ (by omega)) (fun _ _ _ _ _ hs _ _ => hs)
  ⟨⟨⟨.slice none 0 0, KM.out, OwnS.nil _ _ _, fun k hk => by simp [Value.ownBlock] at hk⟩, KE.out⟩, KG.out⟩
  (fun y a' W => ∃ Bx, Blk W Bx 41 #[.int .i64 y.a, .int .i64 y.s, .int .i64 y.t, .int .i64 y.n, .int .i64 y.d, .int .i64 y.k, .int .i64 y.x] ∧ a' = { tmps := #[.pointer (some ⟨g, 0, none⟩), .int .i64 b0, undef, .pointer (some ⟨w.heap.size, 0, none⟩), .slice none 0 0, .pointer (some ⟨w.heap.size + 1, 0, none⟩), .pointer (some ⟨Bx, 0, none⟩), .pointer (some ⟨g, 0, none⟩), .bool false, .pointer (some ⟨g, 0, none⟩), .pointer (some ⟨g, 0, none⟩), .pointer (some ⟨g, 0, none⟩), .pointer (some ⟨g, 0, none⟩), .func (.func 143) #[] #[.pointer (some ⟨b1, 0, none⟩)], .agg #[.int .i64 y.a, .int .i64 y.s, .int .i64 y.t, .int .i64 y.n, .int .i64 y.d, .int .i64 y.k, .int .i64 y.x], undef, undef, undef, undef, undef, undef, undef, undef, undef, undef], defers := [] }) ?ax ?assign ?body ?done ?stop
 case ax =>
  rintro x a' u X Y row ⟨Bx, h2, h3⟩ hg hr
  exact ⟨Bx, blk_grown h2 hg (fun r e => (hr r e).2), h3⟩
 case assign =>
  rintro lp pre y W K ⟨⟨⟨v2, b2, o2, n2⟩, e2⟩, f2⟩ hK
  unfold enc Ev.val
  gi_wp2
  exact hK _ _ ((KeepsOthers.alloc _ _).from _) ((KeepsB.refl _ _ _).alloc _) ⟨⟨⟨v2, b2.alloc _, o2.alloc _, n2⟩, e2.alloc _⟩, f2.alloc _⟩ ⟨W.heap.size, Blk.new W _ _, rfl⟩
 case body =>
  rintro lp pre y a' W hlp hrec ⟨⟨⟨v2, b2, o2, n2⟩, e2⟩, f2⟩ ⟨Bx, bx, rfl⟩ hlt
  obtain ⟨A2, cap2, rfl, _, _⟩ := o2.shape
  have hfl : (pre.filter c).length ≤ pre.length := List.length_filter_le _ _
  have cX := bx.cell
  have cE := e2.cell
  have ne2 := o2.ne_blk b2 (by decide)
  have neE := o2.ne_blk e2 (by decide)
  have hL1 := Lib.hid (show (pre.filter c).length + 1 ≤ maxLen from one_le_maxLen (by omega))
  have hL2 := Lib.hid (show ((pre.filter c).length + 1) * 56 ≤ 140737488355328 by omega)
  have HFL := Lib.hid (filt_snoc c pre y)
  obtain ⟨P, hP⟩ : ∃ P, pre.filter c = P := ⟨_, rfl⟩
  rw [hP] at b2 o2 n2 ne2 neE hL1 hL2 HFL
  clear hP hfl
  have c2 := b2.cell
  have r2 := b2.frozen
  have l2 := b2.lt
  have HC : Hid (Src (W.alloc (.cells #[.int .i64 y.a, .int .i64 y.s, .int .i64 y.t, .int .i64 y.n, .int .i64 y.d, .int .i64 y.k, .int .i64 y.x] 41)) 7 (.slice (some ⟨W.heap.size, 0, none⟩) 1 1) 1 (cells [y])) := Src.one_new W 41 7 #[.int .i64 y.a, .int .i64 y.s, .int .i64 y.t, .int .i64 y.n, .int .i64 y.d, .int .i64 y.k, .int .i64 y.x] rfl
  have h07 : Hid (0 < 7) := Lib.hid (by omega)
  have U1 := Lib.hid b2
  have U2 := Lib.hid o2
  have U3 := Lib.hid n2
  have U4 := Lib.hid f2
  have U5 := Lib.hid ne2
  have U6 := Lib.hid e2
  have U7 := Lib.hid neE
  have hq0 : Hid (c y = (y.a == b0)) := Lib.hid (hcy y)
  clear hcy
  clear b2 o2 n2 f2 ne2 e2 neE bx hrec
  cases hq : c y
  ·rw [hq] at HFL
   have hq1 : ((y.a == b0)) = false := hq0.out.symm.trans hq
   clear hq hq0
   gi_wp2_with fail
   refine ⟨(keepsOthers_of_keep (S := fun _ => False) (Keep.refl _ W) (fun _ _ h => h.elim)).from _, KeepsB.refl _ _ _, ⟨⟨_, U1.out, ?_, U3.out⟩, U6.out⟩, U4.out⟩
   rw [HFL.out]
   simpa using U2.out
  ·rw [hq] at HFL
   have hq1 : ((y.a == b0)) = true := hq0.out.symm.trans hq
   clear hq hq0
   gi_wp2_with (gi_at_builtin; refine wpListIn_append_OwnS _ rfl _ _ 24 rfl 41 i0 _ 7 56 Tryz.underlying24 hi hz0 hz1 hz2 rfl h07.out (.slice A2 P.length cap2) P.length (cells P) rfl (U2.out.alloc _) (.slice (some ⟨W.heap.size, 0, none⟩) 1 1) 1 (cells [y]) rfl HC.out (cells_one _) hL1.out hL2.out ?_; intro v3 w3 o3 k3 n3; obtain ⟨A3, cap3, rfl, _, _⟩ := o3.shape; have b3 := (U1.out.alloc (.cells #[.int .i64 y.a, .int .i64 y.s, .int .i64 y.t, .int .i64 y.n, .int .i64 y.d, .int .i64 y.k, .int .i64 y.x] 41)).keep k3 U5.out; have e3 := (U6.out.alloc (.cells #[.int .i64 y.a, .int .i64 y.s, .int .i64 y.t, .int .i64 y.n, .int .i64 y.d, .int .i64 y.k, .int .i64 y.x] 41)).keep k3 U7.out; have c3 := b3.cell; have r3 := b3.frozen; have l3 := b3.lt; have V1 := Lib.hid b3; have V2 := Lib.hid o3; have V3 := Lib.hid k3; have V4 := Lib.hid n3; have V6 := Lib.hid e3; clear b3 o3 k3 n3 e3)
   have K1 : Keep (fun k => k = w.heap.size + 1 ∨ (Value.slice A2 P.length cap2).ownBlock = some k) W (w3.setCell ⟨w.heap.size + 1, 0, none⟩ (.slice A3 (P.length + 1) cap3)) :=
    (((Keep.refl _ W).alloc _).step V3.out (fun _ _ h => .inr h)).setCell (p := ⟨w.heap.size + 1, 0, none⟩) (fun _ => .inl rfl) _
   refine ⟨(keepsOthers_of_keep K1 ?_).from _, KeepsB.of_keep' K1 ?_, ⟨⟨.slice A3 (P.length + 1) cap3, V1.out.set_ 0 _, ?_, ?_⟩, ?_⟩, ?_⟩
   ·rintro k o (rfl | hk) ho
    ·exact blk_isCells U1.out ho
    ·exact own_isCells U2.out hk ho
   ·rintro cur hcur (h | h)
    ·rw [h] at hcur
     have := U1.out
     unfold Blk at this
     rw [this] at hcur
     cases hcur
    ·have := U3.out _ h; omega
   ·have := V2.out.far (p := ⟨w.heap.size + 1, 0, none⟩) (V2.out.ne_blk V1.out (by decide)) (.slice A3 (P.length + 1) cap3)
    rw [HFL.out]
    simp only [if_true, List.length_append, cells_append, List.length_cons, List.length_nil, Nat.zero_add]
    exact this
   ·intro k hk
    rcases V4.out k hk with h | h
    ·exact U3.out k h
    ·have := U4.out.size
     simp at h
     omega
   ·exact V6.out.keep (Keep.setCell (S := fun k => k = w.heap.size + 1) (Keep.refl _ w3) (p := ⟨w.heap.size + 1, 0, none⟩) (fun _ => rfl) _) (by omega)
   ·exact U4.out.step K1 (by
     rintro k hk (h | h)
     ·omega
     ·have := U3.out k h; omega)
 case done =>
  rintro D ys W hD rfl hI hK
  obtain ⟨⟨⟨v2, b2, o2, n2⟩, e2⟩, f2⟩ := hI
  have hDl := (Array.getElem?_eq_some_iff.1 hK).1
  have hr : ∀ r, some D = some r → ∃ o : Obj, W.heap[r]? = some o ∧ o.isCells = false := fun r e => by cases e; exact ⟨_, hK, rfl⟩
  have o3 := ownS_grown o2 (grownBy_putObj' W D (.deferred none)) hr
  have f3 := ownFrom_fresh (β := Unit) (show w.heap.size ≤ w1.heap.size by omega) () W _ _ f2 (grownBy_putObj' W D (.deferred none)) (fun r e => by cases e; exact ⟨hD, _, hK, rfl⟩)
  have c2 := b2.cell
  obtain ⟨A2, cap2, rfl, _, _⟩ := o2.shape
  have l2 := b2.lt
  have U1 := Lib.hid o3
  have U2 := Lib.hid f3
  have U3 := Lib.hid n2
  clear b2 o2 n2 f2 o3 f3 e2
  go_wp2_with fail
  refine ⟨by simp, .inl ⟨_, _, rfl, run_takeDeferred hK, ?_⟩⟩
  have hc := HCD.out
  subst hc
  exact ⟨_, results_tmp rfl _ _ _, .slice A2 (List.filter (fun y => y.a == b0) ys).length cap2, rfl, U1.out, U2.out, U3.out⟩
 case stop =>
  rintro D c pre W _ _ h _
  exact h.elim
theorem drop_any (g : Nat) (v1 v2 : Value) (l m : List Ev) (b0 : Int) (w : World) (h : SQ w g v1 v2 l m) (hl : l.length ≤ 100000) :
  Calls Tryz.prog 63 #[.pointer (some ⟨g, 0, none⟩), .int .i64 b0] w (DropP g v1 v2 l m b0 w) := by
 obtain ⟨c, hcd⟩ : ∃ c : Ev → Bool, c = fun y => decide (y.a < b0) := ⟨_, rfl⟩
 have hcy : ∀ y : Ev, c y = decide (y.a < b0) := fun y => by rw [hcd]
 have HQ := Lib.hid h
 have HNL : Hid (∀ i, w.heap.size ≤ i → v1.ownBlock ≠ some i) := Lib.hid fun i hi he => by have := h.own1.lt he; omega
 have hbk : bk v1 < w.heap.size := by
  unfold bk
  cases hv : v1.ownBlock with
  | none => have := h.blk.lt; simp; omega
  | some k => simpa using h.own1.lt hv
 obtain ⟨A, cap, rfl, hnc, hmc⟩ := h.own1.shape
 have HO := Lib.hid h.own1
 have HE := Lib.hid (fun (W : World) (f : Fresh w W) => each_any g 0 A l.length cap W ((h.fresh f).blk.cell_ 0 rfl))
 obtain ⟨i0, hi, hz0, hz1, hz2⟩ := info_parts info_ev
 have HCD := Lib.hid hcd
 clear h hcd
 refine (callsIn_wide (n := 6)).1 ?_
 refine callsIn_of_wp_marks Tryz.func63 rfl trivial ?_ rfl
 simp only [Tryz.ntmps63, List.size_toArray, List.length_cons, List.length_nil, Nat.reduceAdd, Nat.reduceSub, Array.replicate_succ, Array.replicate_zero, List.push_toArray, List.append_toArray, List.nil_append, List.cons_append]
 refine wpIn_wide.2 ?_
 go_wp2_with (go_at_call 109; (with_reducible refine (HE.out _ (by (repeat (first | (with_reducible exact Keep.refl _ _) | (with_reducible assumption) | (with_reducible refine Keep.drew ?_) | (with_reducible refine Keep.drewN ?_ _) | (with_reducible refine Keep.alloc ?_ _) | (with_reducible refine Keep.setCell ?_ ?_ _) | (with_reducible refine fun _ => rfl))))).mono ?_); rintro e w1 ⟨b1, rfl, B1, N1, F1⟩)
 have E1 := F1.blk_ ((Blk.new w 3 #[.int .i64 b0]).alloc (.cells #[.slice none 0 0] 24))
 have M0 : Blk ((w.alloc (.cells #[.int .i64 b0] 3)).alloc (.cells #[.slice none 0 0] 24)) (w.heap.size + 1) 24 #[.slice none 0 0] := Blk.at_new (by simp) _ _
 have M1 := F1.blk_ M0
 clear M0
 have G1 : Fresh w w1 := (((Keep.refl _ w).alloc _).alloc _).step F1 (fun _ _ h => h)
 have KB := Lib.hid B1
 have KE := Lib.hid E1
 have KM := Lib.hid M1
 have KG := Lib.hid G1
 have szF := G1.size
 have szM := M1.lt
 simp only [seqV]
 clear F1 B1 E1 M1 G1 N1 HE
 refine (wpIn_wide (n := 6)).1 ?_
 refine wpIn_rangeFunc_ownH rfl (by omega) (gf := 143) (lb := #[.pointer (some ⟨b1, 0, none⟩)]) rfl trivial (enters_of Tryz.func143 (by kernel_rfl) rfl)
  (vals_stops Fence.wide (6 - 1) trivial rfl (by omega) b1 (.slice A l.length cap) l (by omega) w1 KB.out (HO.out.fresh KG.out)) keepsB_t keepsB_b (Below.refl _ _) (fun _ => rfl)
  (PInv c b0 w) (fun _ _ _ => False) (pInv_own c b0 w _ (by omega)) (fun _ _ _ _ _ hs _ _ => hs)
  ⟨⟨⟨.slice none 0 0, KM.out, OwnS.nil _ _ _, fun k hk => by simp [Value.ownBlock] at hk⟩, KE.out⟩, KG.out⟩
  (fun y a' W => ∃ Bx, Blk W Bx 41 #[.int .i64 y.a, .int .i64 y.s, .int .i64 y.t, .int .i64 y.n, .int .i64 y.d, .int .i64 y.k, .int .i64 y.x] ∧ a' = { tmps := #[.pointer (some ⟨g, 0, none⟩), .int .i64 b0, undef, .pointer (some ⟨w.heap.size, 0, none⟩), .slice none 0 0, .pointer (some ⟨w.heap.size + 1, 0, none⟩), .pointer (some ⟨Bx, 0, none⟩), .pointer (some ⟨g, 0, none⟩), .bool false, .pointer (some ⟨g, 0, none⟩), .pointer (some ⟨g, 0, none⟩), .pointer (some ⟨g, 0, none⟩), .pointer (some ⟨g, 0, none⟩), .func (.func 143) #[] #[.pointer (some ⟨b1, 0, none⟩)], .agg #[.int .i64 y.a, .int .i64 y.s, .int .i64 y.t, .int .i64 y.n, .int .i64 y.d, .int .i64 y.k, .int .i64 y.x], undef, undef, undef, undef, undef, undef, undef, undef, undef, undef, undef, undef, undef, undef, undef, undef, undef, undef, undef, undef, undef, undef, undef, undef], defers := [] }) ?ax ?assign ?body ?done ?stop
 case ax =>
  rintro x a' u X Y row ⟨Bx, h2, h3⟩ hg hr
  exact ⟨Bx, blk_grown h2 hg (fun r e => (hr r e).2), h3⟩
 case assign =>
  rintro lp pre y W K ⟨⟨⟨v2, b2, o2, n2⟩, e2⟩, f2⟩ hK
  unfold enc Ev.val
  gi_wp2
  exact hK _ _ ((KeepsOthers.alloc _ _).from _) ((KeepsB.refl _ _ _).alloc _) ⟨⟨⟨v2, b2.alloc _, o2.alloc _, n2⟩, e2.alloc _⟩, f2.alloc _⟩ ⟨W.heap.size, Blk.new W _ _, rfl⟩
 case body =>
  rintro lp pre y a' W hlp hrec ⟨⟨⟨v2, b2, o2, n2⟩, e2⟩, f2⟩ ⟨Bx, bx, rfl⟩ hlt
  obtain ⟨A2, cap2, rfl, _, _⟩ := o2.shape
  have hfl : (pre.filter c).length ≤ pre.length := List.length_filter_le _ _
  have cX := bx.cell
  have cE := e2.cell
  have ne2 := o2.ne_blk b2 (by decide)
  have neE := o2.ne_blk e2 (by decide)
  have hL1 := Lib.hid (show (pre.filter c).length + 1 ≤ maxLen from one_le_maxLen (by omega))
  have hL2 := Lib.hid (show ((pre.filter c).length + 1) * 56 ≤ 140737488355328 by omega)
  have HFL := Lib.hid (filt_snoc c pre y)
  obtain ⟨P, hP⟩ : ∃ P, pre.filter c = P := ⟨_, rfl⟩
  rw [hP] at b2 o2 n2 ne2 neE hL1 hL2 HFL
  clear hP hfl
  have c2 := b2.cell
  have r2 := b2.frozen
  have l2 := b2.lt
  have HC : Hid (Src (W.alloc (.cells #[.int .i64 y.a, .int .i64 y.s, .int .i64 y.t, .int .i64 y.n, .int .i64 y.d, .int .i64 y.k, .int .i64 y.x] 41)) 7 (.slice (some ⟨W.heap.size, 0, none⟩) 1 1) 1 (cells [y])) := Src.one_new W 41 7 #[.int .i64 y.a, .int .i64 y.s, .int .i64 y.t, .int .i64 y.n, .int .i64 y.d, .int .i64 y.k, .int .i64 y.x] rfl
  have h07 : Hid (0 < 7) := Lib.hid (by omega)
  have U1 := Lib.hid b2
  have U2 := Lib.hid o2
  have U3 := Lib.hid n2
  have U4 := Lib.hid f2
  have U5 := Lib.hid ne2
  have U6 := Lib.hid e2
  have U7 := Lib.hid neE
  have hq0 : Hid (c y = decide (y.a < b0)) := Lib.hid (hcy y)
  clear hcy
  clear b2 o2 n2 f2 ne2 e2 neE bx hrec
  cases hq : c y
  ·rw [hq] at HFL
   have hq1 : (decide (y.a < b0)) = false := hq0.out.symm.trans hq
   clear hq hq0
   gi_wp2_with fail
   refine ⟨(keepsOthers_of_keep (S := fun _ => False) (Keep.refl _ W) (fun _ _ h => h.elim)).from _, KeepsB.refl _ _ _, ⟨⟨_, U1.out, ?_, U3.out⟩, U6.out⟩, U4.out⟩
   rw [HFL.out]
   simpa using U2.out
  ·rw [hq] at HFL
   have hq1 : (decide (y.a < b0)) = true := hq0.out.symm.trans hq
   clear hq hq0
   gi_wp2_with (gi_at_builtin; refine wpListIn_append_OwnS _ rfl _ _ 24 rfl 41 i0 _ 7 56 Tryz.underlying24 hi hz0 hz1 hz2 rfl h07.out (.slice A2 P.length cap2) P.length (cells P) rfl (U2.out.alloc _) (.slice (some ⟨W.heap.size, 0, none⟩) 1 1) 1 (cells [y]) rfl HC.out (cells_one _) hL1.out hL2.out ?_; intro v3 w3 o3 k3 n3; obtain ⟨A3, cap3, rfl, _, _⟩ := o3.shape; have b3 := (U1.out.alloc (.cells #[.int .i64 y.a, .int .i64 y.s, .int .i64 y.t, .int .i64 y.n, .int .i64 y.d, .int .i64 y.k, .int .i64 y.x] 41)).keep k3 U5.out; have e3 := (U6.out.alloc (.cells #[.int .i64 y.a, .int .i64 y.s, .int .i64 y.t, .int .i64 y.n, .int .i64 y.d, .int .i64 y.k, .int .i64 y.x] 41)).keep k3 U7.out; have c3 := b3.cell; have r3 := b3.frozen; have l3 := b3.lt; have V1 := Lib.hid b3; have V2 := Lib.hid o3; have V3 := Lib.hid k3; have V4 := Lib.hid n3; have V6 := Lib.hid e3; clear b3 o3 k3 n3 e3)
   have K1 : Keep (fun k => k = w.heap.size + 1 ∨ (Value.slice A2 P.length cap2).ownBlock = some k) W (w3.setCell ⟨w.heap.size + 1, 0, none⟩ (.slice A3 (P.length + 1) cap3)) :=
    (((Keep.refl _ W).alloc _).step V3.out (fun _ _ h => .inr h)).setCell (p := ⟨w.heap.size + 1, 0, none⟩) (fun _ => .inl rfl) _
   refine ⟨(keepsOthers_of_keep K1 ?_).from _, KeepsB.of_keep' K1 ?_, ⟨⟨.slice A3 (P.length + 1) cap3, V1.out.set_ 0 _, ?_, ?_⟩, ?_⟩, ?_⟩
   ·rintro k o (rfl | hk) ho
    ·exact blk_isCells U1.out ho
    ·exact own_isCells U2.out hk ho
   ·rintro cur hcur (h | h)
    ·rw [h] at hcur
     have := U1.out
     unfold Blk at this
     rw [this] at hcur
     cases hcur
    ·have := U3.out _ h; omega
   ·have := V2.out.far (p := ⟨w.heap.size + 1, 0, none⟩) (V2.out.ne_blk V1.out (by decide)) (.slice A3 (P.length + 1) cap3)
    rw [HFL.out]
    simp only [if_true, List.length_append, cells_append, List.length_cons, List.length_nil, Nat.zero_add]
    exact this
   ·intro k hk
    rcases V4.out k hk with h | h
    ·exact U3.out k h
    ·have := U4.out.size
     simp at h
     omega
   ·exact V6.out.keep (Keep.setCell (S := fun k => k = w.heap.size + 1) (Keep.refl _ w3) (p := ⟨w.heap.size + 1, 0, none⟩) (fun _ => rfl) _) (by omega)
   ·exact U4.out.step K1 (by
     rintro k hk (h | h)
     ·omega
     ·have := U3.out k h; omega)
 case done =>
  rintro D ys W hD rfl hI hK
  obtain ⟨⟨⟨v2, b2, o2, n2⟩, e2⟩, f2⟩ := hI
  have hDl := (Array.getElem?_eq_some_iff.1 hK).1
  have hr : ∀ r, some D = some r → ∃ o : Obj, W.heap[r]? = some o ∧ o.isCells = false := fun r e => by cases e; exact ⟨_, hK, rfl⟩
  have FW : Hid (Fresh w W) := Lib.hid f2
  have Q2 := Lib.hid (HQ.out.fresh f2)
  have cQ := Q2.out.blk.cell
  have cL := b2.cell
  have fL := b2.frozen
  have lL := b2.lt
  obtain ⟨A2, cap2, rfl, _, _⟩ := o2.shape
  have T1 := Lib.hid b2
  have T2 := Lib.hid o2
  have T3 := Lib.hid n2
  have HK := Lib.hid hK
  clear b2 o2 n2 e2 f2 hK
  obtain ⟨P, hP⟩ : ∃ P, List.filter c ys = P := ⟨_, rfl⟩
  rw [hP] at cL T1 T2 T3
  have HP := Lib.hid hP
  have hPl : P.length ≤ ys.length := by rw [← hP]; exact List.length_filter_le _ _
  clear hP
  have hn1 := Lib.hid (HQ.out.n1)
  have HDW := Lib.hid (show w.heap.size ≤ D by omega)
  have HGN := Lib.hid (show w.heap.size + 1 ≠ g by have := HQ.out.blk.lt; omega)
  have HSD := Lib.hid (show Srt (ys.drop P.length) from List.Pairwise.sublist (List.drop_sublist _ _) HQ.out.s1)
  have HNO := Lib.hid (show ∀ i, (Value.slice A2 P.length cap2).ownBlock = some i → ¬ (i = g ∨ (Value.slice A ys.length cap).ownBlock = some i) from fun i hi hh => by
   have := T3.out i hi
   rcases hh with rfl | hh
   ·have := HQ.out.blk.lt; omega
   ·exact HNL.out i this hh)
  have HCS := Lib.hid (show ∀ k (o : Obj), (k = g ∨ (Value.slice A ys.length cap).ownBlock = some k) → W.heap[k]? = some o → o.isCells = true from fun k o hk ho => by
   rcases hk with rfl | hk
   ·exact blk_isCells Q2.out.blk ho
   ·exact own_isCells Q2.out.own1 hk ho)
  have HNE := Lib.hid (HNL.out (w.heap.size + 1) (Nat.le_succ _))
  have HD := Lib.hid (fun (W' : World) (f : Fresh W W') => del_head _ P.length ys W' (Q2.out.own1.fresh f) hPl (by omega))
  have kQ := fun (W' : World) (f : Fresh W W') (i : Nat) => (f.blk_ Q2.out.blk).cell i
  obtain ⟨Wd, hWd⟩ : ∃ Wd, W.drew = Wd := ⟨_, rfl⟩
  have FD : Fresh W Wd := hWd ▸ (Keep.refl _ W).drew
  have cQ := Q2.out.blk.cell
  have cL := T1.out.cell
  have cQd := (FD.blk_ Q2.out.blk).cell
  have cLd := (FD.blk_ T1.out).cell
  have HFD := Lib.hid FD
  have HD2 := Lib.hid (HD.out _ FD)
  clear FD
  rw [← hWd] at cQd cLd HFD HD2
  clear hWd HD
  go_wp2_with fail
  rename_i K0 hK0
  refine Code.wp_mono (Q := normOnly K0) (fun e a w h => by cases e <;> first | exact h | exact h.elim) ?_
  go_region_law (rw [if_pos (by simp [Region.wanted])]; go_simp; go_at_call 110; (with_reducible refine HD2.out.mono ?_); rintro en2 w3 ⟨A3, cap3, rfl, o3, k3, n3⟩; have kq := HFD.out.pre_ k3; have b3 := Q2.out.blk.keep kq hn1.out; have l3 := T1.out.keep kq HNE.out; have cq3 := b3.cell; have cq4 := b3.frozen; have cq5 := b3.lt; have cl3 := l3.cell; have O3 := Lib.hid o3; have K3 := Lib.hid kq; have N3 := Lib.hid n3; have B3 := Lib.hid b3; have L3 := Lib.hid l3; clear o3 k3 kq n3 b3 l3)
  all_goals
   have P1 := Lib.hid (show OwnS w3 41 7 (.slice A3 (ys.length - P.length) cap3) (ys.drop P.length).length (cells (ys.drop P.length)) from by have h := O3.out; rw [show (ys.drop P.length).length = ys.length - P.length from List.length_drop] at h ⊢; exact h)
   have P2 := Lib.hid (show ∀ i, (Value.slice A3 (ys.length - P.length) cap3).ownBlock = some i → (Value.slice A ys.length cap).ownBlock = some i from by have h := N3.out; rw [List.length_drop] at h; exact h)
   have K4 : Hid (Keep (fun i => i = g ∨ (Value.slice A ys.length cap).ownBlock = some i) W (w3.setCell ⟨g, 0, none⟩ (.slice A3 (ys.length - P.length) cap3))) := Lib.hid (Keep.setCell (K3.out.more (fun _ _ h => .inr h)) (p := ⟨g, 0, none⟩) (fun _ => .inl rfl) _)
   have L4 := Lib.hid (L3.out.far (p := ⟨g, 0, none⟩) HGN.out (.slice A3 (ys.length - P.length) cap3))
   have RW := row_fin (o := 0) Q2.out.blk (Keep.refl _ W) hn1.out P1.out K3.out (fun k hk => .inl (P2.out k hk))
   obtain ⟨v1', q4, t4⟩ := Q2.out.row0 RW HSD.out
   have Q4 := Lib.hid q4
   have TT := Lib.hid (Turn.after FW.out t4)
   have OL := Lib.hid (T2.out.kept K4.out HNO.out)
   have HK4 := Lib.hid ((keepsOthers_of_keep K4.out HCS.out).same D _ HK.out rfl)
   obtain ⟨w4, hw4⟩ : ∃ w4, w3.setCell ⟨g, 0, none⟩ (.slice A3 (ys.length - P.length) cap3) = w4 := ⟨_, rfl⟩
   refine hK0 _ _ ?_
   clear q4 t4
   rw [hw4] at Q4 TT OL HK4 L4 ⊢
   have cl4 := L4.out.cell
   clear hK0 hw4 RW K4 P1 P2 cq3 cq4 cq5 cl3 cQ cL cQd cLd
   go_wp2_with fail
   have hr4 : ∀ r, some D = some r → ∃ o : Obj, w4.heap[r]? = some o ∧ o.isCells = false := fun r e => by cases e; exact ⟨_, HK4.out, rfl⟩
   have hg4 := grownBy_putObj' w4 D (.deferred none)
   refine ⟨by simp, .inl ⟨_, _, rfl, run_takeDeferred HK4.out, ?_⟩⟩
   have hc := HCD.out
   subst hc
   have hP := HP.out
   subst hP
   exact ⟨_, results_tmp rfl _ _ _, .slice A2 (List.filter (fun y => decide (y.a < b0)) ys).length cap2, v1', rfl, ownS_grown OL.out hg4 hr4, Q4.out.grown hg4 hr4, TT.out.grown hg4 (fun r e => by cases e; have := HDW.out; omega), T3.out⟩
 case stop =>
  rintro D c pre W _ _ h _
  exact h.elim
end Go.Proofs.YthbcdkeammhakaaGreat
