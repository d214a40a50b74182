/- Chapter 13: LqR. -/
import Derived.Test.YthbcdkeammhakaaGreatP36
set_option maxRecDepth 100000
set_option maxHeartbeats 16000000
namespace Go.Proofs.YthbcdkeammhakaaGreat
open Go.RowKit Go.Shelf
attribute [local go_sem] Oper.semAt_some
attribute [local go_sem ↓] Go.wp_at_zero Go.wp_at_succ
theorem run_eql_seqR' (fn : Fn) (a b : Array Value) (w : World) : (binOp .eql 115 (.func fn a b) .nilFunc).run Tryz.prog w = .ok (.bool false) w := by
 kernel_rfl
attribute [local go_sem] run_eql_seqR'
def sureL (q : List Rec) : List Ev := (q.filter (·.2)).map (·.1)
def unsL (q : List Rec) : List Ev := (q.filter (fun r => !r.2)).map (·.1)
theorem sureL_snoc (q : List Rec) (r : Rec) : sureL (q ++ [r]) = sureL q ++ (if r.2 then [r.1] else []) := by
 unfold sureL
 rw [List.filter_append, List.map_append]
 cases h : r.2 <;> simp [h]
theorem unsL_snoc (q : List Rec) (r : Rec) : unsL (q ++ [r]) = unsL q ++ (if r.2 then [] else [r.1]) := by
 unfold unsL
 rw [List.filter_append, List.map_append]
 cases h : r.2 <;> simp [h]
theorem sure_uns (q : List Rec) : (sureL q).length + (unsL q).length = q.length := by
 induction q with
 | nil => rfl
 | cons r q ih =>
  unfold sureL unsL at ih ⊢
  cases h : r.2 <;> simp [h] at ih ⊢ <;> omega
def BoxE (W : World) (b : Nat) (B : Nat) (l : List Ev) (v : Value) : Prop := Blk W b 24 #[v] ∧ OwnS W 41 7 v l.length (cells l) ∧ ∀ k, v.ownBlock = some k → B ≤ k
structure RcI (w : World) (B : Nat) (pre : List Rec) (W : World) : Prop where
 f : Fresh w W
 sz : B ≤ W.heap.size
 ab : ∃ va vb, BoxE W w.heap.size B (sureL pre) va ∧ BoxE W (w.heap.size + 1) B (unsL pre) vb ∧ ∀ k, va.ownBlock = some k → vb.ownBlock ≠ some k
theorem BoxE.grown {X Y : World} {row : Option Nat} {b B : Nat} {l : List Ev} {v : Value} (h : BoxE X b B l v) (hg : X.grownBy Y row) (hr : ∀ r, row = some r → ∃ o : Obj, X.heap[r]? = some o ∧ o.isCells = false) : BoxE Y b B l v := ⟨blk_grown h.1 hg hr, ownS_grown h.2.1 hg hr, h.2.2⟩
theorem RcI.own {w X Y : World} {row : Option Nat} {B B' : Nat} {pre : List Rec} (hB : w.heap.size ≤ B') (h : RcI w B pre X) (hg : X.grownBy Y row) (hr : ∀ r, row = some r → B' ≤ r ∧ ∃ o : Obj, X.heap[r]? = some o ∧ o.isCells = false) : RcI w B pre Y := by
 obtain ⟨h1, h2, va, vb, h3, h4, h5⟩ := h
 have hr' : ∀ r, row = some r → ∃ o : Obj, X.heap[r]? = some o ∧ o.isCells = false := fun r e => (hr r e).2
 exact ⟨ownFrom_fresh (β := Unit) hB () X Y row h1 hg hr, Nat.le_trans h2 hg.size, va, vb, h3.grown hg hr', h4.grown hg hr', h5⟩
theorem RcI.fresh {w X Y : World} {B : Nat} {pre : List Rec} (h : RcI w B pre X) (f : Fresh X Y) : RcI w B pre Y := by
 obtain ⟨h1, h2, va, vb, h3, h4, h5⟩ := h
 exact ⟨h1.step f (fun _ _ h => h), Nat.le_trans h2 f.size, va, vb, ⟨f.blk_ h3.1, h3.2.1.fresh f, h3.2.2⟩, ⟨f.blk_ h4.1, h4.2.1.fresh f, h4.2.2⟩, h5⟩
def RecQ (q : List Rec) (w : World) (e : Ending) (w' : World) : Prop := ∃ va vb, e = .returned (.tuple #[va, vb]) ∧ OwnS w' 41 7 va (sureL q).length (cells (sureL q)) ∧ OwnS w' 41 7 vb (unsL q).length (cells (unsL q)) ∧ Fresh w w' ∧ (∀ k, va.ownBlock = some k → w.heap.size ≤ k) ∧ (∀ k, vb.ownBlock = some k → w.heap.size ≤ k) ∧ ∀ k, va.ownBlock = some k → vb.ownBlock ≠ some k
theorem records_of (c : LC) (y : PV) (p : LPs) (w : World) (h : SLP w c y p) (hq : p.q.length ≤ 5000) : Calls Tryz.prog 24 #[.pointer (some ⟨y.g, 0, none⟩)] w (RecQ p.q w) := by
 have HR : Hid (∀ W, Fresh w W → Calls Tryz.prog 50 #[.pointer (some ⟨y.g, 0, none⟩)] W (AllP p.q W)) := Lib.hid fun W f => lrecords_any c y p W (h.fresh f) (by omega)
 obtain ⟨q, hqq⟩ : ∃ q, p.q = q := ⟨_, rfl⟩
 rw [hqq] at HR hq ⊢
 clear hqq h
 unfold AllP at HR
 have M0 : Blk ((w.alloc (.cells #[.slice none 0 0] 24)).alloc (.cells #[.slice none 0 0] 24)) w.heap.size 24 #[.slice none 0 0] := (Blk.new w _ _).alloc _
 have M1 : Blk ((w.alloc (.cells #[.slice none 0 0] 24)).alloc (.cells #[.slice none 0 0] 24)) (w.heap.size + 1) 24 #[.slice none 0 0] := Blk.at_new (by simp) _ _
 have FM : Fresh w ((w.alloc (.cells #[.slice none 0 0] 24)).alloc (.cells #[.slice none 0 0] 24)) := ((Keep.refl _ w).alloc _).alloc _
 have KM0 := Lib.hid M0
 have KM1 := Lib.hid M1
 have KF := Lib.hid FM
 clear M0 M1 FM
 refine (callsIn_wide (n := 6)).1 ?_
 refine callsIn_of_wp_marks Tryz.func24 rfl trivial ?_ rfl
 simp only [Tryz.ntmps24, List.size_toArray, List.length_cons, List.length_nil, Nat.reduceAdd, Nat.reduceSub, Array.replicate_succ, Array.replicate_zero, List.push_toArray, List.append_toArray, List.nil_append, List.cons_append]
 refine wpIn_wide.2 ?_
 go_wp2_with (go_at_call 50; (with_reducible refine (HR.out _ KF.out).mono ?_); rintro e w1 ⟨b1, v1, rfl, B1, O1, F1, N1, M1⟩)
 have hbk : bk v1 < w1.heap.size := by
  unfold bk
  cases hv : v1.ownBlock with
  | none => have := B1.lt; simp; omega
  | some k => simpa using O1.lt hv
 have KO := Lib.hid O1
 have KB := Lib.hid B1
 have T0 : Hid (RcI w w1.heap.size [] w1) := Lib.hid ⟨KF.out.step F1 (fun _ _ h => h), Nat.le_refl _, _, _, ⟨F1.blk_ KM0.out, OwnS.nil _ _ _, by simp [Value.ownBlock]⟩, ⟨F1.blk_ KM1.out, OwnS.nil _ _ _, by simp [Value.ownBlock]⟩, by simp [Value.ownBlock]⟩
 have szF := (KF.out.step F1 (fun _ _ h => h)).size
 have hw2 : w.heap.size + 1 < w1.heap.size := (F1.blk_ KM1.out).lt
 clear O1 B1 F1 N1 M1 KF KM0 KM1 HR
 obtain ⟨i0, hi9, hz0, hz1, hz2⟩ := info_parts info_ev
 refine (wpIn_wide (n := 6)).1 ?_
 refine wpIn_rangeFunc_ownH rfl (by omega) (gf := 126) (lb := #[.pointer (some ⟨b1, 0, none⟩)]) rfl trivial (enters_of Tryz.func126 (by kernel_rfl) rfl)
  (all_stops Fence.wide (6 - 1) trivial rfl (by omega) b1 v1 q (by omega) w1 KB.out KO.out) keepsB_t keepsB_b (Below.refl _ _) (fun _ => rfl)
  (RcI w w1.heap.size) (fun _ _ _ => False) (fun pre X Y row hs hg hr => hs.own (by omega) hg hr) (fun _ _ _ _ _ hs _ _ => hs)
  T0.out
  (fun r a' W => ∃ Bx, Blk W Bx 41 #[.int .i64 r.1.a, .int .i64 r.1.s, .int .i64 r.1.t, .int .i64 r.1.n, .int .i64 r.1.d, .int .i64 r.1.k, .int .i64 r.1.x] ∧ a' = { tmps := #[.pointer (some ⟨y.g, 0, none⟩), undef, .slice none 0 0, .slice none 0 0, .pointer (some ⟨w.heap.size, 0, none⟩), .pointer (some ⟨w.heap.size + 1, 0, none⟩), .func (.func 126) #[] #[.pointer (some ⟨b1, 0, none⟩)], .pointer (some ⟨Bx, 0, none⟩), .bool r.2, .pointer (some ⟨y.g, 0, none⟩), .func (.func 126) #[] #[.pointer (some ⟨b1, 0, none⟩)], .func (.func 126) #[] #[.pointer (some ⟨b1, 0, none⟩)], .bool false, .func (.func 126) #[] #[.pointer (some ⟨b1, 0, none⟩)], .agg #[.int .i64 r.1.a, .int .i64 r.1.s, .int .i64 r.1.t, .int .i64 r.1.n, .int .i64 r.1.d, .int .i64 r.1.k, .int .i64 r.1.x], .bool r.2, undef, undef, undef, undef, undef, undef, undef, undef, undef, undef, undef, undef, undef, undef, undef, undef, undef], defers := [] }) ?ax ?assign ?body ?done ?stop
 case ax =>
  rintro x a' u X Y row ⟨Bx, h2, h3⟩ hg hr
  exact ⟨Bx, blk_grown h2 hg (fun r e => (hr r e).2), h3⟩
 case assign =>
  rintro lp pre r W K f hK
  unfold oenc Ev.val
  gi_wp2
  refine hK _ _ ((KeepsOthers.alloc _ _).from _) ((KeepsB.refl _ _ _).alloc _) (f.fresh ((Keep.refl _ _).alloc _)) ⟨W.heap.size, Blk.new W _ _, rfl⟩
 case body =>
  rintro lp pre r a' W hlp hrec ⟨f2, s2, va, vb, ba, bb, dis⟩ ⟨Bx, bx, rfl⟩ hlt
  have hsu := sure_uns pre
  have HSA := Lib.hid (sureL_snoc pre r)
  have HUB := Lib.hid (unsL_snoc pre r)
  obtain ⟨SA, hSA⟩ : ∃ SA, sureL pre = SA := ⟨_, rfl⟩
  obtain ⟨UB, hUB⟩ : ∃ UB, unsL pre = UB := ⟨_, rfl⟩
  rw [hSA] at ba hsu HSA
  rw [hUB] at bb hsu HUB
  clear hSA hUB
  have hL1a := Lib.hid (show SA.length + 1 ≤ maxLen from one_le_maxLen (by omega))
  have hL2a := Lib.hid (show (SA.length + 1) * 56 ≤ 140737488355328 by omega)
  have hL1b := Lib.hid (show UB.length + 1 ≤ maxLen from one_le_maxLen (by omega))
  have hL2b := Lib.hid (show (UB.length + 1) * 56 ≤ 140737488355328 by omega)
  have h07 : Hid (0 < 7) := Lib.hid (by omega)
  have U4 := Lib.hid f2
  have U9 := Lib.hid s2
  have Ua := Lib.hid ba
  have Ub := Lib.hid bb
  have DIS := Lib.hid dis
  have cX := bx.cell
  have lX := bx.lt
  have hlen : SA.length + UB.length + 1 ≤ 5000 := by omega
  clear f2 s2 ba bb dis bx hrec hsu
  cases hr2 : r.2 with
  | true =>
   rw [hr2] at HSA HUB
   obtain ⟨A2, cap2, rfl, _, _⟩ := Ua.out.2.1.shape
   obtain ⟨A4, cap4, rfl, _, _⟩ := Ub.out.2.1.shape
   have c2 := Ua.out.1.cell
   have r2 := Ua.out.1.frozen
   have l2 := Ua.out.1.lt
   have HC : Hid (Src (W.alloc (.cells #[.int .i64 r.1.a, .int .i64 r.1.s, .int .i64 r.1.t, .int .i64 r.1.n, .int .i64 r.1.d, .int .i64 r.1.k, .int .i64 r.1.x] 41)) 7 (.slice (some ⟨W.heap.size, 0, none⟩) 1 1) 1 (cells [r.1])) := Lib.hid (Src.one_new W 41 7 #[.int .i64 r.1.a, .int .i64 r.1.s, .int .i64 r.1.t, .int .i64 r.1.n, .int .i64 r.1.d, .int .i64 r.1.k, .int .i64 r.1.x] rfl)
   gi_wp2_with (gi_at_builtin; refine wpListIn_append_OwnS _ rfl _ _ 24 rfl 41 i0 _ 7 56 Tryz.underlying24 hi9 hz0 hz1 hz2 rfl h07.out (.slice A2 SA.length cap2) SA.length (cells SA) rfl (Ua.out.2.1.alloc _) (.slice (some ⟨W.heap.size, 0, none⟩) 1 1) 1 (cells [r.1]) rfl HC.out (cells_one _) hL1a.out hL2a.out ?_; intro v3 w3 o3 k3 n3; obtain ⟨A3, cap3, rfl, _, _⟩ := o3.shape; have b3 := (Ua.out.1.alloc (.cells #[.int .i64 r.1.a, .int .i64 r.1.s, .int .i64 r.1.t, .int .i64 r.1.n, .int .i64 r.1.d, .int .i64 r.1.k, .int .i64 r.1.x] 41)).keep k3 ((Ua.out.2.1.alloc (.cells #[.int .i64 r.1.a, .int .i64 r.1.s, .int .i64 r.1.t, .int .i64 r.1.n, .int .i64 r.1.d, .int .i64 r.1.k, .int .i64 r.1.x] 41)).ne_blk (Ua.out.1.alloc (.cells #[.int .i64 r.1.a, .int .i64 r.1.s, .int .i64 r.1.t, .int .i64 r.1.n, .int .i64 r.1.d, .int .i64 r.1.k, .int .i64 r.1.x] 41)) (by decide)); have c3 := b3.cell; have r3 := b3.frozen; have l3 := b3.lt; have d3 := (Ub.out.1.alloc (.cells #[.int .i64 r.1.a, .int .i64 r.1.s, .int .i64 r.1.t, .int .i64 r.1.n, .int .i64 r.1.d, .int .i64 r.1.k, .int .i64 r.1.x] 41)).keep k3 ((Ua.out.2.1.alloc (.cells #[.int .i64 r.1.a, .int .i64 r.1.s, .int .i64 r.1.t, .int .i64 r.1.n, .int .i64 r.1.d, .int .i64 r.1.k, .int .i64 r.1.x] 41)).ne_blk (Ub.out.1.alloc (.cells #[.int .i64 r.1.a, .int .i64 r.1.s, .int .i64 r.1.t, .int .i64 r.1.n, .int .i64 r.1.d, .int .i64 r.1.k, .int .i64 r.1.x] 41)) (by decide)); have e3 := d3.cell; have m3 := d3.lt; have V1 := Lib.hid b3; have V2 := Lib.hid o3; have V3 := Lib.hid k3; have V4 := Lib.hid n3; have V5 := Lib.hid d3; clear b3 o3 k3 n3 d3 c2 r2 l2)
   have K1 : Hid (Keep (fun k => k = w.heap.size ∨ (Value.slice A2 SA.length cap2).ownBlock = some k) W (w3.setCell ⟨w.heap.size, 0, none⟩ (.slice A3 (SA.length + 1) cap3))) := Lib.hid
    ((((Keep.refl _ W).alloc _).step V3.out (fun _ _ h => .inr h)).setCell (p := ⟨w.heap.size, 0, none⟩) (fun _ => .inl rfl) _)
   have N3 : Hid (∀ k, (Value.slice A3 (SA.length + 1) cap3).ownBlock = some k → (Value.slice A2 SA.length cap2).ownBlock = some k ∨ W.heap.size ≤ k) := Lib.hid (fun k hk => by
    rcases V4.out k hk with h | h
    ·exact .inl h
    ·simp at h
     exact .inr (by omega))
   have XM : Hid (BoxE (w3.setCell ⟨w.heap.size, 0, none⟩ (.slice A3 (SA.length + 1) cap3)) (w.heap.size) w1.heap.size (SA ++ [r.1]) (.slice A3 (SA.length + 1) cap3)) := Lib.hid (by
    refine ⟨V1.out.set_ 0 _, ?_, fun k hk => ?_⟩
    ·have := V2.out.far (p := ⟨w.heap.size, 0, none⟩) (V2.out.ne_blk V1.out (by decide)) (.slice A3 (SA.length + 1) cap3)
     simp only [List.length_append, cells_append, List.length_cons, List.length_nil, Nat.zero_add]
     exact this
    ·rcases N3.out k hk with h | h
     ·exact Ua.out.2.2 k h
     ·have := U9.out; omega)
   have XO : Hid (BoxE (w3.setCell ⟨w.heap.size, 0, none⟩ (.slice A3 (SA.length + 1) cap3)) (w.heap.size + 1) w1.heap.size UB (.slice A4 UB.length cap4)) := Lib.hid (by
    refine ⟨V5.out.far (p := ⟨w.heap.size, 0, none⟩) (by show w.heap.size + 1 ≠ w.heap.size; omega) _, ?_, Ub.out.2.2⟩
    refine Ub.out.2.1.kept K1.out (fun k hk => ?_)
    rintro (h | h)
    ·have := Ub.out.2.2 k hk; omega
    ·exact DIS.out k h hk)
   have tz : decide (5000 < ((SA.length : Int) + 1) + ((UB.length : Int) + 0)) = false := decide_eq_false (by omega)
   have tz' : decide ((5000 : Int) < ((SA.length + 1 : Nat) : Int) + ((UB.length : Nat) : Int)) = false := decide_eq_false (by omega)
   have tw : wrap64 (((SA.length + 1 : Nat) : Int) + ((UB.length : Nat) : Int)) = ((SA.length + 1 : Nat) : Int) + ((UB.length : Nat) : Int) := IntWalk.wrap64_in _ (by omega)
   gi_wp2_with fail
   refine ⟨(keepsOthers_of_keep K1.out ?_).from _, KeepsB.of_keep' K1.out ?_, U4.out.step K1.out ?_, Nat.le_trans U9.out K1.out.size, ?_⟩
   ·rintro k o (rfl | hk) ho
    ·exact blk_isCells Ua.out.1 ho
    ·exact own_isCells Ua.out.2.1 hk ho
   ·rintro cur hcur (h | h)
    ·rw [h] at hcur
     have := Ua.out.1
     unfold Blk at this
     rw [this] at hcur
     cases hcur
    ·have := Ua.out.2.2 _ h; omega
   ·rintro k hk (h | h)
    ·omega
    ·have := Ua.out.2.2 k h; omega
   ·rw [HSA.out, HUB.out]
    refine ⟨_, _, XM.out, by simpa using XO.out, fun k h1 h2 => ?_⟩
    rcases N3.out k h1 with h | h
    ·exact DIS.out k h h2
    ·have := Ub.out.2.1.lt h2; omega
  | false =>
   rw [hr2] at HSA HUB
   obtain ⟨A2, cap2, rfl, _, _⟩ := Ub.out.2.1.shape
   obtain ⟨A4, cap4, rfl, _, _⟩ := Ua.out.2.1.shape
   have c2 := Ub.out.1.cell
   have r2 := Ub.out.1.frozen
   have l2 := Ub.out.1.lt
   have HC : Hid (Src (W.alloc (.cells #[.int .i64 r.1.a, .int .i64 r.1.s, .int .i64 r.1.t, .int .i64 r.1.n, .int .i64 r.1.d, .int .i64 r.1.k, .int .i64 r.1.x] 41)) 7 (.slice (some ⟨W.heap.size, 0, none⟩) 1 1) 1 (cells [r.1])) := Lib.hid (Src.one_new W 41 7 #[.int .i64 r.1.a, .int .i64 r.1.s, .int .i64 r.1.t, .int .i64 r.1.n, .int .i64 r.1.d, .int .i64 r.1.k, .int .i64 r.1.x] rfl)
   gi_wp2_with (gi_at_builtin; refine wpListIn_append_OwnS _ rfl _ _ 24 rfl 41 i0 _ 7 56 Tryz.underlying24 hi9 hz0 hz1 hz2 rfl h07.out (.slice A2 UB.length cap2) UB.length (cells UB) rfl (Ub.out.2.1.alloc _) (.slice (some ⟨W.heap.size, 0, none⟩) 1 1) 1 (cells [r.1]) rfl HC.out (cells_one _) hL1b.out hL2b.out ?_; intro v3 w3 o3 k3 n3; obtain ⟨A3, cap3, rfl, _, _⟩ := o3.shape; have b3 := (Ub.out.1.alloc (.cells #[.int .i64 r.1.a, .int .i64 r.1.s, .int .i64 r.1.t, .int .i64 r.1.n, .int .i64 r.1.d, .int .i64 r.1.k, .int .i64 r.1.x] 41)).keep k3 ((Ub.out.2.1.alloc (.cells #[.int .i64 r.1.a, .int .i64 r.1.s, .int .i64 r.1.t, .int .i64 r.1.n, .int .i64 r.1.d, .int .i64 r.1.k, .int .i64 r.1.x] 41)).ne_blk (Ub.out.1.alloc (.cells #[.int .i64 r.1.a, .int .i64 r.1.s, .int .i64 r.1.t, .int .i64 r.1.n, .int .i64 r.1.d, .int .i64 r.1.k, .int .i64 r.1.x] 41)) (by decide)); have c3 := b3.cell; have r3 := b3.frozen; have l3 := b3.lt; have d3 := (Ua.out.1.alloc (.cells #[.int .i64 r.1.a, .int .i64 r.1.s, .int .i64 r.1.t, .int .i64 r.1.n, .int .i64 r.1.d, .int .i64 r.1.k, .int .i64 r.1.x] 41)).keep k3 ((Ub.out.2.1.alloc (.cells #[.int .i64 r.1.a, .int .i64 r.1.s, .int .i64 r.1.t, .int .i64 r.1.n, .int .i64 r.1.d, .int .i64 r.1.k, .int .i64 r.1.x] 41)).ne_blk (Ua.out.1.alloc (.cells #[.int .i64 r.1.a, .int .i64 r.1.s, .int .i64 r.1.t, .int .i64 r.1.n, .int .i64 r.1.d, .int .i64 r.1.k, .int .i64 r.1.x] 41)) (by decide)); have e3 := d3.cell; have m3 := d3.lt; have V1 := Lib.hid b3; have V2 := Lib.hid o3; have V3 := Lib.hid k3; have V4 := Lib.hid n3; have V5 := Lib.hid d3; clear b3 o3 k3 n3 d3 c2 r2 l2)
   have K1 : Hid (Keep (fun k => k = w.heap.size + 1 ∨ (Value.slice A2 UB.length cap2).ownBlock = some k) W (w3.setCell ⟨w.heap.size + 1, 0, none⟩ (.slice A3 (UB.length + 1) cap3))) := Lib.hid
    ((((Keep.refl _ W).alloc _).step V3.out (fun _ _ h => .inr h)).setCell (p := ⟨w.heap.size + 1, 0, none⟩) (fun _ => .inl rfl) _)
   have N3 : Hid (∀ k, (Value.slice A3 (UB.length + 1) cap3).ownBlock = some k → (Value.slice A2 UB.length cap2).ownBlock = some k ∨ W.heap.size ≤ k) := Lib.hid (fun k hk => by
    rcases V4.out k hk with h | h
    ·exact .inl h
    ·simp at h
     exact .inr (by omega))
   have XM : Hid (BoxE (w3.setCell ⟨w.heap.size + 1, 0, none⟩ (.slice A3 (UB.length + 1) cap3)) (w.heap.size + 1) w1.heap.size (UB ++ [r.1]) (.slice A3 (UB.length + 1) cap3)) := Lib.hid (by
    refine ⟨V1.out.set_ 0 _, ?_, fun k hk => ?_⟩
    ·have := V2.out.far (p := ⟨w.heap.size + 1, 0, none⟩) (V2.out.ne_blk V1.out (by decide)) (.slice A3 (UB.length + 1) cap3)
     simp only [List.length_append, cells_append, List.length_cons, List.length_nil, Nat.zero_add]
     exact this
    ·rcases N3.out k hk with h | h
     ·exact Ub.out.2.2 k h
     ·have := U9.out; omega)
   have XO : Hid (BoxE (w3.setCell ⟨w.heap.size + 1, 0, none⟩ (.slice A3 (UB.length + 1) cap3)) (w.heap.size) w1.heap.size SA (.slice A4 SA.length cap4)) := Lib.hid (by
    refine ⟨V5.out.far (p := ⟨w.heap.size + 1, 0, none⟩) (by show w.heap.size ≠ w.heap.size + 1; omega) _, ?_, Ua.out.2.2⟩
    refine Ua.out.2.1.kept K1.out (fun k hk => ?_)
    rintro (h | h)
    ·have := Ua.out.2.2 k hk; omega
    ·exact DIS.out k hk h)
   have tz : decide (5000 < ((SA.length : Int) + 0) + ((UB.length : Int) + 1)) = false := decide_eq_false (by omega)
   have tz' : decide ((5000 : Int) < ((SA.length : Nat) : Int) + ((UB.length + 1 : Nat) : Int)) = false := decide_eq_false (by omega)
   have tw : wrap64 (((SA.length : Nat) : Int) + ((UB.length + 1 : Nat) : Int)) = ((SA.length : Nat) : Int) + ((UB.length + 1 : Nat) : Int) := IntWalk.wrap64_in _ (by omega)
   gi_wp2_with fail
   refine ⟨(keepsOthers_of_keep K1.out ?_).from _, KeepsB.of_keep' K1.out ?_, U4.out.step K1.out ?_, Nat.le_trans U9.out K1.out.size, ?_⟩
   ·rintro k o (rfl | hk) ho
    ·exact blk_isCells Ub.out.1 ho
    ·exact own_isCells Ub.out.2.1 hk ho
   ·rintro cur hcur (h | h)
    ·rw [h] at hcur
     have := Ub.out.1
     unfold Blk at this
     rw [this] at hcur
     cases hcur
    ·have := Ub.out.2.2 _ h; omega
   ·rintro k hk (h | h)
    ·omega
    ·have := Ub.out.2.2 k h; omega
   ·rw [HSA.out, HUB.out]
    refine ⟨_, _, by simpa using XO.out, XM.out, fun k h1 h2 => ?_⟩
    rcases N3.out k h2 with h | h
    ·exact DIS.out k h1 h
    ·have := Ua.out.2.1.lt h1; omega
 case done =>
  rintro D ys W hD rfl ⟨f2, s2, va, vb, ba, bb, dis⟩ hK
  have c2 := ba.1.cell
  have l2 := ba.1.lt
  have c3 := bb.1.cell
  have l3 := bb.1.lt
  have hDl := (Array.getElem?_eq_some_iff.1 hK).1
  have hr : ∀ r, some D = some r → ∃ o : Obj, W.heap[r]? = some o ∧ o.isCells = false := fun r e => by cases e; exact ⟨_, hK, rfl⟩
  have U1 := Lib.hid f2
  have U3 := Lib.hid hK
  have Ua := Lib.hid ba
  have Ub := Lib.hid bb
  have DIS := Lib.hid dis
  clear f2 s2 ba bb dis hK
  go_wp2_with fail
  go_quiet (fail)
  rename Nat => n9
  go_wp2_with fail
  have f4 := ownFrom_fresh (β := Unit) (show w.heap.size ≤ w1.heap.size by omega) () _ _ _ (U1.out.drewN n9) (grownBy_putObj' (W.drewN n9) D (.deferred none)) (fun r e => by cases e; exact ⟨hD, _, U3.out, rfl⟩)
  have oa := ownS_grown (Ua.out.2.1.drewN n9) (grownBy_putObj' (W.drewN n9) D (.deferred none)) hr
  have ob := ownS_grown (Ub.out.2.1.drewN n9) (grownBy_putObj' (W.drewN n9) D (.deferred none)) hr
  refine ⟨by simp, .inl ⟨_, _, rfl, run_takeDeferred U3.out, ?_⟩⟩
  exact ⟨.tuple #[va, vb], by simp [results, Tryz.results24, go_sem]; try rfl, va, vb, rfl, oa, ob, f4, fun k hk => by have := Ua.out.2.2 k hk; omega, fun k hk => by have := Ub.out.2.2 k hk; omega, DIS.out⟩
 case stop =>
  rintro D c pre W _ _ h _
  exact h.elim
end Go.Proofs.YthbcdkeammhakaaGreat
