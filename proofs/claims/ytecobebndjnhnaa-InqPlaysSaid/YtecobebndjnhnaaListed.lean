/-
  The law's listed: what is gone through.
-/
import Derived.Test.YtecobebndjnhnaaNilF
namespace Go.Proofs.Ytecobebndjnhnaa
open Go.RowKit Go.Shelf
attribute [local go_sem] Oper.semAt_some
theorem run_eql_func' (fn : Fn) (a b : Array Value) (w : World) : (binOp .eql 44 (.func fn a b) .nilFunc).run Try.prog w = .ok (.bool false) w := by
  first | rfl | (kernel_rfl)
attribute [local go_sem] run_eql_func'

/-- what the loop's own cells hold when pre has come -/
def LInv (w : World) (pre : List Ev) (W : World) : Prop :=
  (∃ v, Blk W w.heap.size 42 #[v] ∧ OwnS W 25 7 v pre.length (cells pre) ∧ ∀ k, v.ownBlock = some k → w.heap.size ≤ k) ∧ Fresh w W
theorem lInv_own (w : World) (B : Nat) (hB : w.heap.size ≤ B) : OwnFrom B (LInv w) := by
  intro pre X Y row hs hg hr
  obtain ⟨⟨v, h1, h2, h3⟩, h4⟩ := hs
  have hr' : ∀ r, row = some r → ∃ o : Obj, X.heap[r]? = some o ∧ o.isCells = false := fun r e => (hr r e).2
  exact ⟨⟨v, blk_grown h1 hg hr', ownS_grown h2 hg hr', h3⟩, ownFrom_fresh (β := Unit) hB () X Y row h4 hg hr⟩
def ListedP (l : List Ev) (w : World) (e : Ending) (w' : World) : Prop :=
  ∃ v', e = .returned v' ∧ OwnS w' 25 7 v' l.length (cells l) ∧ Fresh w w' ∧ ∀ k, v'.ownBlock = some k → w.heap.size ≤ k
set_option maxRecDepth 100000 in
set_option maxHeartbeats 4000000 in
theorem listed_any (b : Nat) (v : Value) (l : List Ev) (w : World) (hb : Blk w b 42 #[v]) (ho : OwnS w 25 7 v l.length (cells l)) (hl : l.length ≤ 300) :
    Calls Try.prog 17 #[seqV b] w (ListedP l w) := by
  have F0 : Fresh w (w.alloc (.cells #[.slice none 0 0] 42)) := (Keep.refl _ _).alloc _
  have B0 := Blk.new w 42 #[.slice none 0 0]
  have hbk : bk v < w.heap.size := by
    unfold bk
    cases h : v.ownBlock with
    | none => have := hb.lt; simp; omega
    | some k => simpa using ho.lt h
  have HB := Lib.hid hb
  have HO := Lib.hid ho
  obtain ⟨i0, hi, hz0, hz1, hz2⟩ := info_parts info_ev
  clear hb ho
  simp only [seqV]
  refine (callsIn_wide (n := 6)).1 ?_
  refine callsIn_of_wp_marks Try.func17 rfl trivial ?_ rfl
  simp only [Try.ntmps17, List.size_toArray, List.length_cons, List.length_nil, Nat.reduceAdd, Nat.reduceSub, Array.replicate_succ, Array.replicate_zero, List.push_toArray, List.append_toArray, List.nil_append, List.cons_append]
  gi_wp2_with fail
  obtain ⟨w1, hw1⟩ : ∃ w1, w.alloc (.cells #[.slice none 0 0] 42) = w1 := ⟨_, rfl⟩
  rw [hw1] at F0 B0 ⊢
  have Q1 := Lib.hid (F0.blk_ HB.out)
  have Q2 := Lib.hid (HO.out.fresh F0)
  have Q3 := Lib.hid F0
  have Q4 := Lib.hid B0
  have szF := F0.size
  have szN := B0.lt
  clear hw1 F0 B0 HB HO
  refine wpIn_rangeFunc_ownH rfl (by omega) (gf := 52) (lb := #[.pointer (some ⟨b, 0, none⟩)]) rfl trivial (enters_of Try.func52 (by kernel_rfl) rfl)
    (vals_stops Fence.wide (6 - 1) trivial rfl (by omega) b v l (by omega) w1 Q1.out Q2.out) keepsB_t keepsB_b (Below.refl _ _) (fun _ => rfl)
    (LInv w) (fun _ _ _ => False) (lInv_own w _ (by omega)) (fun _ _ _ _ _ hs _ _ => hs)
    ⟨⟨.slice none 0 0, Q4.out, OwnS.nil _ _ _, fun k hk => by simp [Value.ownBlock] at hk⟩, Q3.out⟩
    (fun y a' W => ∃ Bx, Blk W Bx 25 #[.int .i64 y.a, .int .i64 y.s, .int .i64 y.t, .int .i64 y.n, .int .i64 y.d, .int .i64 y.k, .int .i64 y.x] ∧ a' = { tmps := #[.func (.func 52) #[] #[.pointer (some ⟨b, 0, none⟩)], undef, .slice none 0 0, .pointer (some ⟨w.heap.size, 0, none⟩), .pointer (some ⟨Bx, 0, none⟩), .func (.func 52) #[] #[.pointer (some ⟨b, 0, none⟩)], .bool false, undef, .func (.func 52) #[] #[.pointer (some ⟨b, 0, none⟩)], .agg #[.int .i64 y.a, .int .i64 y.s, .int .i64 y.t, .int .i64 y.n, .int .i64 y.d, .int .i64 y.k, .int .i64 y.x], undef, undef, undef, undef, undef, undef, undef, undef], defers := [] }) ?ax ?assign ?body ?done ?stop
  case ax =>
    rintro x a' u X Y row ⟨Bx, h2, h3⟩ hg hr
    exact ⟨Bx, blk_grown h2 hg (fun r e => (hr r e).2), h3⟩
  case assign =>
    rintro lp pre y W K ⟨⟨v2, b2, o2, n2⟩, f2⟩ hK
    unfold enc Ev.val
    gi_wp2
    exact hK _ _ ((KeepsOthers.alloc _ _).from _) ((KeepsB.refl _ _ _).alloc _) ⟨⟨v2, b2.alloc _, o2.alloc _, n2⟩, f2.alloc _⟩ ⟨W.heap.size, Blk.new W _ _, rfl⟩
  case body =>
    rintro lp pre y a' W hlp hrec ⟨⟨v2, b2, o2, n2⟩, f2⟩ ⟨Bx, bx, rfl⟩ hlt
    obtain ⟨A2, cap2, rfl, _, _⟩ := o2.shape
    have c2 := b2.cell
    have r2 := b2.frozen
    have l2 := b2.lt
    have cX := bx.cell
    have ne2 := o2.ne_blk b2 (by decide)
    have HC : Hid (Src (W.alloc (.cells #[.int .i64 y.a, .int .i64 y.s, .int .i64 y.t, .int .i64 y.n, .int .i64 y.d, .int .i64 y.k, .int .i64 y.x] 25)) 7 (.slice (some ⟨W.heap.size, 0, none⟩) 1 1) 1 (cells [y])) := Src.one_new W 25 7 #[.int .i64 y.a, .int .i64 y.s, .int .i64 y.t, .int .i64 y.n, .int .i64 y.d, .int .i64 y.k, .int .i64 y.x] rfl
    have h07 : Hid (0 < 7) := Lib.hid (by omega)
    have hL1 := Lib.hid (show pre.length + 1 ≤ maxLen from one_le_maxLen (by omega))
    have hL2 := Lib.hid (show (pre.length + 1) * 56 ≤ 140737488355328 by omega)
    have t1 : decide ((300 : Int) < (pre.length : Int) + 1) = false := decide_eq_false (by omega)
    have t1' : decide (300 < pre.length + 1) = false := decide_eq_false (by omega)
    have U1 := Lib.hid b2
    have U2 := Lib.hid o2
    have U3 := Lib.hid n2
    have U4 := Lib.hid f2
    have U5 := Lib.hid ne2
    clear b2 o2 n2 f2 ne2 bx hrec
    gi_wp2_with (gi_at_builtin; refine wpListIn_append_OwnS _ rfl _ _ 42 rfl 25 i0 _ 7 56 Try.underlying42 hi hz0 hz1 hz2 rfl h07.out (.slice A2 pre.length cap2) pre.length (cells pre) rfl (U2.out.alloc _) (.slice (some ⟨W.heap.size, 0, none⟩) 1 1) 1 (cells [y]) rfl HC.out (cells_one _) hL1.out hL2.out ?_; intro v3 w3 o3 k3 n3; obtain ⟨A3, cap3, rfl, _, _⟩ := o3.shape; have b3 := (U1.out.alloc (.cells #[.int .i64 y.a, .int .i64 y.s, .int .i64 y.t, .int .i64 y.n, .int .i64 y.d, .int .i64 y.k, .int .i64 y.x] 25)).keep k3 U5.out; have c3 := b3.cell; have r3 := b3.frozen; have l3 := b3.lt; have V1 := Lib.hid b3; have V2 := Lib.hid o3; have V3 := Lib.hid k3; have V4 := Lib.hid n3; clear b3 o3 k3 n3)
    have K1 : Keep (fun k => k = w.heap.size ∨ (Value.slice A2 pre.length cap2).ownBlock = some k) W (w3.setCell ⟨w.heap.size, 0, none⟩ (.slice A3 (pre.length + 1) cap3)) :=
      (((Keep.refl _ W).alloc _).step V3.out (fun _ _ h => .inr h)).setCell (fun _ => .inl rfl) _
    refine ⟨(keepsOthers_of_keep K1 ?_).from _, KeepsB.of_keep' K1 ?_, ⟨.slice A3 (pre.length + 1) cap3, V1.out.set_ 0 _, ?_, ?_⟩, ?_⟩
    · rintro k o (rfl | hk) ho
      · exact blk_isCells U1.out ho
      · exact own_isCells U2.out hk ho
    · rintro cur hcur (h | h)
      · omega
      · have := U3.out _ h; omega
    · have := V2.out.far (p := ⟨w.heap.size, 0, none⟩) (V2.out.ne_blk V1.out (by decide)) (.slice A3 (pre.length + 1) cap3)
      rw [List.length_append, cells_append]
      exact this
    · intro k hk
      rcases V4.out k hk with h | h
      · exact U3.out k h
      · have := U4.out.size
        simp at h
        omega
    · exact U4.out.step K1 (by
        rintro k hk (h | h)
        · omega
        · have := U3.out k h; omega)
  case done =>
    rintro D ys W hD rfl hI hK
    obtain ⟨⟨v2, b2, o2, n2⟩, f2⟩ := hI
    have hr : ∀ r, some D = some r → ∃ o : Obj, W.heap[r]? = some o ∧ o.isCells = false := fun r e => by cases e; exact ⟨_, hK, rfl⟩
    have o3 := ownS_grown o2 (grownBy_putObj' W D (.deferred none)) hr
    have f3 := ownFrom_fresh (β := Unit) (show w.heap.size ≤ w1.heap.size by omega) () W _ _ f2 (grownBy_putObj' W D (.deferred none)) (fun r e => by cases e; exact ⟨hD, _, hK, rfl⟩)
    have c2 := b2.cell
    obtain ⟨A2, cap2, rfl, _, _⟩ := o2.shape
    have l2 := b2.lt
    have U1 := Lib.hid o3
    have U2 := Lib.hid f3
    have U3 := Lib.hid n2
    clear b2 o2 n2 f2 o3 f3
    gi_wp2
    refine ⟨by simp, .inl ⟨_, _, rfl, run_takeDeferred hK, ?_⟩⟩
    exact ⟨_, results_tmp rfl _ _ _, .slice A2 ys.length cap2, rfl, U1.out, U2.out, U3.out⟩
  case stop =>
    rintro D c pre W _ _ h _
    exact h.elim
end Go.Proofs.Ytecobebndjnhnaa
