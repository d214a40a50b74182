/-
  inq.Queue: Late.
-/
import Derived.Test.YtecobebndjnhnaaRLate
namespace Go.Proofs.Ytecobebndjnhnaa
open Go.RowKit Go.Shelf
attribute [local go_sem] Oper.semAt_some
attribute [local go_sem ↓] Go.wp_at_zero Go.wp_at_succ

/-- the cells' own part -/
structure LCells (z : Ev) (b : Bool) (w W : World) : Prop where
  f : Fresh w W
  br : Blk W w.heap.size 25 #[.int .i64 0, .int .i64 0, .int .i64 0, .int .i64 0, .int .i64 0, .int .i64 0, .int .i64 0]
  bz : Blk W (w.heap.size + 1) 25 #[.int .i64 z.a, .int .i64 z.s, .int .i64 z.t, .int .i64 z.n, .int .i64 z.d, .int .i64 z.k, .int .i64 z.x]
  bb : Blk W (w.heap.size + 2) 4 #[.bool b]
theorem LCells.own {z : Ev} {b : Bool} {w X Y : World} {row : Option Nat} {B : Nat} (hB : w.heap.size ≤ B) (h : LCells z b w X) (hg : X.grownBy Y row) (hr : ∀ r, row = some r → B ≤ r ∧ ∃ o : Obj, X.heap[r]? = some o ∧ o.isCells = false) : LCells z b w Y := by
  have hr' : ∀ r, row = some r → ∃ o : Obj, X.heap[r]? = some o ∧ o.isCells = false := fun r e => (hr r e).2
  exact ⟨ownFrom_fresh (β := Unit) hB () X Y row h.f hg hr, blk_grown h.br hg hr', blk_grown h.bz hg hr', blk_grown h.bb hg hr'⟩
theorem LCells.alloc {z : Ev} {b : Bool} {w W : World} (h : LCells z b w W) (o : Obj) : LCells z b w (W.alloc o) := ⟨h.f.alloc _, h.br.alloc _, h.bz.alloc _, h.bb.alloc _⟩
theorem lput_keep {w W : World} (y : Ev) : Keep (fun k => k = w.heap.size + 1 ∨ k = w.heap.size + 2) W ((putEv W (w.heap.size + 1) y).setCell ⟨w.heap.size + 2, 0, none⟩ (.bool true)) :=
  (putEv_keep W _ y (.inl rfl)).setCell (p := ⟨w.heap.size + 2, 0, none⟩) (fun _ => .inr rfl) _
theorem LCells.put {z : Ev} {b : Bool} {w W : World} (h : LCells z b w W) (y : Ev) : LCells y true w ((putEv W (w.heap.size + 1) y).setCell ⟨w.heap.size + 2, 0, none⟩ (.bool true)) := by
  refine ⟨h.f.step (lput_keep y) (by rintro k hk (rfl | rfl) <;> omega), h.br.keep (lput_keep y) (by omega), ?_, ?_⟩
  · exact (putEv_blk h.bz y).far (p := ⟨w.heap.size + 2, 0, none⟩) (show w.heap.size + 1 ≠ w.heap.size + 2 by omega) _
  · have := (h.bb.keep (putEv_keep (S := fun k => k = w.heap.size + 1) W _ y rfl) (by omega)).set_ 0 (.bool true)
    simpa using this
def LateP (l : List Ev) (w : World) (e : Ending) (w' : World) : Prop :=
  e = .returned (.tuple #[(lateV l).val, .bool (lateL l).isSome]) ∧ Fresh w w'
set_option maxRecDepth 100000 in
set_option maxHeartbeats 8000000 in
theorem late_any (g : Nat) (v1 v2 : Value) (l m : List Ev) (w : World) (h : SQ w g v1 v2 l m) (hl : l.length ≤ 100000) :
    Calls Try.prog 30 #[.pointer (some ⟨g, 0, none⟩)] w (LateP l w) := by
  have hbk : bk v1 < w.heap.size := by
    unfold bk
    cases hv : v1.ownBlock with
    | none => have := h.blk.lt; simp; omega
    | some k => simpa using h.own1.lt hv
  obtain ⟨A, cap, rfl, hnc, hmc⟩ := h.own1.shape
  have HO := Lib.hid h.own1
  have HE := Lib.hid (fun (W : World) (f : Fresh w W) => each_any g 0 A l.length cap W ((h.fresh f).blk.cell_ 0 rfl))
  have B0 : Blk (((w.alloc (.cells #[.int .i64 0, .int .i64 0, .int .i64 0, .int .i64 0, .int .i64 0, .int .i64 0, .int .i64 0] 25)).alloc (.cells #[.int .i64 0, .int .i64 0, .int .i64 0, .int .i64 0, .int .i64 0, .int .i64 0, .int .i64 0] 25)).alloc (.cells #[.bool false] 4)) (w.heap.size + 1 + 1) 4 #[.bool false] := Blk.at_new (by simp) _ _
  have B1 : Blk ((w.alloc (.cells #[.int .i64 0, .int .i64 0, .int .i64 0, .int .i64 0, .int .i64 0, .int .i64 0, .int .i64 0] 25)).alloc (.cells #[.int .i64 0, .int .i64 0, .int .i64 0, .int .i64 0, .int .i64 0, .int .i64 0, .int .i64 0] 25)) (w.heap.size + 1) 25 #[.int .i64 0, .int .i64 0, .int .i64 0, .int .i64 0, .int .i64 0, .int .i64 0, .int .i64 0] := Blk.at_new (by simp) _ _
  have N0 : Hid (LCells Ev.zero false w (((w.alloc (.cells #[.int .i64 0, .int .i64 0, .int .i64 0, .int .i64 0, .int .i64 0, .int .i64 0, .int .i64 0] 25)).alloc (.cells #[.int .i64 0, .int .i64 0, .int .i64 0, .int .i64 0, .int .i64 0, .int .i64 0, .int .i64 0] 25)).alloc (.cells #[.bool false] 4))) := Lib.hid ⟨(((Keep.refl _ w).alloc _).alloc _).alloc _, ((Blk.new w _ _).alloc _).alloc _, B1.alloc _, B0⟩
  clear h B0 B1
  refine (callsIn_wide (n := 6)).1 ?_
  refine callsIn_of_wp_marks Try.func30 rfl trivial ?_ rfl
  simp only [Try.ntmps30, List.size_toArray, List.length_cons, List.length_nil, Nat.reduceAdd, Nat.reduceSub, Array.replicate_succ, Array.replicate_zero, List.push_toArray, List.append_toArray, List.nil_append, List.cons_append]
  refine wpIn_wide.2 ?_
  go_wp2_with (go_at_call 41; (with_reducible refine (HE.out _ N0.out.f).mono ?_); rintro e w1 ⟨b1, rfl, B1, N1, F1⟩)
  have NC : Hid (LCells Ev.zero false w w1) := Lib.hid ⟨N0.out.f.step F1 (fun _ _ h => h), F1.blk_ N0.out.br, F1.blk_ N0.out.bz, F1.blk_ N0.out.bb⟩
  have KB := Lib.hid B1
  have szF := NC.out.f.size
  have szM := NC.out.bb.lt
  simp only [seqV]
  clear F1 B1 N1 HE N0
  refine (wpIn_wide (n := 6)).1 ?_
  refine wpIn_rangeFunc_ownH rfl (by omega) (gf := 52) (lb := #[.pointer (some ⟨b1, 0, none⟩)]) rfl trivial (enters_of Try.func52 (by kernel_rfl) rfl)
    (vals_stops Fence.wide (6 - 1) trivial rfl (by omega) b1 (.slice A l.length cap) l (by omega) w1 KB.out (HO.out.fresh NC.out.f)) keepsB_t keepsB_b (Below.refl _ _) (fun _ => rfl)
    (fun pre W => LCells (lateV pre) (lateL pre).isSome w W)
    (fun _ _ _ => False) ?own (fun _ _ _ _ _ hs _ _ => hs)
    NC.out
    (fun y a' W => ∃ Bx, Blk W Bx 25 #[.int .i64 y.a, .int .i64 y.s, .int .i64 y.t, .int .i64 y.n, .int .i64 y.d, .int .i64 y.k, .int .i64 y.x] ∧ a' = { tmps := #[.pointer (some ⟨g, 0, none⟩), undef, .pointer (some ⟨w.heap.size, 0, none⟩), .bool false, .pointer (some ⟨w.heap.size + 1, 0, none⟩), .pointer (some ⟨w.heap.size + 1 + 1, 0, none⟩), .pointer (some ⟨Bx, 0, none⟩), .pointer (some ⟨g, 0, none⟩), .bool false, undef, .pointer (some ⟨g, 0, none⟩), .pointer (some ⟨g, 0, none⟩), .pointer (some ⟨g, 0, none⟩), .pointer (some ⟨g, 0, none⟩), .func (.func 52) #[] #[.pointer (some ⟨b1, 0, none⟩)], .agg #[.int .i64 y.a, .int .i64 y.s, .int .i64 y.t, .int .i64 y.n, .int .i64 y.d, .int .i64 y.k, .int .i64 y.x], undef, undef, undef, undef, undef, undef, undef, undef, undef, undef, undef, undef, undef, undef], defers := [] }) ?ax ?assign ?body ?done ?stop
  case own =>
    intro pre X Y row hs hg hr
    exact hs.own (by omega) hg hr
  case ax =>
    rintro x a' u X Y row ⟨Bx, h2, h3⟩ hg hr
    exact ⟨Bx, blk_grown h2 hg (fun r e => (hr r e).2), h3⟩
  case assign =>
    rintro lp pre y W K f hK
    unfold enc Ev.val
    gi_wp2
    exact hK _ _ ((KeepsOthers.alloc _ _).from _) ((KeepsB.refl _ _ _).alloc _) (f.alloc _) ⟨W.heap.size, Blk.new W _ _, rfl⟩
  case body =>
    rintro lp pre y a' W hlp hrec f ⟨Bx, bx, rfl⟩ hlt
    have cX := bx.cell
    have c1 := f.bz.cell
    have c2 := f.bb.cell
    have r1 := f.bz.frozen
    have r2 := f.bb.frozen
    have l1 := f.bz.lt
    have l2 := f.bb.lt
    have U1 := Lib.hid f
    have HS := Lib.hid (lateL_snoc pre y)
    clear f bx hrec
    have PUT : Hid (∀ (a : Act) (hz : lateL (pre ++ [y]) = some y), ownPostG w1.heap.size (KeepsB (bk (.slice A l.length cap)) 25) (fun pre W => LCells (lateV pre) (lateL pre).isSome w W) (fun _ _ _ => False) (pre ++ [y]) W .normal a ((putEv W (w.heap.size + 1) y).setCell ⟨w.heap.size + 2, 0, none⟩ (.bool true))) := Lib.hid fun a hz => by
      refine ⟨(keepsOthers_of_keep (lput_keep y) ?_).from _, KeepsB.of_keep (lput_keep y) (by omega), ?_⟩
      · rintro k o (rfl | rfl) ho
        · exact blk_isCells U1.out.bz ho
        · exact blk_isCells U1.out.bb ho
      · show LCells _ _ _ _
        unfold lateV
        rw [hz]
        exact U1.out.put y
    cases ho : lateL pre with
    | none =>
      rw [ho] at c2 HS
      gi_wp2_with fail
      exact PUT.out _ HS.out
    | some z =>
      rw [ho] at c2 HS
      have ez : lateV pre = z := by unfold lateV; rw [ho]; rfl
      rw [ez] at c1
      by_cases ht : z.t ≤ y.t
      · have t1 : decide (z.t ≤ y.t) = true := decide_eq_true ht
        have HS2 := Lib.hid (HS.out.trans (show lateS (some z) y = some y by unfold lateS; simp only; rw [if_pos ht]))
        clear ht ez
        gi_wp2_with fail
        exact PUT.out _ HS2.out
      · have t1 : decide (z.t ≤ y.t) = false := decide_eq_false ht
        have HS2 := Lib.hid (HS.out.trans (show lateS (some z) y = some z by unfold lateS; simp only; rw [if_neg ht]))
        have HO2 := Lib.hid ho
        clear ht ez ho
        gi_wp2_with fail
        refine ⟨(keepsOthers_of_keep (S := fun _ => False) (Keep.refl _ W) (fun _ _ h => h.elim)).from _, KeepsB.refl _ _ _, ?_⟩
        show LCells (lateV (pre ++ [y])) (lateL (pre ++ [y])).isSome w W
        have := U1.out
        unfold lateV at this ⊢
        rw [HO2.out] at this
        rw [HS2.out]
        exact this
  case done =>
    rintro D ys W hD rfl f hK
    have hDl := (Array.getElem?_eq_some_iff.1 hK).1
    have U1 := Lib.hid f
    have HK := Lib.hid hK
    clear f hK
    obtain ⟨z, hz⟩ : ∃ z, lateV ys = z := ⟨_, rfl⟩
    obtain ⟨b, hb⟩ : ∃ b, (lateL ys).isSome = b := ⟨_, rfl⟩
    rw [hz, hb] at U1
    have HZ := Lib.hid hz
    have HB := Lib.hid hb
    clear hz hb
    have cZ := U1.out.bz.cell
    have cB := U1.out.bb.cell
    have cR := U1.out.br.cell
    have fR := U1.out.br.frozen
    have lR := U1.out.br.lt
    have fwd : Fresh W W.drew := (Keep.refl _ _).drew
    have P1 : Fresh w (putEv W w.heap.size z).drew := (U1.out.f.step (putEv_keep (S := fun k => k = w.heap.size) _ _ z rfl) (by rintro k hk rfl; omega)).drew
    have P2 := (putEv_blk U1.out.br z).drew
    have HK2 : Hid ((putEv W w.heap.size z).drew.heap[D]? = some (.deferred (some []))) := Lib.hid (((putEv_keep (S := fun k => k = w.heap.size) W w.heap.size z rfl).drew.block D hDl (by omega)).trans HK.out)
    have P1 := Lib.hid P1
    have P2 := Lib.hid P2
    clear fwd
    go_wp2_with fail
    rename_i K0 hK0
    refine Code.wp_mono (Q := normOnly K0) (fun e a w h => by cases e <;> first | exact h | exact h.elim) ?_
    go_region_law (fail)
    all_goals
      refine hK0 _ _ ?_
      obtain ⟨W5, hW5⟩ : ∃ W5, (putEv W w.heap.size z).drew = W5 := ⟨_, rfl⟩
      rw [hW5] at P1 P2 HK2
      unfold putEv at hW5
      rw [hW5]
      clear hK0 hW5 cR fR lR cZ cB
      go_wp2_with fail
      refine ⟨by simp, .inl ⟨_, _, rfl, run_takeDeferred HK2.out, ?_⟩⟩
      have hr : ∀ r, some D = some r → ∃ o : Obj, W5.heap[r]? = some o ∧ o.isCells = false := fun r e => by cases e; exact ⟨_, HK2.out, rfl⟩
      have c5 := (blk_grown P2.out (grownBy_putObj' W5 D (.deferred none)) hr).cell
      have f5 := ownFrom_fresh (β := Unit) (Nat.le_refl w.heap.size) () _ _ _ P1.out (grownBy_putObj' W5 D (.deferred none)) (fun r e => by cases e; exact ⟨by omega, _, HK2.out, rfl⟩)
      have hz := HZ.out
      have hb := HB.out
      subst hz hb
      exact ⟨.tuple #[(lateV ys).val, .bool (lateL ys).isSome], by unfold Ev.val; simp [results, Try.results30, go_sem, c5]; try rfl, rfl, f5⟩
  case stop =>
    rintro D c pre W _ _ h _
    exact h.elim
end Go.Proofs.Ytecobebndjnhnaa
