/- Chapter 13: PNext. -/
import Derived.Test.YthbcdkeammhakaaGreatP09
set_option maxRecDepth 100000
set_option maxHeartbeats 16000000
namespace Go.Proofs.YthbcdkeammhakaaGreat
open Go.RowKit Go.Shelf
attribute [local go_sem] Oper.semAt_some
attribute [local go_sem ↓] Go.wp_at_zero Go.wp_at_succ
def nextE (l : List Ev) (a : Int) : Option Ev := l.find? (fun y => decide (a < y.a))
def NextP (o : Option Ev) (w : World) (e : Ending) (w' : World) : Prop :=
  (match o with
   | some y => e = .returned (.tuple #[.int .i64 y.a, .bool true])
   | none => e = .returned (.tuple #[.int .i64 0, .bool false])) ∧ Fresh w w'
theorem NextP.n {w w' : World} (f : Fresh w w') : NextP none w (.returned (.tuple #[.int .i64 0, .bool false])) w' := ⟨rfl, f⟩
theorem NextP.s {y : Ev} {w w' : World} (f : Fresh w w') : NextP (some y) w (.returned (.tuple #[.int .i64 y.a, .bool true])) w' := ⟨rfl, f⟩
structure NCells (a : Int) (x : Int) (b : Bool) (w W : World) : Prop where
 f : Fresh w W
 ba : Blk W w.heap.size 3 #[.int .i64 a]
 bx : Blk W (w.heap.size + 1) 3 #[.int .i64 x]
 bb : Blk W (w.heap.size + 2) 4 #[.bool b]
theorem NCells.own {a x : Int} {b : Bool} {w X Y : World} {row : Option Nat} {B : Nat} (hB : w.heap.size ≤ B) (h : NCells a x b w X) (hg : X.grownBy Y row) (hr : ∀ r, row = some r → B ≤ r ∧ ∃ o : Obj, X.heap[r]? = some o ∧ o.isCells = false) : NCells a x b w Y := by
 have hr' : ∀ r, row = some r → ∃ o : Obj, X.heap[r]? = some o ∧ o.isCells = false := fun r e => (hr r e).2
 exact ⟨ownFrom_fresh (β := Unit) hB () X Y row h.f hg hr, blk_grown h.ba hg hr', blk_grown h.bx hg hr', blk_grown h.bb hg hr'⟩
theorem NCells.alloc {a x : Int} {b : Bool} {w W : World} (h : NCells a x b w W) (o : Obj) : NCells a x b w (W.alloc o) := ⟨h.f.alloc _, h.ba.alloc _, h.bx.alloc _, h.bb.alloc _⟩
theorem NCells.put {a x : Int} {b : Bool} {w W : World} (h : NCells a x b w W) (x' : Int) (b' : Bool) : NCells a x' b' w ((W.setCell ⟨w.heap.size + 1, 0, none⟩ (.int .i64 x')).setCell ⟨w.heap.size + 2, 0, none⟩ (.bool b')) := by
 have K1 : Keep (fun k => k = w.heap.size + 1 ∨ k = w.heap.size + 2) W ((W.setCell ⟨w.heap.size + 1, 0, none⟩ (.int .i64 x')).setCell ⟨w.heap.size + 2, 0, none⟩ (.bool b')) :=
  ((Keep.refl _ W).setCell (p := ⟨w.heap.size + 1, 0, none⟩) (fun _ => .inl rfl) _).setCell (p := ⟨w.heap.size + 2, 0, none⟩) (fun _ => .inr rfl) _
 refine ⟨h.f.step K1 (by rintro k hk (rfl | rfl) <;> omega), h.ba.keep K1 (by omega), ?_, ?_⟩
 ·have := (h.bx.set_ 0 (.int .i64 x')).far (p := ⟨w.heap.size + 2, 0, none⟩) (show w.heap.size + 1 ≠ w.heap.size + 2 by omega) (.bool b')
  simpa using this
 ·have := (h.bb.far (p := ⟨w.heap.size + 1, 0, none⟩) (show w.heap.size + 2 ≠ w.heap.size + 1 by omega) (.int .i64 x')).set_ 0 (.bool b')
  simpa using this
theorem next_any (g : Nat) (v1 v2 : Value) (l m : List Ev) (a : Int) (w : World) (h : SQ w g v1 v2 l m) (hl : l.length ≤ 100000) :
  Calls Tryz.prog 82 #[.pointer (some ⟨g, 0, none⟩), .int .i64 a] w (NextP (nextE l a) w) := by
 obtain ⟨A, cap, rfl, hnc, hmc⟩ := h.own1.shape
 have HO := Lib.hid h.own1
 have HE := Lib.hid (fun (W : World) (f : Fresh w W) => each_any g 0 A l.length cap W ((h.fresh f).blk.cell_ 0 rfl))
 have B0 : Blk (((w.alloc (.cells #[.int .i64 a] 3)).alloc (.cells #[.int .i64 0] 3)).alloc (.cells #[.bool false] 4)) (w.heap.size + 1 + 1) 4 #[.bool false] := Blk.at_new (by simp) _ _
 have B1 : Blk ((w.alloc (.cells #[.int .i64 a] 3)).alloc (.cells #[.int .i64 0] 3)) (w.heap.size + 1) 3 #[.int .i64 0] := Blk.at_new (by simp) _ _
 have N0 : Hid (NCells a 0 false w (((w.alloc (.cells #[.int .i64 a] 3)).alloc (.cells #[.int .i64 0] 3)).alloc (.cells #[.bool false] 4))) := Lib.hid ⟨(((Keep.refl _ w).alloc _).alloc _).alloc _, ((Blk.new w _ _).alloc _).alloc _, B1.alloc _, B0⟩
 clear h B0 B1
 refine (callsIn_wide (n := 6)).1 ?_
 refine callsIn_of_wp_marks Tryz.func82 rfl trivial ?_ rfl
 simp only [Tryz.ntmps82, List.size_toArray, List.length_cons, List.length_nil, Nat.reduceAdd, Nat.reduceSub, Array.replicate_succ, Array.replicate_zero, List.push_toArray, List.append_toArray, List.nil_append, List.cons_append]
 refine wpIn_wide.2 ?_
 go_wp2_with (go_at_call 109; (with_reducible refine (HE.out _ N0.out.f).mono ?_); rintro e w1 ⟨b1, rfl, B1, N1, F1⟩)
 have NC : Hid (NCells a 0 false w w1) := Lib.hid ⟨N0.out.f.step F1 (fun _ _ h => h), F1.blk_ N0.out.ba, F1.blk_ N0.out.bx, F1.blk_ N0.out.bb⟩
 have KB := Lib.hid B1
 have szF := NC.out.f.size
 have szM := NC.out.bb.lt
 simp only [seqV]
 clear F1 B1 N1 HE N0
 refine (wpIn_wide (n := 6)).1 ?_
 refine wpIn_rangeFunc_ownH rfl (by omega) (gf := 143) (lb := #[.pointer (some ⟨b1, 0, none⟩)]) rfl trivial (enters_of Tryz.func143 (by kernel_rfl) rfl)
  (vals_stops Fence.wide (6 - 1) trivial rfl (by omega) b1 (.slice A l.length cap) l (by omega) w1 KB.out (HO.out.fresh NC.out.f)) keepsB_t keepsB_b (Below.refl _ _) (fun _ => rfl)
  (fun pre W => NCells a 0 false w W ∧ ∀ z ∈ pre, decide (a < z.a) = false)
  (fun c pre W => c = .ret ∧ ∃ pre' y, pre = pre' ++ [y] ∧ decide (a < y.a) = true ∧ (∀ z ∈ pre', decide (a < z.a) = false) ∧ NCells a y.a true w W) ?own ?ownx
  ⟨NC.out, by simp⟩
  (fun y a' W => ∃ Bx, Blk W Bx 41 #[.int .i64 y.a, .int .i64 y.s, .int .i64 y.t, .int .i64 y.n, .int .i64 y.d, .int .i64 y.k, .int .i64 y.x] ∧ a' = { tmps := #[.pointer (some ⟨g, 0, none⟩), .int .i64 a, undef, .pointer (some ⟨w.heap.size, 0, none⟩), .pointer (some ⟨w.heap.size + 1, 0, none⟩), .pointer (some ⟨w.heap.size + 1 + 1, 0, none⟩), .pointer (some ⟨Bx, 0, none⟩), .pointer (some ⟨g, 0, none⟩), .bool false, .pointer (some ⟨g, 0, none⟩), .pointer (some ⟨g, 0, none⟩), .pointer (some ⟨g, 0, none⟩), .pointer (some ⟨g, 0, none⟩), .func (.func 143) #[] #[.pointer (some ⟨b1, 0, none⟩)], .agg #[.int .i64 y.a, .int .i64 y.s, .int .i64 y.t, .int .i64 y.n, .int .i64 y.d, .int .i64 y.k, .int .i64 y.x], undef, undef, undef, undef, undef, undef, undef, undef], defers := [] }) ?ax ?assign ?body ?done ?stop
 case own =>
  intro pre X Y row hs hg hr
  exact ⟨hs.1.own (by omega) hg hr, hs.2⟩
 case ownx =>
  rintro c pre X Y row ⟨hc, p', y, h1, h2, h3, h4⟩ hg hr
  exact ⟨hc, p', y, h1, h2, h3, h4.own (by omega) hg hr⟩
 case ax =>
  rintro x a' u X Y row ⟨Bx, h2, h3⟩ hg hr
  exact ⟨Bx, blk_grown h2 hg (fun r e => (hr r e).2), h3⟩
 case assign =>
  rintro lp pre y W K ⟨f, s⟩ hK
  unfold enc Ev.val
  gi_wp2
  exact hK _ _ ((KeepsOthers.alloc _ _).from _) ((KeepsB.refl _ _ _).alloc _) ⟨f.alloc _, s⟩ ⟨W.heap.size, Blk.new W _ _, rfl⟩
 case body =>
  rintro lp pre y a' W hlp hrec ⟨f, s⟩ ⟨Bx, bx, rfl⟩ hlt
  have cX := bx.cell
  have cA := f.ba.cell
  have c1 := f.bx.cell
  have c2 := f.bb.cell
  have r1 := f.bx.frozen
  have r2 := f.bb.frozen
  have l1 := f.bx.lt
  have l2 := f.bb.lt
  have U1 := Lib.hid f
  have U2 := Lib.hid s
  clear f s bx hrec
  cases hq : decide (a < y.a)
  ·have HQ := Lib.hid hq
   gi_wp2_with fail
   refine ⟨(keepsOthers_of_keep (S := fun _ => False) (Keep.refl _ W) (fun _ _ h => h.elim)).from _, KeepsB.refl _ _ _, U1.out, fun z hz => ?_⟩
   rcases List.mem_append.1 hz with h | h
   ·exact U2.out z h
   ·rw [List.mem_singleton.1 h]; exact HQ.out
  ·have HQ := Lib.hid hq
   gi_wp2_with fail
   have K1 : Keep (fun k => k = w.heap.size + 1 ∨ k = w.heap.size + 2) W ((W.setCell ⟨w.heap.size + 1, 0, none⟩ (.int .i64 y.a)).setCell ⟨w.heap.size + 2, 0, none⟩ (.bool true)) :=
    ((Keep.refl _ W).setCell (p := ⟨w.heap.size + 1, 0, none⟩) (fun _ => .inl rfl) _).setCell (p := ⟨w.heap.size + 2, 0, none⟩) (fun _ => .inr rfl) _
   refine ⟨(keepsOthers_of_keep K1 ?_).from _, rfl, pre, y, rfl, HQ.out, U2.out, U1.out.put _ _⟩
   rintro k o (rfl | rfl) ho
   ·exact blk_isCells U1.out.bx ho
   ·exact blk_isCells U1.out.bb ho
 case done =>
  rintro D ys W hD rfl ⟨f, s⟩ hK
  have hDl := (Array.getElem?_eq_some_iff.1 hK).1
  have c1 := f.bx.cell
  have c2 := f.bb.cell
  have r1 := f.bx.frozen
  have r2 := f.bb.frozen
  have l1 := f.bx.lt
  have l2 := f.bb.lt
  have hz : nextE ys a = none := by
   unfold nextE
   rw [List.find?_eq_none]
   intro z hz
   rw [s z hz]
   simp
  have HZ := Lib.hid hz
  have P := Lib.hid (f.put 0 false)
  have K1 : Keep (fun k => k = w.heap.size + 1 ∨ k = w.heap.size + 2) W ((W.setCell ⟨w.heap.size + 1, 0, none⟩ (.int .i64 0)).setCell ⟨w.heap.size + 2, 0, none⟩ (.bool false)) :=
   ((Keep.refl _ W).setCell (p := ⟨w.heap.size + 1, 0, none⟩) (fun _ => .inl rfl) _).setCell (p := ⟨w.heap.size + 2, 0, none⟩) (fun _ => .inr rfl) _
  have HK := Lib.hid ((K1.block D hDl (by omega)).trans hK)
  clear f s hz K1
  go_wp2_with fail
  refine ⟨by simp, .inl ⟨_, _, rfl, run_takeDeferred HK.out, ?_⟩⟩
  have P2 := P.out.own (B := w.heap.size) (Nat.le_refl _) (grownBy_putObj' _ D (.deferred none)) (fun r e => by cases e; exact ⟨by omega, _, HK.out, rfl⟩)
  have c5 := P2.bx.cell
  have c6 := P2.bb.cell
  have f5 := P2.f
  clear P2 c1 c2
  exact ⟨.tuple #[.int .i64 0, .bool false], by simp [results, Tryz.results82, go_sem, c5, c6]; try rfl, by rw [HZ.out]; exact NextP.n f5⟩
 case stop =>
  rintro D c pre W hD hp ⟨rfl, p', y, rfl, h2, h3, f⟩ hK
  have hDl := (Array.getElem?_eq_some_iff.1 hK).1
  obtain ⟨r, hr⟩ := hp
  have hz : nextE l a = some y := by
   unfold nextE
   rw [← hr, List.append_assoc, List.find?_append, List.find?_eq_none.2 (fun z hz => by rw [h3 z hz]; simp)]
   simp [h2]
  have HZ := Lib.hid hz
  clear h2 h3 hr hz
  have P := Lib.hid f
  have HK := Lib.hid hK
  clear f hK
  refine wpIn_wide.2 ?_
  go_wp2_with fail
  refine ⟨by simp, .inl ⟨_, _, rfl, run_takeDeferred HK.out, ?_⟩⟩
  have P2 := P.out.own (B := w.heap.size) (Nat.le_refl _) (grownBy_putObj' _ D (.deferred none)) (fun r e => by cases e; exact ⟨by omega, _, HK.out, rfl⟩)
  have c5 := P2.bx.cell
  have c6 := P2.bb.cell
  have f5 := P2.f
  clear P2
  exact ⟨.tuple #[.int .i64 y.a, .bool true], by simp [results, Tryz.results82, go_sem, c5, c6]; try rfl, by rw [HZ.out]; exact NextP.s f5⟩
end Go.Proofs.YthbcdkeammhakaaGreat
