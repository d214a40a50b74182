/-
  The law's 'same' of two rings without things.
-/
import Derived.Test.YtfckbgifmajbjaaSame
import Derived.Test.YtfckbgifmajbjaaNilIter
namespace Go.Proofs.Ytfckbgifmajbjaa
open Go.RowKit Go.Shelf
attribute [local go_sem] Oper.semAt_some run_eql_func'

set_option maxRecDepth 100000 in
set_option maxHeartbeats 4000000 in
theorem same_none (g gs off cap room gr : Nat) (v : Value) (w : World) (h : Held g gs off cap room [] w) (h' : RRing w gr v room []) :
    Calls Try.prog 17 #[.pointer (some ⟨g, 0, none⟩), .pointer (some ⟨gr, 0, none⟩)] w fun e w' => e = .returned (.bool true) ∧ Fresh w w' := by
  refine (callsIn_wide (n := 6)).1 ?_
  refine callsIn_of_wp_marks Try.func17 rfl trivial ?_ rfl
  simp only [Try.ntmps17, List.size_toArray, List.length_cons, List.length_nil, Nat.reduceAdd, Nat.reduceSub, Array.replicate_succ, Array.replicate_zero, List.push_toArray, List.append_toArray, List.nil_append, List.cons_append]
  obtain ⟨Ar, capr, rfl, _, mca⟩ := h'.own.shape
  have hmr : capr ≤ 9223372036854775807 := by unfold maxLen at mca; omega
  have hroom := h.room
  have F0 : Fresh w ((w.alloc (.cells #[.pointer (some ⟨gr, 0, none⟩)] 30)).alloc (.cells #[.bool false] 4)) := ((Keep.refl _ w).alloc _).alloc _
  have H0 := Lib.hid h'
  have HS0 := Lib.hid h
  have HS := Lib.hid (h.fresh F0)
  have HR := Lib.hid (h'.fresh F0)
  have HF := Lib.hid F0
  have BS := Lib.hid ((Blk.new w 30 #[.pointer (some ⟨gr, 0, none⟩)]).alloc (.cells #[.bool false] 4))
  have BR : Hid (Blk ((w.alloc (.cells #[.pointer (some ⟨gr, 0, none⟩)] 30)).alloc (.cells #[.bool false] 4)) (w.heap.size + 1) 4 #[.bool false]) := Blk.at_new (by simp) _ _
  clear h h' F0
  gi_wp2_with fail
  refine ⟨trivial, ?_⟩
  refine (callsIn_wide.2 (all_any g gs off cap room [] _ HS.out)).mono ?_
  rintro e w1 ⟨v1, rfl, b1, o1, f1, n1⟩
  have e0 : ((w.alloc (.cells #[.pointer (some ⟨gr, 0, none⟩)] 30)).alloc (.cells #[.bool false] 4)).heap.size = w.heap.size + 1 + 1 := by simp
  rw [e0] at b1 n1 ⊢
  have hsz := b1.lt
  obtain ⟨A1, c1, rfl, _, _⟩ := o1.shape
  have Q1 := Lib.hid b1
  have Q2 := Lib.hid o1
  have Q3 := Lib.hid f1
  have Q4 := Lib.hid (HR.out.fresh f1)
  have Q5 := Lib.hid (HS.out.fresh f1)
  have Q6 := Lib.hid n1
  clear b1 o1 f1 n1
  gi_wp2_with fail
  have T3 := Lib.hid (HF.out.step Q3.out (fun _ _ h => h))
  have TS := Lib.hid (Q3.out.blk_ BS.out)
  have TR := Lib.hid (Q3.out.blk_ BR.out)
  have sz := T3.out.size
  refine wpIn_rangeFunc_ownG rfl (by omega) (gf := 35) (lb := #[.pointer (some ⟨w.heap.size + 1 + 1, 0, none⟩)]) rfl trivial (enters_of Try.func35 (by kernel_rfl) rfl)
    (all0_stops Fence.wide (6 - 1) trivial rfl (by omega) (w.heap.size + 1 + 1) A1 c1 _ (KeepsB 0 0) (Q1.out.alloc _)) keepsB_t keepsB_b (Below.refl _ _) (fun x => nomatch x)
    (fun _ W => (Fresh w W ∧ Blk W w1.heap.size 3 #[.int .i64 0]) ∧ Blk W w.heap.size 30 #[.pointer (some ⟨gr, 0, none⟩)] ∧ Blk W (w.heap.size + 1) 4 #[.bool false]) (fun _ _ _ => False) ?own (fun _ _ _ _ _ hs _ _ => hs)
    ⟨⟨T3.out.alloc _, Blk.new w1 3 _⟩, TS.out.alloc _, TR.out.alloc _⟩
    (fun x => nomatch x) (fun _ x => nomatch x) (fun _ _ x => nomatch x) ?done (fun _ _ _ _ _ hs => hs.elim)
  case own =>
    intro pre X Y row hs hg hr
    have hr' : ∀ r, row = some r → ∃ o : Obj, X.heap[r]? = some o ∧ o.isCells = false := fun r e => (hr r e).2
    exact ⟨⟨ownFrom_fresh (β := Unit) (by simp; omega) () X Y row hs.1.1 hg hr, blk_grown hs.1.2 hg hr'⟩, blk_grown hs.2.1 hg hr', blk_grown hs.2.2 hg hr'⟩
  case done =>
    rintro D ys W hD rfl ⟨⟨f2, bn⟩, bs, br⟩ hK
    have U0 := Lib.hid f2
    have UN := Lib.hid bn
    have US := Lib.hid bs
    have UB := Lib.hid br
    have HK := Lib.hid hK
    have hDl := (Array.getElem?_eq_some_iff.1 hK).1
    have HX : Hid (Held g gs off cap room [] W) := HS0.out.fresh U0.out
    clear f2 bn bs br hK
    have kR := fun (W : World) (h : Blk W gr 33 #[.int .i64 room, .slice Ar 0 capr]) (i : Nat) => h.cell i
    have kS := fun (W : World) (h : Blk W w.heap.size 30 #[.pointer (some ⟨gr, 0, none⟩)]) (i : Nat) => h.cell i
    have kN := fun (W : World) (h : Blk W w1.heap.size 3 #[.int .i64 0]) (i : Nat) => h.cell i
    have kB := fun (W' : World) (f : Fresh W W') (i : Nat) => (f.blk_ UB.out).cell i
    have kF := fun (W' : World) (f : Fresh W W') (i : Nat) => (f.blk_ UB.out).frozen i
    have kL := fun (W' : World) (f : Fresh W W') => (f.blk_ UB.out).lt
    have hgrn : gr ≠ w.heap.size + 1 := by have := H0.out.blk.lt; omega
    have KK : Hid (∀ W', Keep (fun k => k = w.heap.size + 1) W W' → (Keep (fun k => k = w.heap.size + 1) W W' ∧ Blk W' gr 33 #[.int .i64 room, .slice Ar 0 capr]) ∧ (Blk W' w.heap.size 30 #[.pointer (some ⟨gr, 0, none⟩)] ∧ Blk W' w1.heap.size 3 #[.int .i64 0])) := fun W' f =>
      ⟨⟨f, (H0.out.fresh U0.out).blk.keep f hgrn⟩, ⟨US.out.keep f (by omega), UN.out.keep f (by omega)⟩⟩
    have hwr0 : IntKind.i64.wrap (room : Int) = (room : Int) := IntWalk.i64_in _ (by omega)
    have te3 : ((room : Int) == (room : Int)) = true := by simp
    have fwd : Fresh W W.drew := (Keep.refl _ _).drew
    have hwr : IntKind.i64.wrap ((room : Int) - (0 : Int)) = (room : Int) - (0 : Int) := IntWalk.i64_in _ (by omega)
    have te1 : ((0 : Int) == (0 : Int)) = true := by simp
    have te2 : (((room : Int) - (0 : Int)) == ((room : Int) - (0 : Int))) = true := by simp
    have HLe : Hid (∀ W', Fresh W W' → Calls Try.prog 15 #[.pointer (some ⟨g, 0, none⟩)] W' fun e w' => e = .returned (.int .i64 0) ∧ W' = w') := fun W' f => len_held (HX.out.fresh f)
    have HRo : Hid (∀ W', Fresh W W' → Calls Try.prog 21 #[.pointer (some ⟨g, 0, none⟩)] W' fun e w' => e = .returned (.int .i64 ((room : Int) - 0)) ∧ Fresh W' w') := fun W' f => room_held (HX.out.fresh f)
    have fw : Fresh W W := Keep.refl _ _
    gi_wp2_with fail
    refine wpIn_wide.2 ?_
    go_region_held3 (fun W' => (Keep (fun k => k = w.heap.size + 1) W W' ∧ Blk W' gr 33 #[.int .i64 room, .slice Ar 0 capr]) ∧ (Blk W' w.heap.size 30 #[.pointer (some ⟨gr, 0, none⟩)] ∧ Blk W' w1.heap.size 3 #[.int .i64 0]))
      (first
        | exact KK.out _ (fwd.more (fun _ _ h => h.elim))
        | exact KK.out _ (fq.more (fun _ _ h => h.elim))
        | exact KK.out _ (Keep.setCell (S := fun k => k = w.heap.size + 1) (p := ⟨w.heap.size + 1, 0, none⟩) (fq.more (fun _ _ h => h.elim)) (fun _ => rfl) _))
      (first
        | (go_at_call 15; (with_reducible refine (HLe.out _ (by (repeat (first | (with_reducible exact Keep.refl _ _) | (with_reducible assumption) | (with_reducible refine Keep.drew ?_) | (with_reducible refine Keep.drewN ?_ _) | (with_reducible refine Keep.alloc ?_ _) | (with_reducible refine Keep.setCell ?_ ?_ _) | (with_reducible refine fun _ => rfl))))).mono ?_); rintro e wq ⟨rfl, rfl⟩)
        | (go_at_call 21; (with_reducible refine (HRo.out _ (by (repeat (first | (with_reducible exact Keep.refl _ _) | (with_reducible assumption) | (with_reducible refine Keep.drew ?_) | (with_reducible refine Keep.drewN ?_ _) | (with_reducible refine Keep.alloc ?_ _) | (with_reducible refine Keep.setCell ?_ ?_ _) | (with_reducible refine fun _ => rfl))))).mono ?_); rintro e wq ⟨rfl, fq⟩; have fq := Keep.step (S := fun _ => False) (by (repeat (first | (with_reducible exact Keep.refl _ _) | (with_reducible assumption) | (with_reducible refine Keep.drew ?_) | (with_reducible refine Keep.drewN ?_ _) | (with_reducible refine Keep.alloc ?_ _) | (with_reducible refine Keep.setCell ?_ ?_ _) | (with_reducible refine fun _ => rfl))) : Fresh W _) fq (fun _ _ h => h)))
    have b4 : Blk (wq.setCell ⟨w.heap.size + 1, 0, none⟩ (.bool true)) (w.heap.size + 1) 4 #[.bool true] := (Fresh.blk_ fq UB.out).set_ 0 (.bool true)
    have f4 : Fresh w (wq.setCell ⟨w.heap.size + 1, 0, none⟩ (.bool true)) := Keep.setCell (U0.out.step fq (fun _ _ h => h)) (p := ⟨w.heap.size + 1, 0, none⟩) (fun h => by simp at h; omega) _
    have k4 : (wq.setCell ⟨w.heap.size + 1, 0, none⟩ (.bool true)).heap[D]? = some (.deferred (some [])) := (Below.heap_setCell wq _ _ D (by simp at hD ⊢; omega)).trans ((fq.block D hDl (fun h => h)).trans HK.out)
    have c4 := b4.cell
    have F4 := Lib.hid f4
    have K4 := Lib.hid k4
    have B4 := Lib.hid b4
    clear b4 f4 k4 kB kF kL kN kS kR
    gi_wp2_with fail
    refine ⟨by simp, .inl ⟨_, _, rfl, run_takeDeferred K4.out, ?_⟩⟩
    have hr : ∀ r, some D = some r → ∃ o : Obj, (wq.setCell ⟨w.heap.size + 1, 0, none⟩ (.bool true)).heap[r]? = some o ∧ o.isCells = false := fun r e => by cases e; exact ⟨_, K4.out, rfl⟩
    have c5 := (blk_grown B4.out (grownBy_putObj' _ D (.deferred none)) hr).cell
    have f5 := ownFrom_fresh (β := Unit) (Nat.le_refl w.heap.size) () _ _ _ F4.out (grownBy_putObj' _ D (.deferred none)) (fun r e => by cases e; exact ⟨by simp at hD; omega, _, K4.out, rfl⟩)
    clear c4
    exact ⟨.bool true, by simp [results, Try.results17, go_sem, c5]; try rfl, rfl, f5⟩
end Go.Proofs.Ytfckbgifmajbjaa
