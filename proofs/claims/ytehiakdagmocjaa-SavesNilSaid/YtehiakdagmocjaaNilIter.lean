/-
  A loop over a nil row's All; Times of nil.
-/
import Derived.Test.YtehiakdagmocjaaTimes
namespace Go.Proofs.Ytehiakdagmocjaa
open Go.RowKit Go.Shelf R_int
attribute [local go_sem] Oper.semAt_some

set_option maxRecDepth 100000 in
set_option maxHeartbeats 2000000 in
theorem all0_in (F : Fence) (n : Nat) (hF : F.fn 35) (hro : F.round = none) (hn : 1 ≤ n) (lp bx : Nat) (W : World) (hb : W.cell? ⟨bx, 0, none⟩ = some (.slice none 0 0)) :
    CallsIn F n Try.prog 35 #[.func (.yield lp) #[] #[], .pointer (some ⟨bx, 0, none⟩)] W fun e W' => (∃ v, e = .returned v) ∧ W = W' := by
  refine callsIn_of_wp Try.func35 rfl hF ?_ hro
  simp only [Try.ntmps35, List.size_toArray, List.length_cons, List.length_nil, Nat.reduceAdd, Nat.reduceSub, Array.replicate_succ, Array.replicate_zero, List.push_toArray, List.append_toArray, List.nil_append, List.cons_append]
  gi_wp2
  gi_loopw [7] (fun i wr => i = .int .i64 0 ∧ wr = W) (fun i _ => 0)
  case atStart => exact ⟨rfl, rfl⟩
  case round =>
    obtain ⟨rfl, rfl⟩ := hrel
    gi_wp2
    go_end0
    exact ⟨⟨_, rfl⟩, rfl⟩

theorem all0_stops (F : Fence) (n : Nat) (hF : F.fn 35) (hro : F.round = none) (hn : 1 ≤ n) (bx : Nat) (w : World) (Kp : World → World → Prop) (hb : Blk w bx 59 #[.slice none 0 0]) :
    SeqStopsK F n Try.prog 35 #[.pointer (some ⟨bx, 0, none⟩)] (fun x : Empty => nomatch x) Kp (fun ys => ys = []) (fun _ => False) 0 w := fun lp J Jx W hW hJ hJx hY h0 => by
  have hbW := hb.below hW hb.lt
  exact (all0_in F n hF hro hn lp bx W (hbW.cell_ 0 rfl)).mono fun e W' ⟨h1, h2⟩ => ⟨h1, .inl ⟨[], rfl, h2 ▸ h0⟩⟩

set_option maxRecDepth 100000 in
set_option maxHeartbeats 2000000 in
theorem times_nil (w : World) :
    Calls Try.prog 15 #[.pointer none] w fun e w' => e = .returned (.slice none 0 0) ∧ Fresh w w' := by
  refine (callsIn_wide (n := 6)).1 ?_
  refine callsIn_of_wp_marks Try.func15 rfl trivial ?_ rfl
  simp only [Try.ntmps15, List.size_toArray, List.length_cons, List.length_nil, Nat.reduceAdd, Nat.reduceSub, Array.replicate_succ, Array.replicate_zero, List.push_toArray, List.append_toArray, List.nil_append, List.cons_append]
  gi_wp2_with fail
  refine ⟨trivial, ?_⟩
  refine (callsIn_wide.2 (all_nil _)).mono ?_
  rintro e w1 ⟨rfl, rfl⟩
  have B1 : Blk ((w.alloc (.cells #[.slice none 0 0] 33)).alloc (.cells #[.slice none 0 0] 59)) (w.heap.size + 1) 59 #[.slice none 0 0] := Blk.at_new (by simp) _ _
  have B0 : Blk ((w.alloc (.cells #[.slice none 0 0] 33)).alloc (.cells #[.slice none 0 0] 59)) w.heap.size 33 #[.slice none 0 0] := (Blk.new w 33 #[.slice none 0 0]).alloc _
  have F0 : Fresh w ((w.alloc (.cells #[.slice none 0 0] 33)).alloc (.cells #[.slice none 0 0] 59)) := ((Keep.refl _ w).alloc _).alloc _
  rw [World.size_alloc]
  obtain ⟨w1, hw1⟩ : ∃ w1, (w.alloc (.cells #[.slice none 0 0] 33)).alloc (.cells #[.slice none 0 0] 59) = w1 := ⟨_, rfl⟩
  rw [hw1] at B1 B0 F0 ⊢
  have Q1 := Lib.hid B1
  have Q2 := Lib.hid B0
  have Q3 := Lib.hid F0
  have ltb := B1.lt
  clear B1 B0 F0 hw1
  gi_wp2_with fail
  refine wpIn_rangeFunc_ownG rfl (by omega) (gf := 35) (lb := #[.pointer (some ⟨w.heap.size + 1, 0, none⟩)]) rfl trivial (enters_of Try.func35 (by kernel_rfl) rfl)
    (all0_stops Fence.wide (6 - 1) trivial rfl (by omega) (w.heap.size + 1) w1 (KeepsB 0 0) Q1.out) keepsB_t keepsB_b (Below.refl _ _) (fun x => nomatch x)
    (fun _ W => Fresh w W ∧ Blk W w.heap.size 33 #[.slice none 0 0]) (fun _ _ _ => False) ?own (fun _ _ _ _ _ hs _ _ => hs)
    ⟨Q3.out, Q2.out⟩
    (fun x => nomatch x) (fun _ x => nomatch x) (fun _ _ x => nomatch x) ?done (fun _ _ _ _ _ hs => hs.elim)
  case own =>
    intro pre X Y row hs hg hr
    have hr' : ∀ r, row = some r → ∃ o : Obj, X.heap[r]? = some o ∧ o.isCells = false := fun r e => (hr r e).2
    exact ⟨ownFrom_fresh (β := Unit) (by omega) () X Y row hs.1 hg hr, blk_grown hs.2 hg hr'⟩
  case done =>
    rintro D ys W hD rfl ⟨f2, b2⟩ hK
    have hr : ∀ r, some D = some r → ∃ o : Obj, W.heap[r]? = some o ∧ o.isCells = false := fun r e => by cases e; exact ⟨_, hK, rfl⟩
    have f3 := ownFrom_fresh (β := Unit) (show w.heap.size ≤ w1.heap.size by omega) () W _ _ f2 (grownBy_putObj' W D (.deferred none)) (fun r e => by cases e; exact ⟨hD, _, hK, rfl⟩)
    have c2 := b2.cell
    have U2 := Lib.hid f3
    clear f2 f3 b2
    gi_wp2
    refine ⟨by simp, .inl ⟨_, _, rfl, run_takeDeferred hK, ?_⟩⟩
    exact ⟨_, results_tmp rfl _ _ _, rfl, U2.out⟩
end Go.Proofs.Ytehiakdagmocjaa
