/- SlabNil returns true at every input: a nil slab has nothing. No conditions. -/
import Derived.Test.YtdobhicjhgdhnaaNilIter
namespace Go.Proofs.Ytdobhicjhgdhnaa
open Go.RowKit Go.Shelf
attribute [local go_sem] Oper.semAt_some
theorem run_eql_func (fn : Fn) (a b : Array Value) (w : World) : (binOp .eql 55 (.func fn a b) .nilFunc).run Try.prog w = .ok (.bool false) w := by
  first | rfl | (kernel_rfl)
attribute [local go_sem] run_eql_func

set_option maxRecDepth 100000 in
set_option maxHeartbeats 4000000 in
theorem nil_any (a c : Int) (u : Bool) (v t h y : Int) (w : World) : Law Try.prog 8 #[.agg #[.int .i64 a, .int .i64 c, .bool u, .int .i64 v, .int .i64 t, .int .i64 h, .int .i64 y]] w := by
  unfold Law
  refine (callsIn_wide (n := 6)).1 ?_
  refine callsIn_of_wp_marks Try.func8 rfl trivial ?_ rfl
  simp only [Try.ntmps8, List.size_toArray, List.length_cons, List.length_nil, Nat.reduceAdd, Nat.reduceSub, Array.replicate_succ, Array.replicate_zero, List.push_toArray, List.append_toArray, List.nil_append, List.cons_append]
  gi_wp2_with fail
  refine ⟨trivial, ?_⟩
  refine (callsIn_wide.2 (take_nil c v u _)).mono ?_
  rintro e w1 ⟨rfl, f1⟩
  have b1 := f1.blk_ (Blk.new w 34 #[.int .i64 a, .int .i64 c, .bool u, .int .i64 v, .int .i64 t, .int .i64 h, .int .i64 y])
  have c1 := b1.cell
  have l1 := b1.lt
  have B1 := Lib.hid (b1.alloc (.cells #[.int .i64 0, .int .i64 0] 32))
  have BH := Lib.hid (Blk.new w1 32 #[.int .i64 0, .int .i64 0])
  have F1 := Lib.hid ((((Keep.refl _ w).alloc _).step f1 (fun _ _ h => h)).alloc (.cells #[.int .i64 0, .int .i64 0] 32))
  clear b1 f1
  gi_wp2_with fail
  refine ⟨trivial, ?_⟩
  refine (callsIn_wide.2 (get_nil h y _)).mono ?_
  rintro e w2 ⟨rfl, f2⟩
  have c2 := (f2.blk_ B1.out).cell
  gi_wp2_with fail
  refine ⟨trivial, ?_⟩
  refine (callsIn_wide.2 (free_nil h y _)).mono ?_
  rintro e w3 ⟨rfl, f3⟩
  have f3 := f2.step f3 (fun _ _ h => h)
  have c3 := (Fresh.blk_ f3 B1.out).cell
  gi_wp2_with fail
  refine ⟨trivial, ?_⟩
  refine (callsIn_wide.2 (class_nil h y _)).mono ?_
  rintro e w4 ⟨rfl, f4⟩
  have f4 := Keep.step f3 f4 (fun _ _ h => h)
  have G0 := Lib.hid (F1.out.step f4 (fun _ _ h => h))
  have GO := Lib.hid (Fresh.blk_ f4 B1.out)
  have GH := Lib.hid (Fresh.blk_ f4 BH.out)
  clear f2 f3 f4 c1 c2 c3 B1 BH F1
  gi_wp2_with fail
  refine ⟨trivial, ?_⟩
  refine (callsIn_wide.2 (all_nil _)).mono ?_
  rintro e w5 ⟨rfl, rfl⟩
  gi_wp2_with fail
  have W5 : ∀ o : Obj, Fresh w4 (((w4.alloc (.cells #[.slice none 0 0] 30)).alloc (.cells #[.slice none 0 0] 29)).alloc o) := fun o => (((Keep.refl _ w4).alloc _).alloc _).alloc _
  have B1 : Blk (((w4.alloc (.cells #[.slice none 0 0] 30)).alloc (.cells #[.slice none 0 0] 29)).alloc (.cells #[.int .i64 0] 3)) w4.heap.size 30 #[.slice none 0 0] := ((Blk.new w4 _ _).alloc _).alloc _
  have B2 : Blk (((w4.alloc (.cells #[.slice none 0 0] 30)).alloc (.cells #[.slice none 0 0] 29)).alloc (.cells #[.int .i64 0] 3)) (w4.heap.size + 1 + 1) 3 #[.int .i64 0] := Blk.at_new (by simp) _ _
  have G1 := Lib.hid (G0.out.step (W5 (.cells #[.int .i64 0] 3)) (fun _ _ h => h))
  have GO1 := Lib.hid (Fresh.blk_ (W5 (.cells #[.int .i64 0] 3)) GO.out)
  have GH1 := Lib.hid (Fresh.blk_ (W5 (.cells #[.int .i64 0] 3)) GH.out)
  obtain ⟨w5, hw5⟩ : ∃ w5, (((w4.alloc (.cells #[.slice none 0 0] 30)).alloc (.cells #[.slice none 0 0] 29)).alloc (.cells #[.int .i64 0] 3)) = w5 := ⟨_, rfl⟩
  rw [hw5] at B1 B2 G1 GO1 GH1 ⊢
  have ltb := B1.lt
  have Q1 := Lib.hid B1
  have Q2 := Lib.hid B2
  clear B1 B2 hw5 W5 G0 GO GH
  have szw := G1.out.size
  refine wpIn_rangeFunc_ownG rfl (by omega) (gf := 34) (lb := #[.pointer (some ⟨w4.heap.size, 0, none⟩), .pointer (some ⟨w4.heap.size + 1, 0, none⟩)]) rfl trivial (enters_of Try.func34 (by kernel_rfl) rfl)
    (all0_stops Fence.wide (6 - 1) trivial rfl (by omega) w4.heap.size (w4.heap.size + 1) w5 (KeepsB 0 0) Q1.out) keepsB_t keepsB_b (Below.refl _ _) (fun x => nomatch x)
    (fun _ W => (Fresh w W ∧ Blk W w.heap.size 34 #[.int .i64 a, .int .i64 c, .bool u, .int .i64 v, .int .i64 t, .int .i64 h, .int .i64 y]) ∧ Blk W w1.heap.size 32 #[.int .i64 0, .int .i64 0] ∧ Blk W (w4.heap.size + 1 + 1) 3 #[.int .i64 0]) (fun _ _ _ => False) ?own (fun _ _ _ _ _ hs _ _ => hs)
    ⟨⟨G1.out, GO1.out⟩, GH1.out, Q2.out⟩
    (fun x => nomatch x) (fun _ x => nomatch x) (fun _ _ x => nomatch x) ?done (fun _ _ _ _ _ hs => hs.elim)
  case own =>
    intro pre X Y row hs hg hr
    have hr' : ∀ r, row = some r → ∃ o : Obj, X.heap[r]? = some o ∧ o.isCells = false := fun r e => (hr r e).2
    exact ⟨⟨ownFrom_fresh (β := Unit) (by omega) () X Y row hs.1.1 hg hr, blk_grown hs.1.2 hg hr'⟩, blk_grown hs.2.1 hg hr', blk_grown hs.2.2 hg hr'⟩
  case done =>
    rintro D ys W hD rfl ⟨⟨f2, b0⟩, bh, b2⟩ hK
    have c0 := b0.cell
    have ch := bh.cell
    have c2 := b2.cell
    have hDl := (Array.getElem?_eq_some_iff.1 hK).1
    have U1 := Lib.hid f2
    have U2 := Lib.hid b0
    have U4 := Lib.hid hK
    clear f2 b0 bh b2 hK
    gi_wp2_with (refine ⟨trivial, ?_⟩; first
      | (refine (callsIn_wide.2 (set_nil _ _ _ _)).mono ?_; rintro e w6 ⟨rfl, f6⟩)
      | (refine (callsIn_wide.2 (live_nil _ _ _ _)).mono ?_; rintro e w7 ⟨rfl, rfl⟩)
      | (refine (callsIn_wide.2 (left_nil _)).mono ?_; rintro e w7 ⟨rfl, rfl⟩)
      | (refine (callsIn_wide.2 (copy_nil _)).mono ?_; rintro e w7 ⟨rfl, rfl⟩)
      | (refine (callsIn_wide.2 (awake_any _)).mono ?_; rintro e w7 ⟨rfl, f7⟩))
    have hK7 : w7.heap[D]? = some (.deferred (some [])) := (f7.block D (Nat.lt_of_lt_of_le hDl f6.size) (fun h => h)).trans ((f6.block D hDl (fun h => h)).trans U4.out)
    have F7 := (U1.out.step f6 (fun _ _ h => h)).step f7 (fun _ _ h => h)
    have F8 := ownFrom_fresh (β := Unit) (Nat.le_refl w.heap.size) () w7 _ _ F7 (grownBy_putObj' w7 D (.deferred none)) (fun r e => by cases e; exact ⟨by omega, _, hK7, rfl⟩)
    refine ⟨by simp, .inl ⟨_, _, rfl, run_takeDeferred hK7, ?_⟩⟩
    exact ⟨_, results_tmp rfl _ _ _, rfl, Fresh.below_ F8 (Nat.le_refl _)⟩
open Go.ChangeShapes Go.WideShapes Go.ChangeAt
set_option maxRecDepth 100000 in
theorem slabNil_lifted (os : Os) (started : os.Started) (H : Type) (enc : TypeId × Value → H) :
    ReturnsInHanded {} Try.checked os 8 .any (Rows.slabNilSpec.pre6 enc Try.prog Try.f8 Rows.slabNilRow.domain false) (Rows.slabNilSpec.post enc Try.prog Try.f8 false true false false) := by
  refine law_lifted (C := Try.checked) (tb := 4) (by kernel_rfl) (by kernel_rfl) started (by kernel_rfl) Try.func8 rfl ?_ rfl Try.underlying4 (by kernel_rfl)
    (ChangeSpec.witness6 (enc := enc) (C := Try.checked) false ⟨#[], #[.agg #[.int .i64 0, .int .i64 0, .bool false, .int .i64 0, .int .i64 0, .int .i64 0, .int .i64 0]], []⟩ 12 (by kernel_rfl) (by kernel_rfl) (by kernel_rfl) (by kernel_rfl)) ?_
  · intro ds hds
    match ds, hds with
    | [e0], _ => rfl
  · intro W base args ds p hval hA hreach
    rw [Try.params8] at hA hval hreach
    obtain ⟨v0, vs0, d0, ds0, p0, q0, hargs, rfl, rfl, h0, r0⟩ := trodAll_cons hA
    obtain ⟨rfl, rfl, rfl⟩ := trodAll_nil r0
    obtain rfl : args = #[v0] := by cases args; simp_all
    obtain ⟨l0, rfl, hl0⟩ := arg_struct (n := 6) Try.underlying34 (by kernel_rfl) (hval 0 34 v0 rfl rfl) h0
    have hfl : flat Try.prog 6 34 = [3, 3, 4, 3, 3, 3, 3] := by kernel_rfl
    rw [hfl] at hl0; clear hfl
    obtain ⟨a, l1, e1, w_a, hl1⟩ := all2_int Try.underlying3 hl0
    obtain ⟨c, l2, e2, w_c, hl2⟩ := all2_int Try.underlying3 hl1
    obtain ⟨u, l3, e3, hl3⟩ := all2_bool Try.underlying4 hl2
    obtain ⟨v, l4, e4, w_v, hl4⟩ := all2_int Try.underlying3 hl3
    obtain ⟨t, l5, e5, w_t, hl5⟩ := all2_int Try.underlying3 hl4
    obtain ⟨h, l6, e6, w_h, hl6⟩ := all2_int Try.underlying3 hl5
    obtain ⟨y, l7, e7, w_y, hl7⟩ := all2_int Try.underlying3 hl6
    obtain rfl := all2_nil hl7
    subst e7 e6 e5 e4 e3 e2 e1
    clear hl7 hl6 hl5 hl4 hl3 hl2 hl1 hl0
    exact nil_any a c u v t h y W

theorem slabNil_holds : Rows.SlabNilSaid :=
  OpenClaim.holds_of_wide 8 Try.f8 rfl rfl rfl rfl rfl rfl rfl ⟨rfl, rfl, rfl, rfl, rfl⟩ rfl rfl rfl rfl rfl (by kernel_rfl) Try.func8 (by kernel_rfl)
    (of_decide_eq_true (by kernel_rfl)) (by unfold Func.isWrapper; first | (rw [if_pos (by decide +kernel)]; kernel_rfl) | (rw [if_neg (by decide +kernel)]; exact ⟨rfl, rfl⟩))
    (fun os started H enc _ => slabNil_lifted os started H enc)
end Go.Proofs.Ytdobhicjhgdhnaa
