/- RingNil returns true at every input: a nil ring has nothing. No conditions. -/
import Derived.Test.YtfckbgifmajbjaaSame2
namespace Go.Proofs.Ytfckbgifmajbjaa
open Go.RowKit Go.Shelf
attribute [local go_sem] Oper.semAt_some run_eql_func'

set_option maxRecDepth 100000 in
set_option maxHeartbeats 4000000 in
theorem nil_any (a t x : Int) (w : World) : Law Try.prog 8 #[.agg #[.int .i64 a, .int .i64 t, .int .i64 x]] w := by
  unfold Law
  refine (callsIn_wide (n := 6)).1 ?_
  refine callsIn_of_wp_marks Try.func8 rfl trivial ?_ rfl
  simp only [Try.ntmps8, List.size_toArray, List.length_cons, List.length_nil, Nat.reduceAdd, Nat.reduceSub, Array.replicate_succ, Array.replicate_zero, List.push_toArray, List.append_toArray, List.nil_append, List.cons_append]
  gi_wp2_with (refine ⟨trivial, ?_⟩; first
      | (refine (callsIn_wide.2 (first_nil _)).mono ?_; rintro e w1 ⟨rfl, rfl⟩)
      | (refine (callsIn_wide.2 (last_nil _)).mono ?_; rintro e w1 ⟨rfl, rfl⟩))
  refine ⟨trivial, ?_⟩
  refine (callsIn_wide.2 (upto_nil t _)).mono ?_
  rintro e w1 ⟨rfl, f1⟩
  have b1 := f1.blk_ (Blk.new w 36 #[.int .i64 a, .int .i64 t, .int .i64 x])
  have c1 := b1.cell
  have l1 := b1.lt
  have F1 := Lib.hid (((Keep.refl _ w).alloc _).step f1 (fun _ _ h => h))
  have B1 := Lib.hid b1
  clear b1 f1
  gi_wp2_with fail
  refine ⟨trivial, ?_⟩
  refine (callsIn_wide.2 (all_nil _)).mono ?_
  rintro e w5 ⟨rfl, rfl⟩
  gi_wp2_with fail
  have W5 : ∀ o : Obj, Fresh w1 ((w1.alloc (.cells #[.slice none 0 0] 58)).alloc o) := fun o => ((Keep.refl _ w1).alloc _).alloc _
  have BA : Blk ((w1.alloc (.cells #[.slice none 0 0] 58)).alloc (.cells #[.int .i64 0] 3)) w1.heap.size 58 #[.slice none 0 0] := (Blk.new w1 _ _).alloc _
  have B2 : Blk ((w1.alloc (.cells #[.slice none 0 0] 58)).alloc (.cells #[.int .i64 0] 3)) (w1.heap.size + 1) 3 #[.int .i64 0] := Blk.at_new (by simp) _ _
  have G1 := Lib.hid (F1.out.step (W5 (.cells #[.int .i64 0] 3)) (fun _ _ h => h))
  have GO1 := Lib.hid (Fresh.blk_ (W5 (.cells #[.int .i64 0] 3)) B1.out)
  obtain ⟨w5, hw5⟩ : ∃ w5, ((w1.alloc (.cells #[.slice none 0 0] 58)).alloc (.cells #[.int .i64 0] 3)) = w5 := ⟨_, rfl⟩
  rw [hw5] at BA B2 G1 GO1 ⊢
  have ltb := BA.lt
  have Q1 := Lib.hid BA
  have Q2 := Lib.hid B2
  clear BA B2 hw5 W5 c1
  have szw := G1.out.size
  refine wpIn_rangeFunc_ownG rfl (by omega) (gf := 35) (lb := #[.pointer (some ⟨w1.heap.size, 0, none⟩)]) rfl trivial (enters_of Try.func35 (by kernel_rfl) rfl)
    (all0_stops Fence.wide (6 - 1) trivial rfl (by omega) w1.heap.size none 0 w5 (KeepsB 0 0) Q1.out) keepsB_t keepsB_b (Below.refl _ _) (fun x => nomatch x)
    (fun _ W => Fresh w W ∧ Blk W w.heap.size 36 #[.int .i64 a, .int .i64 t, .int .i64 x] ∧ Blk W (w1.heap.size + 1) 3 #[.int .i64 0]) (fun _ _ _ => False) ?own (fun _ _ _ _ _ hs _ _ => hs)
    ⟨G1.out, GO1.out, Q2.out⟩
    (fun x => nomatch x) (fun _ x => nomatch x) (fun _ _ x => nomatch x) ?done (fun _ _ _ _ _ hs => hs.elim)
  case own =>
    intro pre X Y row hs hg hr
    have hr' : ∀ r, row = some r → ∃ o : Obj, X.heap[r]? = some o ∧ o.isCells = false := fun r e => (hr r e).2
    exact ⟨ownFrom_fresh (β := Unit) (by omega) () X Y row hs.1 hg hr, blk_grown hs.2.1 hg hr', blk_grown hs.2.2 hg hr'⟩
  case done =>
    rintro D ys W hD rfl ⟨f2, b0, b2⟩ hK
    have c0 := b0.cell
    have c2 := b2.cell
    have hDl := (Array.getElem?_eq_some_iff.1 hK).1
    have U1 := Lib.hid f2
    have U2 := Lib.hid b0
    have U4 := Lib.hid hK
    clear f2 b0 b2 hK
    gi_wp2_with (refine ⟨trivial, ?_⟩; first
      | (refine (callsIn_wide.2 (push_nil _ _ _)).mono ?_; rintro e w6 ⟨rfl, rfl⟩)
      | (refine (callsIn_wide.2 (back_nil _ _)).mono ?_; rintro e w6 ⟨rfl, f6⟩; have c6 := (f6.blk_ U2.out).cell)
      | (refine (callsIn_wide.2 (front_nil _ _)).mono ?_; rintro e w7 ⟨rfl, f7⟩; have f7 := f6.step f7 (fun _ _ h => h); have c7 := (Fresh.blk_ f7 U2.out).cell)
      | (refine (callsIn_wide.2 (len_nil _)).mono ?_; rintro e w8 ⟨rfl, rfl⟩)
      | (refine (callsIn_wide.2 (room_nil _)).mono ?_; rintro e w8 ⟨rfl, rfl⟩)
      | (refine (callsIn_wide.2 (copy_nil _)).mono ?_; rintro e w8 ⟨rfl, rfl⟩)
      | (refine (callsIn_wide.2 (awake_any _)).mono ?_; rintro e w9 ⟨rfl, f9⟩))
    have f9 := Keep.step f7 f9 (fun _ _ h => h)
    have hK7 : w9.heap[D]? = some (.deferred (some [])) := (f9.block D hDl (fun h => h)).trans U4.out
    have F7 := U1.out.step f9 (fun _ _ h => h)
    have F8 := ownFrom_fresh (β := Unit) (Nat.le_refl w.heap.size) () w9 _ _ F7 (grownBy_putObj' w9 D (.deferred none)) (fun r e => by cases e; exact ⟨by omega, _, hK7, rfl⟩)
    refine ⟨by simp, .inl ⟨_, _, rfl, run_takeDeferred hK7, ?_⟩⟩
    exact ⟨_, results_tmp rfl _ _ _, rfl, Fresh.below_ F8 (Nat.le_refl _)⟩
open Go.ChangeShapes Go.WideShapes Go.ChangeAt
set_option maxRecDepth 100000 in
theorem ringNil_lifted (os : Os) (started : os.Started) (H : Type) (enc : TypeId × Value → H) :
    ReturnsInHanded {} Try.checked os 8 .any (Rows.ringNilSpec.pre6 enc Try.prog Try.f8 Rows.ringNilRow.domain false) (Rows.ringNilSpec.post enc Try.prog Try.f8 false true false false) := by
  refine law_lifted (C := Try.checked) (tb := 4) (by kernel_rfl) (by kernel_rfl) started (by kernel_rfl) Try.func8 rfl ?_ rfl Try.underlying4 (by kernel_rfl)
    (ChangeSpec.witness6 (enc := enc) (C := Try.checked) false ⟨#[], #[.agg #[.int .i64 0, .int .i64 0, .int .i64 0]], []⟩ 12 (by kernel_rfl) (by kernel_rfl) (by kernel_rfl) (by kernel_rfl)) ?_
  · intro ds hds
    match ds, hds with
    | [e0], _ => rfl
  · intro W base args ds p hval hA hreach
    rw [Try.params8] at hA hval hreach
    obtain ⟨v0, vs0, d0, ds0, p0, q0, hargs, rfl, rfl, h0, r0⟩ := trodAll_cons hA
    obtain ⟨rfl, rfl, rfl⟩ := trodAll_nil r0
    obtain rfl : args = #[v0] := by cases args; simp_all
    obtain ⟨l0, rfl, hl0⟩ := arg_struct (n := 6) Try.underlying36 (by kernel_rfl) (hval 0 36 v0 rfl rfl) h0
    have hfl : flat Try.prog 6 36 = [3, 3, 3] := by kernel_rfl
    rw [hfl] at hl0; clear hfl
    obtain ⟨a, l1, e1, w_a, hl1⟩ := all2_int Try.underlying3 hl0
    obtain ⟨t, l2, e2, w_t, hl2⟩ := all2_int Try.underlying3 hl1
    obtain ⟨x, l3, e3, w_x, hl3⟩ := all2_int Try.underlying3 hl2
    obtain rfl := all2_nil hl3
    subst e3 e2 e1
    clear hl3 hl2 hl1 hl0
    exact nil_any a t x W

theorem ringNil_holds : Rows.RingNilSaid :=
  OpenClaim.holds_of_wide 8 Try.f8 rfl rfl rfl rfl rfl rfl rfl ⟨rfl, rfl, rfl, rfl, rfl⟩ rfl rfl rfl rfl rfl (by kernel_rfl) Try.func8 (by kernel_rfl)
    (of_decide_eq_true (by kernel_rfl)) (by unfold Func.isWrapper; first | (rw [if_pos (by decide +kernel)]; kernel_rfl) | (rw [if_neg (by decide +kernel)]; exact ⟨rfl, rfl⟩))
    (fun os started H enc _ => ringNil_lifted os started H enc)
end Go.Proofs.Ytfckbgifmajbjaa
