/- SavesNil returns true at every input: a nil row has nothing. No conditions. -/
import Derived.Test.YtehiakdagmocjaaNilIter
import Derived.Test.YtehiakdagmocjaaAwake
namespace Go.Proofs.Ytehiakdagmocjaa
open Go.RowKit Go.Shelf R_int
attribute [local go_sem] Oper.semAt_some

theorem run_eql_func (fn : Fn) (a b : Array Value) (w : World) : (binOp .eql 37 (.func fn a b) .nilFunc).run Try.prog w = .ok (.bool false) w := by
  first | rfl | (kernel_rfl) | (simp [binOp]; done) | (unfold binOp; simp [Sem.run_bind]; trace_state; sorry)
attribute [local go_sem] run_eql_func

set_option maxRecDepth 100000 in
set_option maxHeartbeats 4000000 in
theorem nil_any (a t x : Int) (w : World) : Law Try.prog 7 #[.agg #[.int .i64 a, .int .i64 t, .int .i64 x]] w := by
  unfold Law
  refine (callsIn_wide (n := 6)).1 ?_
  refine callsIn_of_wp_marks Try.func7 rfl trivial ?_ rfl
  simp only [Try.ntmps7, List.size_toArray, List.length_cons, List.length_nil, Nat.reduceAdd, Nat.reduceSub, Array.replicate_succ, Array.replicate_zero, List.push_toArray, List.append_toArray, List.nil_append, List.cons_append]
  gi_wp2_with fail
  refine ⟨trivial, ?_⟩
  refine (callsIn_wide.2 (last_nil t _)).mono ?_
  rintro e w1 ⟨rfl, rfl⟩
  gi_wp2_with fail
  refine ⟨trivial, ?_⟩
  refine (callsIn_wide.2 (all_nil _)).mono ?_
  rintro e w1 ⟨rfl, rfl⟩
  rw [World.size_alloc]
  gi_wp2_with fail
  have B1 : Blk (((w.alloc (.cells #[.int .i64 a, .int .i64 t, .int .i64 x] 31)).alloc (.cells #[.slice none 0 0] 59)).alloc (.cells #[.int .i64 0] 3)) (w.heap.size + 1) 59 #[.slice none 0 0] := (Blk.at_new (by simp) _ _).alloc _
  have B0 : Blk (((w.alloc (.cells #[.int .i64 a, .int .i64 t, .int .i64 x] 31)).alloc (.cells #[.slice none 0 0] 59)).alloc (.cells #[.int .i64 0] 3)) w.heap.size 31 #[.int .i64 a, .int .i64 t, .int .i64 x] := ((Blk.new w 31 _).alloc _).alloc _
  have B2 : Blk (((w.alloc (.cells #[.int .i64 a, .int .i64 t, .int .i64 x] 31)).alloc (.cells #[.slice none 0 0] 59)).alloc (.cells #[.int .i64 0] 3)) (w.heap.size + 1 + 1) 3 #[.int .i64 0] := Blk.at_new (by simp) _ _
  have F0 : Fresh w (((w.alloc (.cells #[.int .i64 a, .int .i64 t, .int .i64 x] 31)).alloc (.cells #[.slice none 0 0] 59)).alloc (.cells #[.int .i64 0] 3)) := (((Keep.refl _ w).alloc _).alloc _).alloc _
  obtain ⟨w1, hw1⟩ : ∃ w1, (((w.alloc (.cells #[.int .i64 a, .int .i64 t, .int .i64 x] 31)).alloc (.cells #[.slice none 0 0] 59)).alloc (.cells #[.int .i64 0] 3)) = w1 := ⟨_, rfl⟩
  rw [hw1] at B1 B0 B2 F0 ⊢
  have ltb := B1.lt
  have Q1 := Lib.hid B1
  have Q0 := Lib.hid B0
  have Q2 := Lib.hid B2
  have Q3 := Lib.hid F0
  clear B1 B0 B2 F0 hw1
  refine wpIn_rangeFunc_ownG rfl (by omega) (gf := 35) (lb := #[.pointer (some ⟨w.heap.size + 1, 0, none⟩)]) rfl trivial (enters_of Try.func35 (by kernel_rfl) rfl)
    (all0_stops Fence.wide (6 - 1) trivial rfl (by omega) (w.heap.size + 1) w1 (KeepsB 0 0) Q1.out) keepsB_t keepsB_b (Below.refl _ _) (fun x => nomatch x)
    (fun _ W => Fresh w W ∧ Blk W w.heap.size 31 #[.int .i64 a, .int .i64 t, .int .i64 x] ∧ Blk W (w.heap.size + 1 + 1) 3 #[.int .i64 0]) (fun _ _ _ => False) ?own (fun _ _ _ _ _ hs _ _ => hs)
    ⟨Q3.out, Q0.out, Q2.out⟩
    (fun x => nomatch x) (fun _ x => nomatch x) (fun _ _ x => nomatch x) ?done (fun _ _ _ _ _ hs => hs.elim)
  case own =>
    intro pre X Y row hs hg hr
    have hr' : ∀ r, row = some r → ∃ o : Obj, X.heap[r]? = some o ∧ o.isCells = false := fun r e => (hr r e).2
    exact ⟨ownFrom_fresh (β := Unit) (by omega) () X Y row hs.1 hg hr, blk_grown hs.2.1 hg hr', blk_grown hs.2.2 hg hr'⟩
  case done =>
    rintro D ys W hD rfl ⟨f2, b0, b2⟩ hK
    have c0 := b0.cell
    have c2 := b2.cell
    have hDl := (Array.getElem?_eq_some_iff.1 hK).1
    have U1 := Lib.hid f2
    have U2 := Lib.hid b0
    have U3 := Lib.hid b2
    have U4 := Lib.hid hK
    clear f2 b0 b2 hK
    gi_wp2_with (refine ⟨trivial, ?_⟩; first
      | (refine (callsIn_wide.2 (save_nil _ _ _)).mono ?_; rintro e w1 ⟨rfl, rfl⟩)
      | (refine (callsIn_wide.2 (cut_nil _ _)).mono ?_; rintro e w1 ⟨rfl, rfl⟩)
      | (refine (callsIn_wide.2 (free_nil _ _)).mono ?_; rintro e w1 ⟨rfl, rfl⟩)
      | (refine (callsIn_wide.2 (times_nil _)).mono ?_; rintro e w6 ⟨rfl, f6⟩)
      | (refine (callsIn_wide.2 (len_nil _)).mono ?_; rintro e w1 ⟨rfl, rfl⟩)
      | (refine (callsIn_wide.2 (copy_nil _)).mono ?_; rintro e w1 ⟨rfl, rfl⟩)
      | (refine (callsIn_wide.2 (awake_any _)).mono ?_; rintro e w7 ⟨rfl, f7⟩))
    have hK7 : w7.heap[D]? = some (.deferred (some [])) := (f7.block D (Nat.lt_of_lt_of_le hDl f6.size) (fun h => h)).trans ((f6.block D hDl (fun h => h)).trans U4.out)
    have F7 := (U1.out.step f6 (fun _ _ h => h)).step f7 (fun _ _ h => h)
    have sz := Q3.out.size
    have F8 := ownFrom_fresh (β := Unit) (Nat.le_refl w.heap.size) () w7 _ _ F7 (grownBy_putObj' w7 D (.deferred none)) (fun r e => by cases e; exact ⟨by omega, _, hK7, rfl⟩)
    refine ⟨by simp, .inl ⟨_, _, rfl, run_takeDeferred hK7, ?_⟩⟩
    exact ⟨_, results_tmp rfl _ _ _, rfl, Fresh.below_ F8 (Nat.le_refl _)⟩
open Go.ChangeShapes Go.WideShapes Go.ChangeAt
set_option maxRecDepth 100000 in
theorem savesNil_lifted (os : Os) (started : os.Started) (H : Type) (enc : TypeId × Value → H) :
    ReturnsInHanded {} Try.checked os 7 .any (Rows.savesNilSpec.pre6 enc Try.prog Try.f7 Rows.savesNilRow.domain false) (Rows.savesNilSpec.post enc Try.prog Try.f7 false true false false) := by
  refine law_lifted (C := Try.checked) (tb := 4) (by kernel_rfl) (by kernel_rfl) started (by kernel_rfl) Try.func7 rfl ?_ rfl Try.underlying4 (by kernel_rfl)
    (ChangeSpec.witness6 (enc := enc) (C := Try.checked) false ⟨#[], #[.agg #[.int .i64 0, .int .i64 0, .int .i64 0]], []⟩ 12 (by kernel_rfl) (by kernel_rfl) (by kernel_rfl) (by kernel_rfl)) ?_
  · intro ds hds
    match ds, hds with
    | [e0], _ => rfl
  · intro W base args ds p hval hA hreach
    rw [Try.params7] at hA hval hreach
    obtain ⟨v0, vs0, d0, ds0, p0, q0, hargs, rfl, rfl, h0, r0⟩ := trodAll_cons hA
    obtain ⟨rfl, rfl, rfl⟩ := trodAll_nil r0
    obtain rfl : args = #[v0] := by cases args; simp_all
    obtain ⟨l0, rfl, hl0⟩ := arg_struct (n := 6) Try.underlying31 (by kernel_rfl) (hval 0 31 v0 rfl rfl) h0
    have hfl : flat Try.prog 6 31 = [3, 3, 3] := by kernel_rfl
    rw [hfl] at hl0; clear hfl
    obtain ⟨a, l1, e1, w_a, hl1⟩ := all2_int Try.underlying3 hl0
    obtain ⟨t, l2, e2, w_t, hl2⟩ := all2_int Try.underlying3 hl1
    obtain ⟨x, l3, e3, w_x, hl3⟩ := all2_int Try.underlying3 hl2
    obtain rfl := all2_nil hl3
    subst e3 e2 e1
    clear hl3 hl2 hl1 hl0
    exact nil_any a t x W

theorem savesNil_holds : Rows.SavesNilSaid :=
  OpenClaim.holds_of_wide 7 Try.f7 rfl rfl rfl rfl rfl rfl rfl ⟨rfl, rfl, rfl, rfl, rfl⟩ rfl rfl rfl rfl rfl (by kernel_rfl) Try.func7 (by kernel_rfl)
    (of_decide_eq_true (by kernel_rfl)) (by unfold Func.isWrapper; first | (rw [if_pos (by decide +kernel)]; kernel_rfl) | (rw [if_neg (by decide +kernel)]; exact ⟨rfl, rfl⟩))
    (fun os started H enc _ => savesNil_lifted os started H enc)
end Go.Proofs.Ytehiakdagmocjaa
