/- InqNil returns true at every input: a nil queue has nothing. No conditions. -/
import Derived.Test.YtecobebndjnhnaaListed
namespace Go.Proofs.Ytecobebndjnhnaa
open Go.RowKit
attribute [local go_sem ↓] Go.wp_at_zero Go.wp_at_succ
attribute [local go_sem ↓] run_eql_ev

theorem listed_nil (b : Nat) (w : World) (hb : Blk w b 42 #[.slice none 0 0]) : Calls Try.prog 17 #[seqV b] w fun e w' => ∃ A c, e = .returned (.slice A 0 c) ∧ Fresh w w' := by
  refine (listed_any b _ [] w hb (OwnS.nil _ _ _) (by simp)).mono ?_
  rintro e w' ⟨v', rfl, o, f, _⟩
  obtain ⟨A, c, rfl, _, _⟩ := o.shape
  exact ⟨A, c, rfl, f⟩
set_option maxRecDepth 100000 in
set_option maxHeartbeats 8000000 in
theorem nil_any (x : Ev) (an : Bool) (a : Int) (w : World) : Law Try.prog 9 #[x.msg an, .int .i64 a] w := by
  unfold Law
  have P1 := Lib.hid (fun W => put_nil x an W)
  have P2 := Lib.hid (fun W => has_nil x W)
  unfold Ev.msg at P1
  unfold Ev.val at P2
  unfold Ev.msg
  go_enter Try.func9, Try.ntmps9
  go_wp2_with fail
  refine (P1.out _).mono ?_
  rintro e w1 ⟨rfl, f1⟩
  have F1 : Hid (Fresh w w1) := Lib.hid (Keep.step ((Keep.refl _ w).alloc _) f1 (fun _ _ h => h))
  have BM := Lib.hid (Fresh.blk_ f1 (Blk.new w 34 #[.int .i64 x.a, .int .i64 x.s, .int .i64 x.t, .int .i64 x.n, .int .i64 x.d, .int .i64 x.k, .int .i64 x.x, .bool an]))
  have cm := BM.out.cell
  clear f1
  go_wp2_with fail
  have fA : Fresh w1 (w1.alloc (.cells #[.int .i64 x.a, .int .i64 x.s, .int .i64 x.t, .int .i64 x.n, .int .i64 x.d, .int .i64 x.k, .int .i64 x.x, .bool an, .int .i64 x.a, .int .i64 x.s, .int .i64 x.t, .int .i64 x.n, .int .i64 x.d, .int .i64 x.k, .int .i64 x.x, .bool an] 34)) := (Keep.refl _ _).alloc _
  refine (puts_nil _ _ _ _).mono ?_
  rintro e w2 ⟨rfl, f2⟩
  have f2' := fA.step f2 (fun _ _ h => h)
  have F2 := Lib.hid (F1.out.step f2' (fun _ _ h => h))
  have B2 := Lib.hid (Fresh.blk_ f2' BM.out)
  clear f2 f2' fA cm
  go_wp2_with fail
  refine (next_nil _ _).mono ?_
  rintro e w3 ⟨rfl, f3⟩
  have F3 := Lib.hid (F2.out.step f3 (fun _ _ h => h))
  have B3 := Lib.hid (Fresh.blk_ f3 B2.out)
  clear f3
  go_wp2_with fail
  refine (late_nil _).mono ?_
  rintro e w4 ⟨rfl, f4⟩
  have F4 := Lib.hid (F3.out.step f4 (fun _ _ h => h))
  have B4 := Lib.hid (Fresh.blk_ f4 B3.out)
  clear f4
  have fL : Hid (Fresh w4 (w4.alloc (.cells #[.int .i64 0, .int .i64 0, .int .i64 0, .int .i64 0, .int .i64 0, .int .i64 0, .int .i64 0] 25))) := Lib.hid ((Keep.refl _ _).alloc _)
  have L4 := Lib.hid (Blk.new w4 25 #[.int .i64 0, .int .i64 0, .int .i64 0, .int .i64 0, .int .i64 0, .int .i64 0, .int .i64 0])
  go_wp2_with fail
  refine (len_nil _).mono ?_
  rintro e w5 ⟨rfl, f5⟩
  have f5' := fL.out.step f5 (fun _ _ h => h)
  have F5 := Lib.hid (F4.out.step f5' (fun _ _ h => h))
  have B5 := Lib.hid (Fresh.blk_ f5' B4.out)
  have L5 := Lib.hid (Fresh.blk_ f5 L4.out)
  have cm := B5.out.cell
  have cl := L5.out.cell
  clear f5 f5'
  go_wp2_with fail
  refine (batch_nil _ _).mono ?_
  rintro e w6 ⟨rfl, f6⟩
  have F6 := Lib.hid (F5.out.step f6 (fun _ _ h => h))
  have B6 := Lib.hid (Fresh.blk_ f6 B5.out)
  clear f6 cm cl
  go_wp2_with fail
  refine (drop_nil _ _).mono ?_
  rintro e w7 ⟨rfl, f7⟩
  have F7 := Lib.hid (F6.out.step f7 (fun _ _ h => h))
  have B7 := Lib.hid (Fresh.blk_ f7 B6.out)
  have cm := B7.out.cell
  clear f7
  go_wp2_with fail
  refine (P2.out _).mono ?_
  rintro e w8 ⟨rfl, f8⟩
  have F8 := Lib.hid (F7.out.step f8 (fun _ _ h => h))
  clear f8 cm
  go_wp2_with fail
  refine (all_nil _).mono ?_
  rintro e w9 ⟨b9, rfl, k9, _, f9⟩
  have F9 := Lib.hid (F8.out.step f9 (fun _ _ h => h))
  have HL := Lib.hid (listed_nil b9 w9 k9)
  clear f9 k9
  go_wp2_with fail
  refine HL.out.mono ?_
  rintro e w10 ⟨A10, c10, rfl, f10⟩
  have F10 := Lib.hid (F9.out.step f10 (fun _ _ h => h))
  clear f10 HL
  go_wp2_with fail
  refine (antis_nil _).mono ?_
  rintro e w11 ⟨b11, rfl, k11, _, f11⟩
  have F11 := Lib.hid (F10.out.step f11 (fun _ _ h => h))
  have HL := Lib.hid (listed_nil b11 w11 k11)
  clear f11 k11
  go_wp2_with fail
  refine HL.out.mono ?_
  rintro e w12 ⟨A12, c12, rfl, f12⟩
  have F12 := Lib.hid (F11.out.step f12 (fun _ _ h => h))
  clear f12 HL
  go_wp2_with fail
  refine (copy_nil _).mono ?_
  rintro e w13 ⟨rfl, f13⟩
  have F13 := Lib.hid (F12.out.step f13 (fun _ _ h => h))
  clear f13
  go_wp2_with fail
  refine (awake_any _).mono ?_
  rintro e w14 ⟨rfl, f14⟩
  have F14 := Lib.hid (F13.out.step f14 (fun _ _ h => h))
  clear f14
  go_wp2_with fail
  go_ret
  exact ⟨rfl, Fresh.below_ F14.out (Nat.le_refl _)⟩
open Go.ChangeShapes Go.WideShapes Go.ChangeAt
set_option maxRecDepth 100000 in
theorem inqNil_lifted (os : Os) (started : os.Started) (H : Type) (enc : TypeId × Value → H) :
    ReturnsInHanded {} Try.checked os 9 .any (Rows.inqNilSpec.pre6 enc Try.prog Try.f9 Rows.inqNilRow.domain false) (Rows.inqNilSpec.post enc Try.prog Try.f9 false true false false) := by
  refine law_lifted (C := Try.checked) (tb := 4) (by kernel_rfl) (by kernel_rfl) started (by kernel_rfl) Try.func9 rfl ?_ rfl Try.underlying4 (by kernel_rfl)
    (ChangeSpec.witness6 (enc := enc) (C := Try.checked) false ⟨#[], #[.agg #[.int .i64 0, .int .i64 0, .int .i64 0, .int .i64 0, .int .i64 0, .int .i64 0, .int .i64 0, .bool false], .int .i64 0], []⟩ 12 (by kernel_rfl) (by kernel_rfl) (by kernel_rfl) (by kernel_rfl)) ?_
  · intro ds hds
    match ds, hds with
    | [e0, e1], _ => rfl
  · intro W base args ds p hval hA hreach
    rw [Try.params9] at hA hval hreach
    obtain ⟨v0, vs0, d0, ds0, p0, q0, hargs, rfl, rfl, h0, r0⟩ := trodAll_cons hA
    obtain ⟨v1, vs1, d1, ds1, p1, q1, rfl, rfl, rfl, h1, r1⟩ := trodAll_cons r0
    obtain ⟨rfl, rfl, rfl⟩ := trodAll_nil r1
    obtain rfl : args = #[v0, v1] := by cases args; simp_all
    obtain ⟨l0, rfl, hl0⟩ := arg_struct (n := 6) Try.underlying34 (by kernel_rfl) (hval 0 34 v0 rfl rfl) h0
    have hfl : flat Try.prog 6 34 = [3, 3, 3, 3, 3, 3, 3, 4] := by kernel_rfl
    rw [hfl] at hl0; clear hfl
    obtain ⟨a0, l1, e1, w_a0, hl1⟩ := all2_int Try.underlying3 hl0
    obtain ⟨a1, l2, e2, w_a1, hl2⟩ := all2_int Try.underlying3 hl1
    obtain ⟨a2, l3, e3, w_a2, hl3⟩ := all2_int Try.underlying3 hl2
    obtain ⟨a3, l4, e4, w_a3, hl4⟩ := all2_int Try.underlying3 hl3
    obtain ⟨a4, l5, e5, w_a4, hl5⟩ := all2_int Try.underlying3 hl4
    obtain ⟨a5, l6, e6, w_a5, hl6⟩ := all2_int Try.underlying3 hl5
    obtain ⟨a6, l7, e7, w_a6, hl7⟩ := all2_int Try.underlying3 hl6
    obtain ⟨an, l8, e8, hl8⟩ := all2_bool Try.underlying4 hl7
    obtain rfl := all2_nil hl8
    subst e8 e7 e6 e5 e4 e3 e2 e1
    clear hl8 hl7 hl6 hl5 hl4 hl3 hl2 hl1 hl0
    obtain ⟨a, rfl, w_a⟩ := arg_int Try.underlying3 (hval 1 3 v1 rfl rfl) h1
    exact nil_any ⟨a0, a1, a2, a3, a4, a5, a6⟩ an a W

theorem inqNil_holds : Rows.InqNilSaid :=
  OpenClaim.holds_of_wide 9 Try.f9 rfl rfl rfl rfl rfl rfl rfl ⟨rfl, rfl, rfl, rfl, rfl⟩ rfl rfl rfl rfl rfl (by kernel_rfl) Try.func9 (by kernel_rfl)
    (of_decide_eq_true (by kernel_rfl)) (by unfold Func.isWrapper; first | (rw [if_pos (by decide +kernel)]; kernel_rfl) | (rw [if_neg (by decide +kernel)]; exact ⟨rfl, rfl⟩))
    (fun os started H enc _ => inqNil_lifted os started H enc)
end Go.Proofs.Ytecobebndjnhnaa
