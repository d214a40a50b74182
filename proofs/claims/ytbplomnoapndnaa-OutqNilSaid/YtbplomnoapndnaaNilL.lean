/- OutqNil returns true at every input: a nil queue has nothing. No conditions. -/
import Derived.Test.YtbplomnoapndnaaNilF
namespace Go.Proofs.Ytbplomnoapndnaa
open Go.RowKit
attribute [local go_sem ↓] Go.wp_at_zero Go.wp_at_succ
attribute [local go_sem ↓] run_eql_ev

set_option maxRecDepth 100000 in
set_option maxHeartbeats 8000000 in
theorem nil_any (k a : Int) (v : Value) (l : List Ev) (w : World) (h : EvAt w v l) (hl : l.length ≤ 9223372036854775807) : Law Try.prog 10 #[.agg #[.int .i64 k, .int .i64 a, v]] w := by
  unfold Law
  have HV := Lib.hid h
  have HO := Lib.hid (fun (W : World) (f : Fresh w W) => one_any k a v l W (h.fresh f) hl)
  obtain ⟨A, c, rfl, _⟩ := h
  unfold Ev.val at HO
  have F0 := Lib.hid (show Fresh w (w.alloc (.cells #[.int .i64 k, .int .i64 a, .slice A l.length c] 30)) from (Keep.refl _ w).alloc _)
  have B0 := Lib.hid (Blk.new w 30 #[.int .i64 k, .int .i64 a, .slice A l.length c])
  go_enter Try.func10, Try.ntmps10
  go_wp2_with fail
  refine (sent_nil a A l.length c _).mono ?_
  rintro e w1 ⟨rfl, f1⟩
  have F1 := Lib.hid (F0.out.step f1 (fun _ _ h => h))
  have B1 := Lib.hid (Fresh.blk_ f1 B0.out)
  have c1 := B1.out.cell
  have l1 := B1.out.lt
  clear f1
  go_wp2_with fail
  refine (least_nil _).mono ?_
  rintro e w2 ⟨rfl, f2⟩
  have F2 := Lib.hid (F1.out.step f2 (fun _ _ h => h))
  have B2 := Lib.hid (Fresh.blk_ f2 B1.out)
  have c2 := B2.out.cell
  have l2 := B2.out.lt
  clear f2 c1 l1
  go_wp2_with fail
  refine (late_nil a _).mono ?_
  rintro e w3 ⟨rfl, f3⟩
  have F3 := Lib.hid (F2.out.step f3 (fun _ _ h => h))
  have B3 := Lib.hid (Fresh.blk_ f3 B2.out)
  have c3 := B3.out.cell
  have l3 := B3.out.lt
  clear f3 c2 l2
  go_wp2_with fail
  refine (len_nil _).mono ?_
  rintro e w4 ⟨rfl, f4⟩
  have F4 := Lib.hid (F3.out.step (Keep.step ((Keep.refl (fun _ => False) w3).alloc (.cells #[.int .i64 0, .int .i64 0, .int .i64 0, .int .i64 0, .int .i64 0, .int .i64 0, .int .i64 0] 44)) f4 (fun _ _ h => h)) (fun _ _ h => h))
  have B4 := Lib.hid (Fresh.blk_ f4 (B3.out.alloc (.cells #[.int .i64 0, .int .i64 0, .int .i64 0, .int .i64 0, .int .i64 0, .int .i64 0, .int .i64 0] 44)))
  have E4 := Lib.hid (Fresh.blk_ f4 (Blk.new w3 44 #[.int .i64 0, .int .i64 0, .int .i64 0, .int .i64 0, .int .i64 0, .int .i64 0, .int .i64 0]))
  have d4 := E4.out.cell
  have m4 := E4.out.lt
  have c4 := B4.out.cell
  have l4 := B4.out.lt
  clear f4 c3 l3
  go_wp2_with fail
  refine (records_nil _).mono ?_
  rintro e w5 ⟨Ar, cr, rfl, f5⟩
  have F5 := Lib.hid (F4.out.step f5 (fun _ _ h => h))
  have B5 := Lib.hid (Fresh.blk_ f5 B4.out)
  have E5 := Lib.hid (Fresh.blk_ f5 E4.out)
  have d5 := E5.out.cell
  have m5 := E5.out.lt
  have c5 := B5.out.cell
  have l5 := B5.out.lt
  clear f5 c4 l4 d4 m4
  have HR := Lib.hid (fun W => return_nil (oneE l) W)
  unfold Ev.val at HR
  have d0 := fun (W : World) (f : Fresh w5 W) (i : Nat) => (Fresh.blk_ f B5.out).cell i
  have d1 := fun (W : World) (f : Fresh w5 W) (i : Nat) => (Fresh.blk_ f E5.out).cell i
  have HX := Lib.hid (show ∀ W, Fresh w5 W → Fresh w W from fun W f => F5.out.step f (fun _ _ h => h))
  have f0 : Fresh w5 w5 := Keep.refl _ _
  go_wp2_with fail
  clear c5 l5 d5 m5
  simp only [List.append_eq, List.cons_append, List.nil_append]
  go_region_held3 (fun W' => Fresh w5 W') (exact (fun (f : Fresh w5 _) => f) (by (repeat (first | (with_reducible exact Keep.refl _ _) | (with_reducible assumption) | (with_reducible refine Keep.drew ?_) | (with_reducible refine Keep.drewN ?_ _) | (with_reducible refine Keep.alloc ?_ _) | (with_reducible refine Keep.setCell ?_ ?_ _) | (with_reducible refine fun _ => rfl)))))
    (first
      | (go_at_call 19; (with_reducible refine (back_nil a _ _).mono ?_); rintro en1 w1 ⟨rfl, f1⟩; have f2 := Keep.step (S := fun _ => False) (by assumption : Fresh w5 _) f1 (fun _ _ h => h))
      | (go_at_call 18; (with_reducible refine (flush_nil a _).mono ?_); rintro en1 w1 ⟨rfl, f1⟩; have f2 := Keep.step (S := fun _ => False) (by assumption : Fresh w5 _) f1 (fun _ _ h => h))
      | (go_at_call 23; (with_reducible refine (drop_nil a _).mono ?_); rintro en1 w1 ⟨rfl, f1⟩; have f2 := Keep.step (S := fun _ => False) (by assumption : Fresh w5 _) f1 (fun _ _ h => h))
      | (go_at_call 30; (with_reducible refine (HO.out _ (HX.out _ (by assumption))).mono ?_); rintro en1 w1 ⟨rfl, f1⟩; have f2 := Keep.step (S := fun _ => False) (by assumption : Fresh w5 _) f1 (fun _ _ h => h))
      | (go_at_call 25; (with_reducible refine (HR.out _).mono ?_); rintro en1 w1 ⟨rfl, f1⟩; have f2 := Keep.step (S := fun _ => False) (by assumption : Fresh w5 _) f1 (fun _ _ h => h))
      | (go_at_call 29; (with_reducible refine (copy_nil _).mono ?_); rintro en1 w1 ⟨rfl, f1⟩; have f2 := Keep.step (S := fun _ => False) (by assumption : Fresh w5 _) f1 (fun _ _ h => h))
      | (go_at_call 13; (with_reducible refine (awake_any _).mono ?_); rintro en1 w1 ⟨rfl, f1⟩; have f2 := Keep.step (S := fun _ => False) (by assumption : Fresh w5 _) f1 (fun _ _ h => h)))
  all_goals (go_wp2_with fail)
  all_goals go_ret
  all_goals exact ⟨rfl, Fresh.below_ (HX.out _ (by first | assumption | (repeat (first | (with_reducible exact Keep.refl _ _) | (with_reducible assumption) | (with_reducible refine Keep.drew ?_) | (with_reducible refine Keep.drewN ?_ _) | (with_reducible refine Keep.alloc ?_ _) | (with_reducible refine Keep.setCell ?_ ?_ _) | (with_reducible refine fun _ => rfl))))) (Nat.le_refl _)⟩
open Go.ChangeShapes Go.WideShapes Go.ChangeAt
set_option maxRecDepth 100000 in
theorem outqNil_lifted (os : Os) (started : os.Started) (H : Type) (enc : TypeId × Value → H) :
    ReturnsInHanded {} Try.checked os 10 .any (Rows.outqNilSpec.pre6 enc Try.prog Try.f10 Rows.outqNilRow.domain false) (Rows.outqNilSpec.post enc Try.prog Try.f10 false true false false) := by
  refine law_lifted (C := Try.checked) (tb := 4) (by kernel_rfl) (by kernel_rfl) started (by kernel_rfl) Try.func10 rfl ?_ rfl Try.underlying4 (by kernel_rfl)
    (ChangeSpec.witness6 (enc := enc) (C := Try.checked) false ⟨#[], #[.agg #[.int .i64 0, .int .i64 0, .slice none 0 0]], []⟩ 12 (by kernel_rfl) (by kernel_rfl) (by kernel_rfl) (by kernel_rfl)) ?_
  · intro ds hds
    match ds, hds with
    | [e0], _ => rfl
  · intro W base args ds p hval hA hreach
    rw [Try.params10] at hA hval hreach
    obtain ⟨v0, vs0, d0, ds0, p0, q0, hargs, rfl, rfl, h0, r0⟩ := trodAll_cons hA
    obtain ⟨rfl, rfl, rfl⟩ := trodAll_nil r0
    obtain rfl : args = #[v0] := by cases args; simp_all
    obtain ⟨l0, rfl, hl0⟩ := arg_struct (n := 6) Try.underlying30 (by kernel_rfl) (hval 0 30 v0 rfl rfl) h0
    have hfl : flat Try.prog 6 30 = [3, 3, 28] := by kernel_rfl
    rw [hfl] at hl0; clear hfl
    obtain ⟨k, l1, e1, w_k, hl1⟩ := all2_int Try.underlying3 hl0
    obtain ⟨a, l2, e2, w_a, hl2⟩ := all2_int Try.underlying3 hl1
    obtain ⟨u_P, l3, e3, h_P, hl3⟩ := all2_cons hl2
    obtain rfl := all2_nil hl3
    subst e3 e2 e1
    clear hl3 hl2 hl1 hl0
    obtain ⟨A, n, cp, rows, rfl, hlen, hcap, hmax, hleaf, hat⟩ := leaf_slice (n := 6) Try.underlying28 (by kernel_rfl) (by kernel_rfl) (by rw [show Try.prog.cellsOf 44 = 7 by kernel_rfl]; decide) h_P
    rw [show flat Try.prog 6 44 = [3, 3, 3, 3, 3, 3, 3] by kernel_rfl] at hleaf
    rw [show Try.prog.cellsOf 44 = 7 by kernel_rfl] at hat
    obtain ⟨es, hes, hev⟩ := evs_arg hleaf hat
    have hn : es.length = n := hes.trans hlen
    subst hn
    exact nil_any k a _ es W ⟨A, cp, rfl, hev⟩ (by unfold maxLen at hmax; omega)

theorem outqNil_holds : Rows.OutqNilSaid :=
  OpenClaim.holds_of_wide 10 Try.f10 rfl rfl rfl rfl rfl rfl rfl ⟨rfl, rfl, rfl, rfl, rfl⟩ rfl rfl rfl rfl rfl (by kernel_rfl) Try.func10 (by kernel_rfl)
    (of_decide_eq_true (by kernel_rfl)) (by unfold Func.isWrapper; first | (rw [if_pos (by decide +kernel)]; kernel_rfl) | (rw [if_neg (by decide +kernel)]; exact ⟨rfl, rfl⟩))
    (fun os started H enc _ => outqNil_lifted os started H enc)
end Go.Proofs.Ytbplomnoapndnaa
