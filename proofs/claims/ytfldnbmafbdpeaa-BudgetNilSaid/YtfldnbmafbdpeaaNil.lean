/- BudgetNil returns true at every input: a nil budget has nothing. No conditions. -/
import Derived.Test.YtfldnbmafbdpeaaAwake
namespace Go.Proofs.Ytfldnbmafbdpeaa
open Go.ChangeShapes Go.WideShapes Go.ChangeAt Go.RowKit

attribute [local go_sem] eq5w
theorem nil_walk (a b c d f more : Int) (vital : Bool) (w : World) : Law Try.prog 5 #[.agg #[.int .i64 a, .int .i64 b, .int .i64 c, .int .i64 d, .int .i64 f, .int .i64 more, .bool vital]] w := by
  unfold Law
  go_enter Try.func5, Try.ntmps5
  go_wp2_with (first
    | (go_at_call 11; refine (fit_nil _ rfl _ _ _).mono ?_; rintro e w1 ⟨rfl, h1⟩)
    | (go_at_call 14; refine (room_nil _).mono ?_; rintro e w1 ⟨rfl, rfl⟩)
    | (go_at_call 13; refine (worst_nil _).mono ?_; rintro e w2 ⟨rfl, h2⟩)
    | (go_at_call 8; refine (awake_any _).mono ?_; rintro e w3 ⟨rfl, h3⟩))
  go_ret
  refine ⟨rfl, ?_⟩
  exact (((((Below.refl _ _).alloc (Nat.le_refl _) _).trans (h1.mono (by simp))).trans (h2.mono (by have := h1.size; simp at this; omega))).trans (h3.below_ (by have := h1.size; have := h2.size; simp at *; omega)))

theorem own : ownKnob Try.prog.godebug = none := by kernel_rfl
theorem laidOut : laidOutB Try.prog = true := by kernel_rfl

set_option maxRecDepth 100000 in
theorem nil_lifted (os : Os) (started : os.Started) (H : Type) (enc : TypeId × Value → H) :
    ReturnsInHanded {} Try.checked os 5 .any (Rows.budgetNilSpec.pre6 enc Try.prog Try.f5 Rows.budgetNilRow.domain false) (Rows.budgetNilSpec.post enc Try.prog Try.f5 false true false false) := by
  refine law_lifted (C := Try.checked) (tb := 4) own laidOut started (by kernel_rfl) Try.func5 rfl ?_ rfl Try.underlying4 (by kernel_rfl)
    (ChangeSpec.witness6 (enc := enc) (C := Try.checked) false ⟨#[], #[.agg #[.int .i64 0, .int .i64 0, .int .i64 0, .int .i64 0, .int .i64 0, .int .i64 0, .bool false]], []⟩ 8 (by kernel_rfl) (by kernel_rfl) (by kernel_rfl) (by kernel_rfl)) ?_
  · intro ds hds
    match ds, hds with
    | [d0], _ => rfl
  · intro W base args ds p hval hA _
    rw [Try.params5] at hA hval
    obtain ⟨v0, vs0, d0, ds0, p0, q0, hargs, rfl, rfl, h0, r0⟩ := trodAll_cons hA
    obtain ⟨rfl, rfl, rfl⟩ := trodAll_nil r0
    obtain rfl : args = #[v0] := by cases args; simp_all
    obtain ⟨l, rfl, hl⟩ := arg_struct (n := 5) Try.underlying26 (by kernel_rfl) (hval 0 26 v0 rfl rfl) h0
    have hfl : flat Try.prog 5 26 = [3, 3, 3, 3, 3, 3, 4] := by kernel_rfl
    rw [hfl] at hl
    obtain ⟨a, l, rfl, _, hl⟩ := all2_int Try.underlying3 hl
    obtain ⟨b, l, rfl, _, hl⟩ := all2_int Try.underlying3 hl
    obtain ⟨c, l, rfl, _, hl⟩ := all2_int Try.underlying3 hl
    obtain ⟨d, l, rfl, _, hl⟩ := all2_int Try.underlying3 hl
    obtain ⟨f, l, rfl, _, hl⟩ := all2_int Try.underlying3 hl
    obtain ⟨m, l, rfl, _, hl⟩ := all2_int Try.underlying3 hl
    obtain ⟨v, l, rfl, hl2⟩ := all2_bool Try.underlying4 hl
    obtain rfl := all2_nil hl2
    exact nil_walk a b c d f m v W

theorem budgetNil_holds : Rows.BudgetNilSaid :=
  OpenClaim.holds_of_wide 5 Try.f5 rfl rfl rfl rfl rfl rfl rfl ⟨rfl, rfl, rfl, rfl, rfl⟩ rfl rfl rfl rfl rfl (by kernel_rfl) Try.func5 (by kernel_rfl)
    (of_decide_eq_true (by kernel_rfl)) (by unfold Func.isWrapper; first | (rw [if_pos (by decide +kernel)]; kernel_rfl) | (rw [if_neg (by decide +kernel)]; exact ⟨rfl, rfl⟩))
    (fun os started H enc _ => nil_lifted os started H enc)
end Go.Proofs.Ytfldnbmafbdpeaa
