/- SavesDue returns true at every input: when it is time to save again. No conditions. -/
import Derived.Test.YtehiakdagmocjaaAwake
namespace Go.Proofs.Ytehiakdagmocjaa
open Go.ChangeShapes Go.WideShapes Go.ChangeAt Go.RowKit

theorem due_walk (every since : Int) (w : World) : Law Try.prog 3 #[.int .i64 every, .int .i64 since] w := by
  unfold Law
  by_cases h : 0 < every <;> by_cases h2 : every ≤ since
  all_goals
    have hd := due_any every since
    simp only [h, h2, decide_true, decide_false, Bool.and_true, Bool.and_false, Bool.true_and, Bool.false_and] at hd
    have HD := Lib.hid hd
    clear hd
    go_enter Try.func3, Try.ntmps3
    go_wp2_with (first | (go_at_call 9; refine (HD.out _).mono ?_; rintro e w1 ⟨rfl, rfl⟩) | (go_at_call 10; refine (awake_any _).mono ?_; rintro e w2 ⟨rfl, h3⟩))
    go_ret
    exact ⟨by first | (simp; done) | (simp; omega), Fresh.below_ (by assumption) (Nat.le_refl _)⟩
set_option maxRecDepth 100000 in
theorem savesDue_lifted (os : Os) (started : os.Started) (H : Type) (enc : TypeId × Value → H) :
    ReturnsInHanded {} Try.checked os 3 .any (Rows.savesDueSpec.pre6 enc Try.prog Try.f3 Rows.savesDueRow.domain false) (Rows.savesDueSpec.post enc Try.prog Try.f3 false true false false) := by
  refine law_lifted (C := Try.checked) (tb := 4) (by kernel_rfl) (by kernel_rfl) started (by kernel_rfl) Try.func3 rfl ?_ rfl Try.underlying4 (by kernel_rfl)
    (ChangeSpec.witness6 (enc := enc) (C := Try.checked) false ⟨#[], #[.int .i64 0, .int .i64 0], []⟩ 12 (by kernel_rfl) (by kernel_rfl) (by kernel_rfl) (by kernel_rfl)) ?_
  · intro ds hds
    match ds, hds with
    | [e0, e1], _ => rfl
  · intro W base args ds p hval hA hreach
    rw [Try.params3] at hA hval hreach
    obtain ⟨v0, vs0, d0, ds0, p0, q0, hargs, rfl, rfl, h0, r0⟩ := trodAll_cons hA
    obtain ⟨v1, vs1, d1, ds1, p1, q1, rfl, rfl, rfl, h1, r1⟩ := trodAll_cons r0
    obtain ⟨rfl, rfl, rfl⟩ := trodAll_nil r1
    obtain rfl : args = #[v0, v1] := by cases args; simp_all
    obtain ⟨a, rfl, w_a⟩ := arg_int Try.underlying3 (hval 0 3 v0 rfl rfl) h0
    obtain ⟨b, rfl, w_b⟩ := arg_int Try.underlying3 (hval 1 3 v1 rfl rfl) h1
    exact due_walk a b W

theorem savesDue_holds : Rows.SavesDueSaid :=
  OpenClaim.holds_of_wide 3 Try.f3 rfl rfl rfl rfl rfl rfl rfl ⟨rfl, rfl, rfl, rfl, rfl⟩ rfl rfl rfl rfl rfl (by kernel_rfl) Try.func3 (by kernel_rfl)
    (of_decide_eq_true (by kernel_rfl)) (by unfold Func.isWrapper; first | (rw [if_pos (by decide +kernel)]; kernel_rfl) | (rw [if_neg (by decide +kernel)]; exact ⟨rfl, rfl⟩))
    (fun os started H enc _ => savesDue_lifted os started H enc)
end Go.Proofs.Ytehiakdagmocjaa
