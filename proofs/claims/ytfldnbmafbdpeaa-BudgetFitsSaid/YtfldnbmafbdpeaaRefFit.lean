import Derived.Test.YtfldnbmafbdpeaaAwake
namespace Go.Proofs.Ytfldnbmafbdpeaa
open Go.RowKit

set_option maxHeartbeats 2000000 in
theorem ref_arg (room reserve a b c d f more : Int) (vital : Bool) (g : Nat) (w : World) (hr : 0 ≤ reserve) (hr1 : reserve ≤ room) (hr2 : room ≤ 4096)
    (c0 : w.cell? ⟨g, 0, none⟩ = some (.int .i64 a)) (c1 : w.cell? ⟨g, 1, none⟩ = some (.int .i64 b)) (c2 : w.cell? ⟨g, 2, none⟩ = some (.int .i64 c)) (c3 : w.cell? ⟨g, 3, none⟩ = some (.int .i64 d)) (c4 : w.cell? ⟨g, 4, none⟩ = some (.int .i64 f))
    (h : ¬ (Good a ∧ Good b ∧ Good c ∧ Good d ∧ Good f ∧ Good more)) :
    Calls Try.prog 12 #[.int .i64 room, .int .i64 reserve, .slice (some ⟨g, 0, none⟩) 5 5, .int .i64 more, .bool vital] w fun e w' => e = .returned (.int .i64 1) ∧ w = w' := by
  have H := Lib.hid h
  clear h
  go_enter Try.func12, Try.ntmps12
  go_wp2
  refine wp_loop_rounds 6 ?_
  repeat any_goals (rw [rounds_succ]; go_wp2)
  all_goals first
    | (go_ret; exact ⟨rfl, rfl⟩)
    | (exfalso; apply H.out; unfold Good; clear H; repeat' apply And.intro
       all_goals omega)

set_option maxHeartbeats 2000000 in
theorem ref_good (room reserve a b c d f more : Int) (vital : Bool) (g : Nat) (w : World) (hr : 0 ≤ reserve) (hr1 : reserve ≤ room) (hr2 : room ≤ 4096)
    (c0 : w.cell? ⟨g, 0, none⟩ = some (.int .i64 a)) (c1 : w.cell? ⟨g, 1, none⟩ = some (.int .i64 b)) (c2 : w.cell? ⟨g, 2, none⟩ = some (.int .i64 c)) (c3 : w.cell? ⟨g, 3, none⟩ = some (.int .i64 d)) (c4 : w.cell? ⟨g, 4, none⟩ = some (.int .i64 f))
    (ha : Good a) (hb : Good b) (hc : Good c) (hd : Good d) (hf : Good f) (hm : Good more) (v : Int) (hv : if a + b + c + d + f + more ≤ roomB room reserve vital then v = 0 else v = 20) :
    Calls Try.prog 12 #[.int .i64 room, .int .i64 reserve, .slice (some ⟨g, 0, none⟩) 5 5, .int .i64 more, .bool vital] w fun e w' => e = .returned (.int .i64 v) ∧ w = w' := by
  obtain ⟨ha, ha'⟩ := ha; obtain ⟨hb, hb'⟩ := hb; obtain ⟨hc, hc'⟩ := hc; obtain ⟨hd, hd'⟩ := hd; obtain ⟨hf, hf'⟩ := hf; obtain ⟨hm, hm'⟩ := hm
  by_cases hs : a + b + c + d + f + more ≤ roomB room reserve vital
  all_goals
    simp only [hs, if_true, if_false] at hv
    subst hv
    cases vital
  all_goals
    simp only [roomB, if_true, if_false, Bool.false_eq_true] at hs
    go_enter Try.func12, Try.ntmps12
    go_wp2
    refine wp_loop_rounds 6 ?_
    repeat any_goals (rw [rounds_succ]; go_wp2)
    go_ret
    exact ⟨rfl, rfl⟩
end Go.Proofs.Ytfldnbmafbdpeaa
