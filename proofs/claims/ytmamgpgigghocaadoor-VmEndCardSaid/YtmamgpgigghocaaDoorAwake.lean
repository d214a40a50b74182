/-
  The laws' few; the chapter's example.
-/
import Derived.Test.YtmamgpgigghocaaDoorLawK
import Derived.Test.YtmamgpgigghocaaDoorLaid
namespace Go.Proofs.YtmamgpgigghocaaDoor
open Go.RowKit
attribute [local go_sem ↓] Go.wp_at_zero Go.wp_at_succ run_min run_max
attribute [local go_sem] run_eql_emit run_neq_emit eq4w

def caseV (A : Option Addr) (n c : Nat) (s0 s1 s2 s3 : Int) (e : Ev) (o : Rest) (fan : Int) : Array Value :=
  #[.slice A n c, .int .i64 s0, .int .i64 s1, .int .i64 s2, .int .i64 s3, .int .i64 e.at_, .int .i64 o.src, .int .i64 o.sent, .int .i64 o.no, .int .i64 e.dst, .int .i64 e.kind, .int .i64 e.data, .int .i64 fan]
theorem few_any (A : Option Addr) (n c : Nat) (s0 s1 s2 s3 : Int) (e : Ev) (o : Rest) (fan : Int) (w : World) :
    Calls Tryd.prog 7 #[.agg (caseV A n c s0 s1 s2 s3 e o fan)] w fun en w' => en = .returned (.bool (decide (n ≤ 100) && decide (fan ≤ 2000))) ∧ Fresh w w' := by
  unfold caseV
  have h0 : decide ((n : Int) ≤ 100) = decide (n ≤ 100) := by
    by_cases h : n ≤ 100
    · rw [decide_eq_true h, decide_eq_true (by omega)]
    · rw [decide_eq_false h, decide_eq_false (by omega)]
  cases h1 : decide (n ≤ 100) <;> cases h2 : decide (fan ≤ 2000) <;> rw [h1] at h0 <;>
  (go_enter Tryd.func7, Tryd.ntmps7
   go_wp2_with fail
   (try go_quiet (fail))
   go_wp2_with fail
   go_returns
   exact ⟨rfl, by (repeat (first | (with_reducible exact Keep.refl _ _) | (with_reducible assumption) | (with_reducible refine Keep.drew ?_) | (with_reducible refine Keep.drewN ?_ _) | (with_reducible refine Keep.alloc ?_ _) | (with_reducible refine Keep.setCell ?_ ?_ _) | (with_reducible refine fun _ => rfl)))⟩)

def awakeP : List Ins := [⟨12, 4, 0, 0, 0⟩, ⟨3, 0, 0, 4, 0⟩, ⟨1, 5, 1, 0, 0⟩, ⟨14, 6, 5, 0, 7⟩]
theorem awake_prg {w : World} {g : Nat} {t : TypeId} (h : Blk w g t (icells awakeP).toArray) : Prg w (some ⟨g, 0, none⟩) awakeP := fun i x hx => by
  refine ⟨g, 0, rfl, h.lt, fun j u hu => ?_⟩
  rw [Nat.zero_add]
  refine h.cell_ _ ?_
  rw [List.getElem?_toArray]
  exact icells_at awakeP i x hx j u hu

set_option maxHeartbeats 4000000 in
theorem awake_any (w : World) (hT : Tab w) : Calls Tryd.prog 8 #[] w fun en w' => en = .returned (.bool true) ∧ Fresh w w' := by
  have HT := Lib.hid hT
  clear hT
  go_enter Tryd.func8, Tryd.ntmps8
  go_wp2_with fail
  have f0 : Fresh w (w.alloc (.cells (icells awakeP).toArray 41)) := (Keep.refl _ _).alloc _
  have HRun := run_any (some ⟨w.heap.size, 0, none⟩) awakeP 4 3 0 0 0 ⟨0, 0, 5, 0⟩ ⟨0, 0, 0⟩ 100 8 _ (awake_prg (Blk.new w 41 (icells awakeP).toArray)) (by decide) (by omega) (HT.out.fresh f0)
  have F0 := Lib.hid f0
  clear f0
  refine HRun.mono ?_
  rintro en w1 ⟨c0, c1, c2, c3, v, h1, rfl, h2⟩
  have ho : outP awakeP [3, 0, 0, 0] ⟨0, 0, 5, 0⟩ 100 = (⟨[8, 0, 0, 0, 5, 1, 0, 0], 4, [⟨0, 1, 7, 8⟩]⟩, 4) := awake_out
  rw [ho] at h1 h2
  have e1 : [(8 : Int), 0, 0, 0] = [c0, c1, c2, c3] := h1
  injection e1 with e1 e2
  injection e2 with e2 e3
  injection e3 with e3 e4
  injection e4 with e4 _
  subst e1 e2 e3 e4
  obtain ⟨o1, f1, n1⟩ := h2
  have o1 : OwnS w1 37 4 v 1 [.int .i64 0, .int .i64 1, .int .i64 7, .int .i64 8] := o1
  obtain ⟨ge, oe, ce, rfl, _, hce, hme, hc⟩ := o1.form (by omega)
  have hme : ce ≤ 9223372036854775807 := by unfold maxLen at hme; omega
  have d0 := hc 0 _ rfl
  have d1 := hc 1 _ rfl
  have d2 := hc 2 _ rfl
  have d3 := hc 3 _ rfl
  rw [Nat.add_zero] at d0
  have F1 := Lib.hid (F0.out.step f1 (fun _ _ h => h))
  rw [ho]
  clear hc o1 f1 n1 h1 HRun ho HT F0
  go_wp2_with fail
  go_returns
  exact ⟨rfl, F1.out.alloc _⟩
end Go.Proofs.YtmamgpgigghocaaDoor
