/-
  code.May for any number of instructions, also one below 0.
-/
import Derived.Test.YtkhlldmnnakoaaaDoorMay
namespace Go.Proofs.YtkhlldmnnakoaaaDoor
open Go.RowKit
attribute [local go_sem ↓] Go.wp_at_zero Go.wp_at_succ
attribute [local go_sem] run_ix4_0 run_ix4_1 run_ix4_2 run_ix4_3
def fitsZ (k n : Int) (many : Int) : Bool :=
  if k = 1 then decide (0 ≤ n ∧ n < 8) else if k = 2 then true else if k = 3 then decide (0 ≤ n ∧ n ≤ many) else if k = 4 then decide (0 ≤ n ∧ n ≤ 255) else decide (n = 0)
def allFitZ (many : Int) : List Int → List Int → Bool
  | k :: ks, n :: ns => fitsZ k n many && allFitZ many ks ns
  | _, _ => true
def mayZ (x : Ins) (many : Int) : Int := if x.op < 1 ∨ 15 < x.op then 15 else if allFitZ many (ask x.op) x.nums then 0 else 10
theorem fitsZ_nat (k n : Int) (m : Nat) : fitsZ k n (m : Int) = fitsP k n m := rfl
theorem allFitZ_nat (m : Nat) : ∀ ks ns : List Int, allFitZ (m : Int) ks ns = allFit m ks ns
  | k :: ks, n :: ns => by
    show (fitsZ k n m && allFitZ (m : Int) ks ns) = (fitsP k n m && allFit m ks ns)
    rw [allFitZ_nat m ks ns, fitsZ_nat]
  | [], _ => by unfold allFitZ allFit; rfl
  | _ :: _, [] => rfl
theorem mayZ_nat (x : Ins) (m : Nat) : mayZ x (m : Int) = mayE x m := by
  unfold mayZ mayE
  rw [allFitZ_nat]
theorem fits_anyZ (k n : Int) (many : Int) (w : World) : Calls Tryd.prog 31 #[.int .i64 k, .int .i64 n, .int .i64 many] w fun e w' => e = .returned (.bool (fitsZ k n many)) ∧ w = w' := by
  unfold fitsZ
  by_cases k1 : k = 1
  · subst k1
    simp only [if_true, Bool.decide_and]
    cases t1 : decide (0 ≤ n) <;> cases t2 : decide (n < 8) <;>
    (go_enter Tryd.func31, Tryd.ntmps31; go_wp2; go_ret; exact ⟨rfl, rfl⟩)
  by_cases k2 : k = 2
  · subst k2
    go_enter Tryd.func31, Tryd.ntmps31
    go_wp2
    go_ret
    exact ⟨rfl, rfl⟩
  by_cases k3 : k = 3
  · subst k3
    rw [if_neg k1, if_neg k2, if_pos rfl]
    simp only [Bool.decide_and]
    cases t1 : decide (0 ≤ n) <;> cases t2 : decide (n ≤ (many : Int)) <;>
    (go_enter Tryd.func31, Tryd.ntmps31; go_wp2; go_ret; exact ⟨rfl, rfl⟩)
  by_cases k4 : k = 4
  · subst k4
    rw [if_neg k1, if_neg k2, if_neg k3, if_pos rfl]
    simp only [Bool.decide_and]
    cases t1 : decide (0 ≤ n) <;> cases t2 : decide (n ≤ 255) <;>
    (go_enter Tryd.func31, Tryd.ntmps31; go_wp2; go_ret; exact ⟨rfl, rfl⟩)
  have t1 : (k == 1) = false := by simpa using k1
  have t2 : (k == 2) = false := by simpa using k2
  have t3 : (k == 3) = false := by simpa using k3
  have t4 : (k == 4) = false := by simpa using k4
  rw [if_neg k1, if_neg k2, if_neg k3, if_neg k4]
  clear k1 k2 k3 k4
  go_enter Tryd.func31, Tryd.ntmps31
  go_wp2
  go_ret
  exact ⟨by by_cases hn : n = 0 <;> simp [hn], rfl⟩

set_option maxHeartbeats 2000000 in
theorem may_anyZ (x : Ins) (many : Int) (w : World) (hT : Tab w) : Calls Tryd.prog 16 #[x.val, .int .i64 many] w fun e w' => e = .returned (.int .i64 (mayZ x many)) ∧ Fresh w w' := by
  unfold mayZ
  by_cases hop : x.op < 1 ∨ 15 < x.op
  · rw [if_pos hop]
    have t1 : decide (1 ≤ x.op ∧ x.op ≤ 15) = false := decide_eq_false (by omega)
    have HI : Hid (∀ W, Calls Tryd.prog 30 #[.int .i64 x.op] W fun e w' => e = .returned (.bool false) ∧ W = w') := fun W => by
      have := is_any x.op W
      rw [t1] at this
      exact this
    clear t1 hop hT
    obtain ⟨op, a, b, c, d⟩ := x
    unfold Ins.val
    go_enter Tryd.func16, Tryd.ntmps16
    go_wp2_with (go_at_call 30; refine (HI.out _).mono ?_; rintro e w1 ⟨rfl, rfl⟩)
    go_returns
    exact ⟨rfl, by (repeat (first | (with_reducible exact Keep.refl _ _) | (with_reducible assumption) | (with_reducible refine Keep.drew ?_) | (with_reducible refine Keep.drewN ?_ _) | (with_reducible refine Keep.alloc ?_ _) | (with_reducible refine Keep.setCell ?_ ?_ _) | (with_reducible refine fun _ => rfl)))⟩
  · rw [if_neg hop]
    have t1 : decide (1 ≤ x.op ∧ x.op ≤ 15) = true := decide_eq_true (by omega)
    have HI : Hid (∀ W, Calls Tryd.prog 30 #[.int .i64 x.op] W fun e w' => e = .returned (.bool true) ∧ W = w') := fun W => by
      have := is_any x.op W
      rw [t1] at this
      exact this
    have HN : Hid (∀ W, Calls Tryd.prog 22 #[x.val] W fun e w' => e = .returned (.agg #[.int .i64 x.a, .int .i64 x.b, .int .i64 x.c, .int .i64 x.d]) ∧ Fresh W w') := fun W => numbers_any x W
    obtain ⟨k0, k1, k2, k3, hask⟩ := ask_four x.op
    obtain ⟨k, hk⟩ := Int.eq_ofNat_of_zero_le (show 0 ≤ x.op by omega)
    have hk1 : 1 ≤ k := by omega
    have hk2 : k ≤ 15 := by omega
    have hask' := hask
    rw [hk] at hask'
    have HC : Hid (∀ W, Fresh w W → W.cell? ⟨0, k * 6 + 2, none⟩ = some (.int .i64 k0) ∧ W.cell? ⟨0, k * 6 + 2 + 1, none⟩ = some (.int .i64 k1) ∧ W.cell? ⟨0, k * 6 + 2 + 2, none⟩ = some (.int .i64 k2) ∧ W.cell? ⟨0, k * 6 + 2 + 3, none⟩ = some (.int .i64 k3)) := fun W f =>
      ⟨(hT.fresh f) k hk1 hk2 0 k0 (by rw [hask']; rfl), (hT.fresh f) k hk1 hk2 1 k1 (by rw [hask']; rfl), (hT.fresh f) k hk1 hk2 2 k2 (by rw [hask']; rfl), (hT.fresh f) k hk1 hk2 3 k3 (by rw [hask']; rfl)⟩
    rw [hask]
    unfold Ins.nums
    clear hask hask' t1 hop hT
    obtain ⟨op, a, b, c, d⟩ := x
    unfold Ins.val at HN ⊢
    simp only at hk HI HN ⊢
    subst hk
    have FA : Fresh w (w.alloc (.cells #[.int .i64 (k : Nat), .int .i64 a, .int .i64 b, .int .i64 c, .int .i64 d] 34)) := (Keep.refl _ _).alloc _
    obtain ⟨c0, c1, c2, c3⟩ := HC.out _ FA
    have q2 : (k : Int) < 16 := by omega
    have G0 := fun W => fits_anyZ k0 a many W
    have G1 := fun W => fits_anyZ k1 b many W
    have G2 := fun W => fits_anyZ k2 c many W
    have G3 := fun W => fits_anyZ k3 d many W
    have hall : allFitZ many [k0, k1, k2, k3] [a, b, c, d] = (fitsZ k0 a many && (fitsZ k1 b many && (fitsZ k2 c many && (fitsZ k3 d many && true)))) := rfl
    rw [hall]
    clear hall
    generalize fitsZ k0 a many = g0 at *
    generalize fitsZ k1 b many = g1 at *
    generalize fitsZ k2 c many = g2 at *
    generalize fitsZ k3 d many = g3 at *
    have HG0 := Lib.hid G0
    have HG1 := Lib.hid G1
    have HG2 := Lib.hid G2
    have HG3 := Lib.hid G3
    clear G0 G1 G2 G3
    have hcase : g0 = false ∨ (g0 = true ∧ g1 = false) ∨ (g0 = true ∧ g1 = true ∧ g2 = false) ∨ (g0 = true ∧ g1 = true ∧ g2 = true ∧ g3 = false) ∨ (g0 = true ∧ g1 = true ∧ g2 = true ∧ g3 = true) := by
      cases g0 <;> cases g1 <;> cases g2 <;> cases g3 <;> simp
    go_enter Tryd.func16, Tryd.ntmps16
    go_wp2_with (go_at_call 30; refine (HI.out _).mono ?_; rintro e w1 ⟨rfl, rfl⟩)
    refine (HN.out _).mono ?_
    rintro e w2 ⟨rfl, f2⟩
    have b2 := f2.blk_ (Blk.at_new (by simp) 54 #[.int .i64 k0, .int .i64 k1, .int .i64 k2, .int .i64 k3] : Blk _ (w.heap.size + 1) _ _)
    have F2 := Lib.hid ((FA.alloc _).step f2 (fun _ _ h => h))
    have hb := b2.cell
    have hl := b2.lt
    clear f2 FA c0 c1 c2 c3 HN HI HC b2
    go_wp2_with fail
    rcases hcase with rfl | ⟨rfl, rfl⟩ | ⟨rfl, rfl, rfl⟩ | ⟨rfl, rfl, rfl, rfl⟩ | ⟨rfl, rfl, rfl, rfl⟩
    all_goals
      refine wp_loop_rounds 5 ?_
      repeat any_goals
        rw [rounds_succ]
        go_wp2_with (first
          | (with_reducible refine (HG0.out _).mono ?_; rintro e w3 ⟨rfl, rfl⟩)
          | (with_reducible refine (HG1.out _).mono ?_; rintro e w3 ⟨rfl, rfl⟩)
          | (with_reducible refine (HG2.out _).mono ?_; rintro e w3 ⟨rfl, rfl⟩)
          | (with_reducible refine (HG3.out _).mono ?_; rintro e w3 ⟨rfl, rfl⟩))
      go_returns
      exact ⟨rfl, F2.out⟩
end Go.Proofs.YtkhlldmnnakoaaaDoor
