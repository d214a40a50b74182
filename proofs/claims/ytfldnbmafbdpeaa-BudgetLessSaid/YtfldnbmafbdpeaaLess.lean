/- BudgetLess returns true at every input: what fits fits with less; sums are sums. No conditions. -/
import Derived.Test.YtfldnbmafbdpeaaPlus
import Derived.Deep.LoopGhost
namespace Go.Proofs.Ytfldnbmafbdpeaa
open Go.RowKit
theorem run_min2 (P : Program) (w : World) (ts : Array TypeId) (t : TypeId) (k : IntKind) (x y : Int) : (Builtin.min_ ts t #[.int k x, .int k y]).run P w = .ok (.int k (min x y)) w := by
  simp [Builtin.min_, Builtin.min2]
  split <;> omega
attribute [local go_sem ↓] run_min2
attribute [local go_sem] eq5w idx0 idx1 idx2 idx3 idx4

theorem less_arg (r s : Int) (a b c d f more : Int) (vital : Bool) (a' b' c' d' f' : Int) (w : World) (h : r < 1 ∨ 4096 < r ∨ s < 0 ∨ r < s) :
    Law Try.prog 3 #[.agg #[.int .i64 r, .int .i64 s], .agg #[.int .i64 a, .int .i64 b, .int .i64 c, .int .i64 d, .int .i64 f, .int .i64 more, .bool vital], .agg #[.int .i64 a', .int .i64 b', .int .i64 c', .int .i64 d', .int .i64 f']] w := by
  unfold Law
  have H := Lib.hid h
  clear h
  go_enter Try.func3, Try.ntmps3
  go_wp2_with (first
    | (go_at_call 7; refine (new_bad _ _ _ H.out).mono ?_; rintro e w1 ⟨rfl, rfl⟩)
    | (go_at_call 8; refine (awake_any _).mono ?_; rintro e w3 ⟨rfl, h3⟩))
  go_ret
  refine ⟨rfl, ?_⟩
  (refine Keep.below (S := fun _ => False) ?_ (Nat.le_refl _) (fun _ _ h => h))
  refine Keep.step ?_ h3 (fun _ _ h => h)
  (repeat (first | (with_reducible exact Keep.refl _ _) | (with_reducible assumption) | (with_reducible refine Keep.drew ?_) | (with_reducible refine Keep.drewN ?_ _) | (with_reducible refine Keep.alloc ?_ _) | (with_reducible refine Keep.setCell ?_ ?_ _) | (with_reducible refine fun _ => rfl)))

def dif (k j : Nat) (x y : Int) : Int := if j < k then x - min x y else 0
def G3 (n : Int) : Prop := 0 ≤ n ∧ n ≤ 1000
def Two (x y : Int) : Prop := G3 x ∧ G3 y
theorem Two.mk {x y : Int} (h1 : 0 ≤ x) (h2 : x ≤ 1000) (h3 : 0 ≤ y) (h4 : y ≤ 1000) : Two x y := ⟨⟨h1, h2⟩, ⟨h3, h4⟩⟩
/-- what is known when k rounds are over -/
def Known (k : Nat) (a b c d f a' b' c' d' f' : Int) : Prop := (0 < k → Two a a') ∧ (1 < k → Two b b') ∧ (2 < k → Two c c') ∧ (3 < k → Two d d') ∧ (4 < k → Two f f')

set_option maxRecDepth 100000 in
set_option maxHeartbeats 8000000 in
theorem less_ok (r s : Int) (a b c d f more : Int) (vital : Bool) (a' b' c' d' f' : Int) (w : World) (h1 : 1 ≤ r) (h2 : r ≤ 4096) (h3 : 0 ≤ s) (h4 : s ≤ r) :
    Law Try.prog 3 #[.agg #[.int .i64 r, .int .i64 s], .agg #[.int .i64 a, .int .i64 b, .int .i64 c, .int .i64 d, .int .i64 f, .int .i64 more, .bool vital], .agg #[.int .i64 a', .int .i64 b', .int .i64 c', .int .i64 d', .int .i64 f']] w := by
  unfold Law
  go_enter Try.func3, Try.ntmps3
  go_wp2_with (go_at_call 7; refine (new_ok _ _ _ h1 h2 h3 h4).mono ?_; rintro e w1 ⟨rfl, rfl⟩)
  go_loopg [10] 5 (fun gk v wr => ∃ k : Nat, k ≤ 5 ∧ gk = 5 - k ∧ v = .int .i64 k ∧
      Blk wr (w.heap.size + 1) 26 #[.int .i64 a, .int .i64 b, .int .i64 c, .int .i64 d, .int .i64 f, .int .i64 more, .bool vital] ∧ Blk wr (w.heap.size + 2) 24 #[.int .i64 a', .int .i64 b', .int .i64 c', .int .i64 d', .int .i64 f'] ∧
      Blk wr (w.heap.size + 3) 52 #[.int .i64 r, .int .i64 s, .int .i64 0, .int .i64 0, .int .i64 0, .int .i64 0, .int .i64 0] ∧
      Blk wr (w.heap.size + 4) 24 #[.int .i64 (dif k 0 a a'), .int .i64 (dif k 1 b b'), .int .i64 (dif k 2 c c'), .int .i64 (dif k 3 d d'), .int .i64 (dif k 4 f f')] ∧ Fresh w wr ∧ Known k a b c d f a' b' c' d' f')
  case atStart =>
    refine ⟨0, by omega, rfl, rfl, ?_, ?_, ?_, ?_, ?_, ?_⟩
    · exact (((Blk.at_new (by simp) _ _).alloc _).alloc _).alloc _
    · exact ((Blk.at_new (by simp) _ _).alloc _).alloc _
    · exact (Blk.at_new (by simp) _ _).alloc _
    · exact Blk.at_new (by simp) _ _
    · (repeat (first | (with_reducible exact Keep.refl _ _) | (with_reducible assumption) | (with_reducible refine Keep.drew ?_) | (with_reducible refine Keep.drewN ?_ _) | (with_reducible refine Keep.alloc ?_ _) | (with_reducible refine Keep.setCell ?_ ?_ _) | (with_reducible refine fun _ => rfl)))
    · exact ⟨fun h => absurd h (by omega), fun h => absurd h (by omega), fun h => absurd h (by omega), fun h => absurd h (by omega), fun h => absurd h (by omega)⟩
  case round =>
    obtain ⟨k, hk, rfl, rfl, hA, hL, hN, hR, hF, hKn⟩ := hrel
    have cA := hA.cell
    have cL := hL.cell
    have cR := hR.cell
    have fR := hR.frozen
    have H1 := Lib.hid hA
    have H2 := Lib.hid hL
    have H3 := Lib.hid hN
    have H4 := Lib.hid hR
    have H5 := Lib.hid hF
    have H6 := Lib.hid hKn
    clear hA hL hN hR hF hKn
    have hk5 : k = 0 ∨ k = 1 ∨ k = 2 ∨ k = 3 ∨ k = 4 ∨ k = 5 := by omega
    rcases hk5 with rfl | rfl | rfl | rfl | rfl | rfl
    · go_wp2_with (go_at_call 8; refine (awake_any _).mono ?_; rintro e w3 ⟨rfl, h3⟩)
      all_goals try (go_ret; refine ⟨rfl, ?_⟩; (refine Keep.below (S := fun _ => False) ?_ (Nat.le_refl _) (fun _ _ h => h)); exact Keep.step H5.out h3 (fun _ _ h => h); done)
      go_region
      go_wp2
      go_roundg 4
      case measure => omega
      case rel => exact ⟨1, by omega, rfl, rfl, H1.out.far (by simp) _, H2.out.far (by simp) _, H3.out.far (by simp) _, (by have h := H4.out.set_ 0 (.int .i64 (a - min a a')); simp [dif] at h ⊢; exact h), (H5.out.setCell (by intro hh; dsimp only at hh; omega) _).drew, ⟨fun _ => Two.mk (by omega) (by omega) (by omega) (by omega), fun h => absurd h (by omega), fun h => absurd h (by omega), fun h => absurd h (by omega), fun h => absurd h (by omega)⟩⟩
    · go_wp2_with (go_at_call 8; refine (awake_any _).mono ?_; rintro e w3 ⟨rfl, h3⟩)
      all_goals try (go_ret; refine ⟨rfl, ?_⟩; (refine Keep.below (S := fun _ => False) ?_ (Nat.le_refl _) (fun _ _ h => h)); exact Keep.step H5.out h3 (fun _ _ h => h); done)
      go_region
      go_wp2
      go_roundg 3
      case measure => omega
      case rel => exact ⟨2, by omega, rfl, rfl, H1.out.far (by simp) _, H2.out.far (by simp) _, H3.out.far (by simp) _, (by have h := H4.out.set_ 1 (.int .i64 (b - min b b')); simp [dif] at h ⊢; exact h), (H5.out.setCell (by intro hh; dsimp only at hh; omega) _).drew, ⟨fun _ => H6.out.1 (by omega), fun _ => Two.mk (by omega) (by omega) (by omega) (by omega), fun h => absurd h (by omega), fun h => absurd h (by omega), fun h => absurd h (by omega)⟩⟩
    · go_wp2_with (go_at_call 8; refine (awake_any _).mono ?_; rintro e w3 ⟨rfl, h3⟩)
      all_goals try (go_ret; refine ⟨rfl, ?_⟩; (refine Keep.below (S := fun _ => False) ?_ (Nat.le_refl _) (fun _ _ h => h)); exact Keep.step H5.out h3 (fun _ _ h => h); done)
      go_region
      go_wp2
      go_roundg 2
      case measure => omega
      case rel => exact ⟨3, by omega, rfl, rfl, H1.out.far (by simp) _, H2.out.far (by simp) _, H3.out.far (by simp) _, (by have h := H4.out.set_ 2 (.int .i64 (c - min c c')); simp [dif] at h ⊢; exact h), (H5.out.setCell (by intro hh; dsimp only at hh; omega) _).drew, ⟨fun _ => H6.out.1 (by omega), fun _ => H6.out.2.1 (by omega), fun _ => Two.mk (by omega) (by omega) (by omega) (by omega), fun h => absurd h (by omega), fun h => absurd h (by omega)⟩⟩
    · go_wp2_with (go_at_call 8; refine (awake_any _).mono ?_; rintro e w3 ⟨rfl, h3⟩)
      all_goals try (go_ret; refine ⟨rfl, ?_⟩; (refine Keep.below (S := fun _ => False) ?_ (Nat.le_refl _) (fun _ _ h => h)); exact Keep.step H5.out h3 (fun _ _ h => h); done)
      go_region
      go_wp2
      go_roundg 1
      case measure => omega
      case rel => exact ⟨4, by omega, rfl, rfl, H1.out.far (by simp) _, H2.out.far (by simp) _, H3.out.far (by simp) _, (by have h := H4.out.set_ 3 (.int .i64 (d - min d d')); simp [dif] at h ⊢; exact h), (H5.out.setCell (by intro hh; dsimp only at hh; omega) _).drew, ⟨fun _ => H6.out.1 (by omega), fun _ => H6.out.2.1 (by omega), fun _ => H6.out.2.2.1 (by omega), fun _ => Two.mk (by omega) (by omega) (by omega) (by omega), fun h => absurd h (by omega)⟩⟩
    · go_wp2_with (go_at_call 8; refine (awake_any _).mono ?_; rintro e w3 ⟨rfl, h3⟩)
      all_goals try (go_ret; refine ⟨rfl, ?_⟩; (refine Keep.below (S := fun _ => False) ?_ (Nat.le_refl _) (fun _ _ h => h)); exact Keep.step H5.out h3 (fun _ _ h => h); done)
      go_region
      go_wp2
      go_roundg 0
      case measure => omega
      case rel => exact ⟨5, by omega, rfl, rfl, H1.out.far (by simp) _, H2.out.far (by simp) _, H3.out.far (by simp) _, (by have h := H4.out.set_ 4 (.int .i64 (f - min f f')); simp [dif] at h ⊢; exact h), (H5.out.setCell (by intro hh; dsimp only at hh; omega) _).drew, ⟨fun _ => H6.out.1 (by omega), fun _ => H6.out.2.1 (by omega), fun _ => H6.out.2.2.1 (by omega), fun _ => H6.out.2.2.2.1 (by omega), fun _ => Two.mk (by omega) (by omega) (by omega) (by omega)⟩⟩
    obtain ⟨ka, kb, kc, kd, kf⟩ := H6.out
    obtain ⟨⟨ha, ha1⟩, ha', ha1'⟩ := ka (by omega)
    obtain ⟨⟨hb, hb1⟩, hb', hb1'⟩ := kb (by omega)
    obtain ⟨⟨hc, hc1⟩, hc', hc1'⟩ := kc (by omega)
    obtain ⟨⟨hd, hd1⟩, hd', hd1'⟩ := kd (by omega)
    obtain ⟨⟨hf, hf1⟩, hf', hf1'⟩ := kf (by omega)
    clear ka kb kc kd kf
    have sR : ∀ x y : Int, 0 ≤ x → 0 ≤ y → ∀ i j : Nat, i < j → 0 ≤ dif j i x y ∧ dif j i x y ≤ x := by
      intro x y hx hy i j hij
      unfold dif
      rw [if_pos hij]
      omega
    obtain ⟨r0, r0'⟩ := sR a a' ha ha' 0 5 (by omega)
    obtain ⟨r1, r1'⟩ := sR b b' hb hb' 1 5 (by omega)
    obtain ⟨r2, r2'⟩ := sR c c' hc hc' 2 5 (by omega)
    obtain ⟨r3, r3'⟩ := sR d d' hd hd' 3 5 (by omega)
    obtain ⟨r4, r4'⟩ := sR f f' hf hf' 4 5 (by omega)
    have hR' := H4.out
    clear H4 sR H6 hk fR
    generalize dif 5 0 a a' = e0 at *
    generalize dif 5 1 b b' = e1 at *
    generalize dif 5 2 c c' = e2 at *
    generalize dif 5 3 d d' = e3 at *
    generalize dif 5 4 f f' = e4 at *
    have H4 := Lib.hid hR'
    have lA := H1.out.lt
    have lL := H2.out.lt
    have lN := H3.out.lt
    have lR := hR'.lt
    clear hR'
    go_wp2_with (go_at_call 8; refine (awake_any _).mono ?_; rintro e w3 ⟨rfl, h3⟩)
    all_goals try (go_ret; refine ⟨rfl, ?_⟩; (refine Keep.below (S := fun _ => False) ?_ (Nat.le_refl _) (fun _ _ h => h)); exact Keep.step H5.out h3 (fun _ _ h => h); done)
    refine (plus_two _ _ _ _ _ _ _ _ _ _ _ _ _ _ _ _ _ (Blk.at_new rfl _ _) ⟨by omega, by omega⟩ ⟨by omega, by omega⟩ ⟨by omega, by omega⟩ ⟨by omega, by omega⟩ ⟨by omega, by omega⟩ ⟨by omega, by omega⟩ ⟨by omega, by omega⟩ ⟨by omega, by omega⟩ ⟨by omega, by omega⟩ ⟨by omega, by omega⟩ ⟨by omega, by omega⟩ ⟨by omega, by omega⟩ ⟨by omega, by omega⟩ ⟨by omega, by omega⟩ ⟨by omega, by omega⟩).mono ?_
    rintro e wp ⟨rfl, hp⟩
    have A1 := hp.blk_ (H1.out.alloc _)
    have L1 := hp.blk_ (H2.out.alloc _)
    have N1 := hp.blk_ (H3.out.alloc _)
    have R1 := hp.blk_ (H4.out.alloc _)
    have F1 : Fresh w wp := Keep.step (H5.out.alloc _) hp (fun _ _ h => h)
    have cA1 := A1.cell
    have cL1 := L1.cell
    have cR1 := R1.cell
    have lA1 := A1.lt
    have lL1 := L1.lt
    have lR1 := R1.lt
    have P1 := Lib.hid A1
    have P2 := Lib.hid L1
    have P3 := Lib.hid N1
    have P4 := Lib.hid R1
    have P5 := Lib.hid F1
    clear A1 L1 N1 R1 F1 hp H1 H2 H3 H4 H5 cA cL cR lA lL lN lR
    go_wp2
    have s1 : IntKind.i64.wrap (e0 + e1 + e2 + e3 + e4 + (a' + b' + c' + d' + f')) = e0 + e1 + e2 + e3 + e4 + (a' + b' + c' + d' + f') := IntWalk.i64_in _ (by omega)
    have s2 : IntKind.i64.wrap (e0 + e1 + e2 + e3 + e4 + (a' + b' + c' + d' + f') + (a + b + c + d + f)) = e0 + e1 + e2 + e3 + e4 + (a' + b' + c' + d' + f') + (a + b + c + d + f) := IntWalk.i64_in _ (by omega)
    have s3 : ((e0 + a' + a + (e1 + b' + b) + (e2 + c' + c) + (e3 + d' + d) + (e4 + f' + f)) != (e0 + e1 + e2 + e3 + e4 + (a' + b' + c' + d' + f') + (a + b + c + d + f))) = false := by rw [bne_eq_false_iff_eq]; omega
    have kA := fun (W : World) (h : Blk W (w.heap.size + 1) 26 #[Value.int .i64 a, .int .i64 b, .int .i64 c, .int .i64 d, .int .i64 f, .int .i64 more, .bool vital]) (i : Nat) => h.cell i
    have kL := fun (W : World) (h : Blk W (w.heap.size + 2) 24 #[Value.int .i64 a', .int .i64 b', .int .i64 c', .int .i64 d', .int .i64 f']) (i : Nat) => h.cell i
    have kR := fun (W : World) (h : Blk W (w.heap.size + 4) 24 #[Value.int .i64 e0, .int .i64 e1, .int .i64 e2, .int .i64 e3, .int .i64 e4]) (i : Nat) => h.cell i
    have kS := fun (W : World) (h : Blk W wp.heap.size 24 #[Value.int .i64 (e0 + a' + a), .int .i64 (e1 + b' + b), .int .i64 (e2 + c' + c), .int .i64 (e3 + d' + d), .int .i64 (e4 + f' + f)]) (i : Nat) => h.cell i
    go_region_held3 (fun w' => Blk w' (w.heap.size + 1) 26 #[Value.int .i64 a, .int .i64 b, .int .i64 c, .int .i64 d, .int .i64 f, .int .i64 more, .bool vital] ∧ Blk w' (w.heap.size + 2) 24 #[Value.int .i64 a', .int .i64 b', .int .i64 c', .int .i64 d', .int .i64 f'] ∧ Blk w' (w.heap.size + 4) 24 #[Value.int .i64 e0, .int .i64 e1, .int .i64 e2, .int .i64 e3, .int .i64 e4] ∧ Blk w' wp.heap.size 24 #[Value.int .i64 (e0 + a' + a), .int .i64 (e1 + b' + b), .int .i64 (e2 + c' + c), .int .i64 (e3 + d' + d), .int .i64 (e4 + f' + f)] ∧ Blk w' (w.heap.size + 3) 52 #[.int .i64 r, .int .i64 s, .int .i64 0, .int .i64 0, .int .i64 0, .int .i64 0, .int .i64 0] ∧ Fresh w w')
      (((try dsimp only); (repeat' apply And.intro) <;> (repeat (first
        | (with_reducible exact P1.out) | (with_reducible exact P2.out) | (with_reducible exact P4.out) | (with_reducible exact P3.out) | (with_reducible exact P5.out) | (with_reducible assumption)
        | (with_reducible exact Blk.at_new rfl _ _) | (with_reducible refine Blk.drew ?_) | (with_reducible refine Blk.alloc ?_ _) | (with_reducible refine Keep.drew ?_) | (with_reducible refine Keep.alloc ?_ _)
        | (with_reducible refine Fresh.blk_ hq ?_) | (with_reducible refine Keep.step ?_ hq (fun _ _ h => h))))))
      (first
        | (go_at_call 10; refine (sum_any _ _ _ _ _ _ ⟨by omega, by omega⟩ ⟨by omega, by omega⟩ ⟨by omega, by omega⟩ ⟨by omega, by omega⟩ ⟨by omega, by omega⟩).mono ?_; rintro e w' ⟨rfl, rfl⟩)
        | (go_at_call 9; refine (plus_nil _ _ _ _ _ _).mono ?_; rintro e wq ⟨rfl, hq⟩))
    clear s1 s2 s3
    go_split_ands
    have hm0 : 0 ≤ more := by omega
    have hm1 : more ≤ 1000 := by omega
    go_wp2_with fail
    by_cases hfit : a + b + c + d + f + more ≤ roomB r s vital
    rotate_left
    · refine (fit_mem _ a b c d f more r s vital _ (Blk.cell_ (t := 52) ‹_› 0 rfl) (Blk.cell_ (t := 52) ‹_› 1 rfl) ⟨by omega, by omega⟩ ⟨by omega, by omega⟩ ⟨by omega, by omega⟩ ⟨by omega, by omega⟩ ⟨by omega, by omega⟩ ⟨by omega, by omega⟩ h3 h4 h2 (by omega)).mono ?_
      rintro e w4 ⟨rfl, hk4⟩
      go_wp2_with (go_at_call 8; refine (awake_any _).mono ?_; rintro e w5 ⟨rfl, h5⟩)
      go_ret
      refine ⟨rfl, ?_⟩
      (refine Keep.below (S := fun _ => False) ?_ (Nat.le_refl _) (fun _ _ h => h))
      exact Keep.step (Keep.step (by assumption) (Keep.of_below (S := fun _ => False) hk4 (by intro k q1 q2; omega)) (fun _ _ h => h)) h5 (fun _ _ h => h)
    refine (fit_ok _ a b c d f more r s 0 0 0 0 0 vital _ (by assumption) ⟨by omega, by omega⟩ ⟨by omega, by omega⟩ ⟨by omega, by omega⟩ ⟨by omega, by omega⟩ ⟨by omega, by omega⟩ ⟨by omega, by omega⟩ h3 h4 h2 hfit).mono ?_
    rintro e w4 ⟨rfl, hk4, hb4⟩
    have A4 := (show Blk _ (w.heap.size + 1) 26 #[Value.int .i64 a, .int .i64 b, .int .i64 c, .int .i64 d, .int .i64 f, .int .i64 more, .bool vital] by assumption).keep hk4 (by omega)
    have R4 := (show Blk _ (w.heap.size + 4) 24 #[Value.int .i64 e0, .int .i64 e1, .int .i64 e2, .int .i64 e3, .int .i64 e4] by assumption).keep hk4 (by omega)
    have F4 : Fresh w w4 := Keep.step (by assumption) hk4 (by omega)
    have hT : a + b + c + d + f + more ≤ roomB r s true := by
      have : roomB r s vital ≤ roomB r s true := by cases vital <;> simp [roomB]; omega
      omega
    go_wp2_with fail
    refine (fit_ok _ e0 e1 e2 e3 e4 more r s _ _ _ _ _ vital _ hb4 ⟨by omega, by omega⟩ ⟨by omega, by omega⟩ ⟨by omega, by omega⟩ ⟨by omega, by omega⟩ ⟨by omega, by omega⟩ ⟨by omega, by omega⟩ h3 h4 h2 (by omega)).mono ?_
    rintro e w5 ⟨rfl, hk5, hb5⟩
    have A5 := A4.keep hk5 (by omega)
    have F5 : Fresh w w5 := Keep.step F4 hk5 (by omega)
    go_wp2_with fail
    refine (fit_ok _ a b c d f more r s _ _ _ _ _ true _ hb5 ⟨by omega, by omega⟩ ⟨by omega, by omega⟩ ⟨by omega, by omega⟩ ⟨by omega, by omega⟩ ⟨by omega, by omega⟩ ⟨by omega, by omega⟩ h3 h4 h2 hT).mono ?_
    rintro e w6 ⟨rfl, hk6, hb6⟩
    have A6 := A5.keep hk6 (by omega)
    have F6 : Fresh w w6 := Keep.step F5 hk6 (by omega)
    go_wp2_with fail
    refine (fit_ok _ a b c d f _ r s _ _ _ _ _ vital _ hb6 ⟨by omega, by omega⟩ ⟨by omega, by omega⟩ ⟨by omega, by omega⟩ ⟨by omega, by omega⟩ ⟨by omega, by omega⟩ ⟨by omega, by omega⟩ h3 h4 h2 (by omega)).mono ?_
    rintro e w7 ⟨rfl, hk7, hb7⟩
    have F7 : Fresh w w7 := Keep.step F6 hk7 (by omega)
    go_wp2_with (go_at_call 8; refine (awake_any _).mono ?_; rintro e w8 ⟨rfl, h8⟩)
    go_ret
    refine ⟨rfl, ?_⟩
    (refine Keep.below (S := fun _ => False) ?_ (Nat.le_refl _) (fun _ _ h => h))
    exact Keep.step F7 h8 (fun _ _ h => h)
open Go.ChangeShapes Go.WideShapes Go.ChangeAt
set_option maxRecDepth 100000 in
theorem budgetLess_lifted (os : Os) (started : os.Started) (H : Type) (enc : TypeId × Value → H) :
    ReturnsInHanded {} Try.checked os 3 .any (Rows.budgetLessSpec.pre6 enc Try.prog Try.f3 Rows.budgetLessRow.domain false) (Rows.budgetLessSpec.post enc Try.prog Try.f3 false true false false) := by
  refine law_lifted (C := Try.checked) (tb := 4) (by kernel_rfl) (by kernel_rfl) started (by kernel_rfl) Try.func3 rfl ?_ rfl Try.underlying4 (by kernel_rfl)
    (ChangeSpec.witness6 (enc := enc) (C := Try.checked) false ⟨#[], #[.agg #[.int .i64 0, .int .i64 0], .agg #[.int .i64 0, .int .i64 0, .int .i64 0, .int .i64 0, .int .i64 0, .int .i64 0, .bool false], .agg #[.int .i64 0, .int .i64 0, .int .i64 0, .int .i64 0, .int .i64 0]], []⟩ 12 (by kernel_rfl) (by kernel_rfl) (by kernel_rfl) (by kernel_rfl)) ?_
  · intro ds hds
    match ds, hds with
    | [e0, e1, e2], _ => rfl
  · intro W base args ds p hval hA hreach
    rw [Try.params3] at hA hval hreach
    obtain ⟨v0, vs0, d0, ds0, p0, q0, hargs, rfl, rfl, h0, r0⟩ := trodAll_cons hA
    obtain ⟨v1, vs1, d1, ds1, p1, q1, rfl, rfl, rfl, h1, r1⟩ := trodAll_cons r0
    obtain ⟨v2, vs2, d2, ds2, p2, q2, rfl, rfl, rfl, h2, r2⟩ := trodAll_cons r1
    obtain ⟨rfl, rfl, rfl⟩ := trodAll_nil r2
    obtain rfl : args = #[v0, v1, v2] := by cases args; simp_all
    obtain ⟨l0, rfl, hl0⟩ := arg_array (n := 6) Try.underlying22 (by kernel_rfl) (hval 0 22 v0 rfl rfl) h0
    have hfl : flat Try.prog 6 22 = [3, 3] := by kernel_rfl
    rw [hfl] at hl0; clear hfl
    obtain ⟨r, l1, e1, w_r, hl1⟩ := all2_int Try.underlying3 hl0
    obtain ⟨s, l2, e2, w_s, hl2⟩ := all2_int Try.underlying3 hl1
    obtain rfl := all2_nil hl2
    subst e2 e1
    clear hl2 hl1 hl0
    obtain ⟨l0, rfl, hl0⟩ := arg_struct (n := 6) Try.underlying26 (by kernel_rfl) (hval 1 26 v1 rfl rfl) h1
    have hfl : flat Try.prog 6 26 = [3, 3, 3, 3, 3, 3, 4] := by kernel_rfl
    rw [hfl] at hl0; clear hfl
    obtain ⟨a, l1, e1, w_a, hl1⟩ := all2_int Try.underlying3 hl0
    obtain ⟨b, l2, e2, w_b, hl2⟩ := all2_int Try.underlying3 hl1
    obtain ⟨c, l3, e3, w_c, hl3⟩ := all2_int Try.underlying3 hl2
    obtain ⟨d, l4, e4, w_d, hl4⟩ := all2_int Try.underlying3 hl3
    obtain ⟨f, l5, e5, w_f, hl5⟩ := all2_int Try.underlying3 hl4
    obtain ⟨m, l6, e6, w_m, hl6⟩ := all2_int Try.underlying3 hl5
    obtain ⟨v, l7, e7, hl7⟩ := all2_bool Try.underlying4 hl6
    obtain rfl := all2_nil hl7
    subst e7 e6 e5 e4 e3 e2 e1
    clear hl7 hl6 hl5 hl4 hl3 hl2 hl1 hl0
    obtain ⟨l0, rfl, hl0⟩ := arg_array (n := 6) Try.underlying24 (by kernel_rfl) (hval 2 24 v2 rfl rfl) h2
    have hfl : flat Try.prog 6 24 = [3, 3, 3, 3, 3] := by kernel_rfl
    rw [hfl] at hl0; clear hfl
    obtain ⟨a', l1, e1, w_a', hl1⟩ := all2_int Try.underlying3 hl0
    obtain ⟨b', l2, e2, w_b', hl2⟩ := all2_int Try.underlying3 hl1
    obtain ⟨c', l3, e3, w_c', hl3⟩ := all2_int Try.underlying3 hl2
    obtain ⟨d', l4, e4, w_d', hl4⟩ := all2_int Try.underlying3 hl3
    obtain ⟨f', l5, e5, w_f', hl5⟩ := all2_int Try.underlying3 hl4
    obtain rfl := all2_nil hl5
    subst e5 e4 e3 e2 e1
    clear hl5 hl4 hl3 hl2 hl1 hl0
    by_cases h : r < 1 ∨ 4096 < r ∨ s < 0 ∨ r < s
    · exact less_arg r s a b c d f m v a' b' c' d' f' W h
    · exact less_ok r s a b c d f m v a' b' c' d' f' W (by omega) (by omega) (by omega) (by omega)

theorem budgetLess_holds : Rows.BudgetLessSaid :=
  OpenClaim.holds_of_wide 3 Try.f3 rfl rfl rfl rfl rfl rfl rfl ⟨rfl, rfl, rfl, rfl, rfl⟩ rfl rfl rfl rfl rfl (by kernel_rfl) Try.func3 (by kernel_rfl)
    (of_decide_eq_true (by kernel_rfl)) (by unfold Func.isWrapper; first | (rw [if_pos (by decide +kernel)]; kernel_rfl) | (rw [if_neg (by decide +kernel)]; exact ⟨rfl, rfl⟩))
    (fun os started H enc _ => budgetLess_lifted os started H enc)
end Go.Proofs.Ytfldnbmafbdpeaa
