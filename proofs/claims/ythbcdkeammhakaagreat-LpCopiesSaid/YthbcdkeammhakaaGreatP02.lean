/- Chapter 13: Event, EvOrd, PFns. -/
import Derived.Test.YthbcdkeammhakaaGreatP01
import Derived.Test.YthbcdkeammhakaaGreatRows
import Derived.Handy
import Derived.BigQuiet
import Derived.BigRegion
import Derived.Deep.QuietTactic
import Derived.Deep.RegionHeld3
import Derived.Deep.LoopGhost
import Derived.Deep.RegionLaw
import Derived.Deep.DrawnRows
import Derived.StillTailTactics
import Derived.LaidEqlPtr
import Derived.Lib.LazyBuf
set_option maxRecDepth 100000
set_option maxHeartbeats 16000000
namespace Go.Proofs.YthbcdkeammhakaaGreat
open Go.RowKit
structure Ev where
 a : Int
 s : Int
 t : Int
 n : Int
 d : Int
 k : Int
 x : Int
 deriving DecidableEq
def Ev.enc (e : Ev) : List Value := [.int .i64 e.a, .int .i64 e.s, .int .i64 e.t, .int .i64 e.n, .int .i64 e.d, .int .i64 e.k, .int .i64 e.x]
def Ev.val (e : Ev) : Value := .agg #[.int .i64 e.a, .int .i64 e.s, .int .i64 e.t, .int .i64 e.n, .int .i64 e.d, .int .i64 e.k, .int .i64 e.x]
def keyLt (p q : Ev) : Bool :=
 if p.a ≠ q.a then decide (p.a < q.a) else if p.s ≠ q.s then decide (p.s < q.s) else if p.t ≠ q.t then decide (p.t < q.t) else decide (p.n < q.n)
def evLt (p q : Ev) : Bool :=
 if p.a ≠ q.a then decide (p.a < q.a) else if p.s ≠ q.s then decide (p.s < q.s) else if p.t ≠ q.t then decide (p.t < q.t) else if p.n ≠ q.n then decide (p.n < q.n)
 else if p.d ≠ q.d then decide (p.d < q.d) else if p.k ≠ q.k then decide (p.k < q.k) else decide (p.x < q.x)
def cmpI (a b : Int) : Int := if a < b then -1 else if b < a then 1 else 0
def evCmp (p q : Ev) : Int := if evLt p q then -1 else if evLt q p then 1 else 0
theorem before_any (p q : Ev) (w : World) : Calls Tryz.prog 129 #[.agg #[.int .i64 p.a, .int .i64 p.s, .int .i64 p.t, .int .i64 p.n], .agg #[.int .i64 q.a, .int .i64 q.s, .int .i64 q.t, .int .i64 q.n]] w fun e w' => e = .returned (.bool (keyLt p q)) ∧ Fresh w w' := by
 obtain ⟨a, s, t, n, _, _, _⟩ := p
 obtain ⟨a', s', t', n', _, _, _⟩ := q
 unfold keyLt
 by_cases h1 : a = a'
 rotate_left
 ·have g1 : (a != a') = true := by simpa using h1
  go_enter Tryz.func129, Tryz.ntmps129
  go_wp2
  go_ret
  exact ⟨by simp, by (repeat (first | (with_reducible exact Keep.refl _ _) | (with_reducible assumption) | (with_reducible refine Keep.drew ?_) | (with_reducible refine Keep.drewN ?_ _) | (with_reducible refine Keep.alloc ?_ _) | (with_reducible refine Keep.setCell ?_ ?_ _) | (with_reducible refine fun _ => rfl)))⟩
 subst h1
 by_cases h2 : s = s'
 rotate_left
 ·have g2 : (s != s') = true := by simpa using h2
  go_enter Tryz.func129, Tryz.ntmps129
  go_wp2
  go_ret
  exact ⟨by simp, by (repeat (first | (with_reducible exact Keep.refl _ _) | (with_reducible assumption) | (with_reducible refine Keep.drew ?_) | (with_reducible refine Keep.drewN ?_ _) | (with_reducible refine Keep.alloc ?_ _) | (with_reducible refine Keep.setCell ?_ ?_ _) | (with_reducible refine fun _ => rfl)))⟩
 subst h2
 by_cases h3 : t = t'
 rotate_left
 ·have g3 : (t != t') = true := by simpa using h3
  go_enter Tryz.func129, Tryz.ntmps129
  go_wp2
  go_ret
  exact ⟨by simp, by (repeat (first | (with_reducible exact Keep.refl _ _) | (with_reducible assumption) | (with_reducible refine Keep.drew ?_) | (with_reducible refine Keep.drewN ?_ _) | (with_reducible refine Keep.alloc ?_ _) | (with_reducible refine Keep.setCell ?_ ?_ _) | (with_reducible refine fun _ => rfl)))⟩
 subst h3
 go_enter Tryz.func129, Tryz.ntmps129
 go_wp2
 go_ret
 exact ⟨by simp, by (repeat (first | (with_reducible exact Keep.refl _ _) | (with_reducible assumption) | (with_reducible refine Keep.drew ?_) | (with_reducible refine Keep.drewN ?_ _) | (with_reducible refine Keep.alloc ?_ _) | (with_reducible refine Keep.setCell ?_ ?_ _) | (with_reducible refine fun _ => rfl)))⟩
theorem isNaN_any (a : Int) (w : World) : Calls Tryz.prog 154 #[.int .i64 a] w fun e w' => e = .returned (.bool false) ∧ w = w' := by
 go_enter Tryz.func154, Tryz.ntmps154
 go_wp2
 go_ret
 exact ⟨by simp, rfl⟩
theorem cmpI_any (a b : Int) (w : World) : Calls Tryz.prog 131 #[.int .i64 a, .int .i64 b] w fun e w' => e = .returned (.int .i64 (cmpI a b)) ∧ w = w' := by
 by_cases h1 : a < b
 ·go_enter Tryz.func131, Tryz.ntmps131
  go_wp2_with (go_at_call 154; refine (isNaN_any _ _).mono ?_; rintro e w1 ⟨rfl, rfl⟩)
  go_ret
  exact ⟨by simp [cmpI, h1], rfl⟩
 by_cases h2 : b < a
 ·go_enter Tryz.func131, Tryz.ntmps131
  go_wp2_with (go_at_call 154; refine (isNaN_any _ _).mono ?_; rintro e w1 ⟨rfl, rfl⟩)
  go_ret
  exact ⟨by simp [cmpI, h1, h2], rfl⟩
 ·go_enter Tryz.func131, Tryz.ntmps131
  go_wp2_with (go_at_call 154; refine (isNaN_any _ _).mono ?_; rintro e w1 ⟨rfl, rfl⟩)
  go_ret
  exact ⟨by unfold cmpI; rw [if_neg (by omega), if_neg (by omega)]; rfl, rfl⟩
def or3 (x y z : Int) : Int := if x ≠ 0 then x else if y ≠ 0 then y else z
theorem or3_any (x y z : Int) (g : Nat) (w : World) (c0 : w.cell? ⟨g, 0, none⟩ = some (.int .i64 x)) (c1 : w.cell? ⟨g, 1, none⟩ = some (.int .i64 y)) (c2 : w.cell? ⟨g, 2, none⟩ = some (.int .i64 z)) :
  Calls Tryz.prog 130 #[.slice (some ⟨g, 0, none⟩) 3 3] w fun e w' => e = .returned (.int .i64 (or3 x y z)) ∧ w = w' := by
 by_cases h1 : x = 0
 rotate_left
 ·have g1 : (x != 0) = true := by simpa using h1
  go_enter Tryz.func130, Tryz.ntmps130
  go_wp2
  refine wp_loop_rounds 4 ?_
  rw [rounds_succ]
  go_wp2
  go_ret
  exact ⟨by simp [or3, h1], rfl⟩
 subst h1
 by_cases h2 : y = 0
 rotate_left
 ·have g1 : (y != 0) = true := by simpa using h2
  go_enter Tryz.func130, Tryz.ntmps130
  go_wp2
  refine wp_loop_rounds 4 ?_
  iterate 2 (rw [rounds_succ]; go_wp2)
  go_ret
  exact ⟨by simp [or3, h2], rfl⟩
 subst h2
 by_cases h3 : z = 0
 rotate_left
 ·have g1 : (z != 0) = true := by simpa using h3
  go_enter Tryz.func130, Tryz.ntmps130
  go_wp2
  refine wp_loop_rounds 4 ?_
  iterate 3 (rw [rounds_succ]; go_wp2)
  go_ret
  exact ⟨by simp [or3], rfl⟩
 subst h3
 go_enter Tryz.func130, Tryz.ntmps130
 go_wp2
 refine wp_loop_rounds 4 ?_
 iterate 4 (rw [rounds_succ]; go_wp2)
 go_ret
 exact ⟨by simp [or3], rfl⟩
theorem evCmp_before {p q : Ev} (h : keyLt p q = true) : evCmp p q = -1 := by
 have : evLt p q = true := by
  unfold keyLt at h
  unfold evLt
  split at h
  ·rw [if_pos ‹_›]; exact h
  rw [if_neg ‹_›]
  split at h
  ·rw [if_pos ‹_›]; exact h
  rw [if_neg ‹_›]
  split at h
  ·rw [if_pos ‹_›]; exact h
  rw [if_neg ‹_›, if_pos (by simp at h; omega)]
  exact h
 simp [evCmp, this]
theorem keyLt_eq {p q : Ev} (h : keyLt p q = false) (h' : keyLt q p = false) : p.a = q.a ∧ p.s = q.s ∧ p.t = q.t ∧ p.n = q.n := by
 unfold keyLt at h h'
 have e1 : p.a = q.a := by
  apply Classical.byContradiction; intro hn
  rw [if_pos hn] at h; rw [if_pos (fun e => hn e.symm)] at h'; simp at h h'; omega
 rw [if_neg (by simpa using e1)] at h; rw [if_neg (by simpa using e1.symm)] at h'
 have e2 : p.s = q.s := by
  apply Classical.byContradiction; intro hn
  rw [if_pos hn] at h; rw [if_pos (fun e => hn e.symm)] at h'; simp at h h'; omega
 rw [if_neg (by simpa using e2)] at h; rw [if_neg (by simpa using e2.symm)] at h'
 have e3 : p.t = q.t := by
  apply Classical.byContradiction; intro hn
  rw [if_pos hn] at h; rw [if_pos (fun e => hn e.symm)] at h'; simp at h h'; omega
 rw [if_neg (by simpa using e3)] at h; rw [if_neg (by simpa using e3.symm)] at h'
 simp at h h'
 exact ⟨e1, e2, e3, by omega⟩
theorem evLt_asymm {p q : Ev} (h : evLt p q = true) : evLt q p = false := by
 unfold evLt at h ⊢
 repeat' split at h
 all_goals simp_all
 all_goals (repeat' split)
 all_goals first | omega | (simp_all; done) | (simp_all; omega)
theorem evCmp_after {p q : Ev} (h' : keyLt q p = true) : evCmp p q = 1 := by
 have h1 : evLt q p = true := by
  have := evCmp_before h'
  unfold evCmp at this
  split at this
  ·assumption
  ·split at this <;> simp at this
 simp [evCmp, h1, evLt_asymm h1]
theorem evCmp_or {p q : Ev} (h : keyLt p q = false) (h' : keyLt q p = false) : evCmp p q = or3 (cmpI p.d q.d) (cmpI p.k q.k) (cmpI p.x q.x) := by
 obtain ⟨e1, e2, e3, e4⟩ := keyLt_eq h h'
 unfold evCmp evLt or3 cmpI
 simp only [e1, e2, e3, e4, ne_eq, not_true_eq_false, if_false]
 clear h h' e1 e2 e3 e4
 by_cases d1 : p.d < q.d
 ·simp [d1, show ¬ p.d = q.d by omega]
 by_cases d2 : q.d < p.d
 ·simp [d1, d2, show ¬ p.d = q.d by omega, show ¬ q.d = p.d by omega]
 have d3 : p.d = q.d := by omega
 simp only [d3, Int.lt_irrefl, if_false, not_true_eq_false]
 by_cases k1 : p.k < q.k
 ·simp [k1, show ¬ p.k = q.k by omega]
 by_cases k2 : q.k < p.k
 ·simp [k1, k2, show ¬ p.k = q.k by omega, show ¬ q.k = p.k by omega]
 have k3 : p.k = q.k := by omega
 simp only [k3, Int.lt_irrefl, if_false, not_true_eq_false]
 simp
theorem compare_any (p q : Ev) (w : World) : Calls Tryz.prog 93 #[p.val, q.val] w fun e w' => e = .returned (.int .i64 (evCmp p q)) ∧ Fresh w w' := by
 unfold Ev.val
 by_cases h1 : keyLt p q = true
 ·rw [evCmp_before h1]
  go_enter Tryz.func93, Tryz.ntmps93
  go_wp2_with fail
  refine (before_any p q _).mono ?_
  rintro e w1 ⟨rfl, f1⟩
  rw [h1]
  go_wp2
  go_ret
  exact ⟨rfl, Keep.step (((Keep.refl _ _).alloc _).alloc _) f1 (fun _ _ h => h)⟩
 have h1' : keyLt p q = false := by simpa using h1
 have hb : ∀ w : World, Blk ((w.alloc (.cells #[.int .i64 p.a, .int .i64 p.s, .int .i64 p.t, .int .i64 p.n, .int .i64 p.d, .int .i64 p.k, .int .i64 p.x] 41)).alloc (.cells #[.int .i64 q.a, .int .i64 q.s, .int .i64 q.t, .int .i64 q.n, .int .i64 q.d, .int .i64 q.k, .int .i64 q.x] 41)) w.heap.size 41 #[.int .i64 p.a, .int .i64 p.s, .int .i64 p.t, .int .i64 p.n, .int .i64 p.d, .int .i64 p.k, .int .i64 p.x] ∧
   Blk ((w.alloc (.cells #[.int .i64 p.a, .int .i64 p.s, .int .i64 p.t, .int .i64 p.n, .int .i64 p.d, .int .i64 p.k, .int .i64 p.x] 41)).alloc (.cells #[.int .i64 q.a, .int .i64 q.s, .int .i64 q.t, .int .i64 q.n, .int .i64 q.d, .int .i64 q.k, .int .i64 q.x] 41)) (w.heap.size + 1) 41 #[.int .i64 q.a, .int .i64 q.s, .int .i64 q.t, .int .i64 q.n, .int .i64 q.d, .int .i64 q.k, .int .i64 q.x] :=
  fun w => ⟨(Blk.at_new rfl _ _).alloc _, Blk.at_new (by simp) _ _⟩
 by_cases h2 : keyLt q p = true
 ·rw [evCmp_after h2]
  have HB := Lib.hid hb
  clear hb
  go_enter Tryz.func93, Tryz.ntmps93
  go_wp2_with fail
  refine (before_any p q _).mono ?_
  rintro e w1 ⟨rfl, f1⟩
  rw [h1']
  have cP := (f1.blk_ (HB.out w).1).cell
  have cQ := (f1.blk_ (HB.out w).2).cell
  have F1 := Lib.hid f1
  clear f1
  go_wp2_with fail
  refine (before_any q p _).mono ?_
  rintro e w2 ⟨rfl, f2⟩
  rw [h2]
  go_wp2
  go_ret
  exact ⟨rfl, Keep.step (Keep.step (((Keep.refl _ _).alloc _).alloc _) F1.out (fun _ _ h => h)) f2 (fun _ _ h => h)⟩
 have h2' : keyLt q p = false := by simpa using h2
 rw [evCmp_or h1' h2']
 have HB := Lib.hid hb
 clear hb
 go_enter Tryz.func93, Tryz.ntmps93
 go_wp2_with fail
 refine (before_any p q _).mono ?_
 rintro e w1 ⟨rfl, f1⟩
 rw [h1']
 have cP := (f1.blk_ (HB.out w).1).cell
 have cQ := (f1.blk_ (HB.out w).2).cell
 have F1 := Lib.hid f1
 clear f1
 go_wp2_with fail
 refine (before_any q p _).mono ?_
 rintro e w2 ⟨rfl, f2⟩
 rw [h2']
 have bP := f2.blk_ (F1.out.blk_ (HB.out w).1)
 have bQ := f2.blk_ (F1.out.blk_ (HB.out w).2)
 have F2 : Fresh w w2 := Keep.step (Keep.step (((Keep.refl _ _).alloc _).alloc _) F1.out (fun _ _ h => h)) f2 (fun _ _ h => h)
 have kP := fun (W : World) (h : Blk W w.heap.size 41 #[.int .i64 p.a, .int .i64 p.s, .int .i64 p.t, .int .i64 p.n, .int .i64 p.d, .int .i64 p.k, .int .i64 p.x]) (i : Nat) => h.cell i
 have kQ := fun (W : World) (h : Blk W (w.heap.size + 1) 41 #[.int .i64 q.a, .int .i64 q.s, .int .i64 q.t, .int .i64 q.n, .int .i64 q.d, .int .i64 q.k, .int .i64 q.x]) (i : Nat) => h.cell i
 clear cP cQ F1 f2
 have hA := Blk.at_new (w := w2) rfl 3 #[.int .i64 (cmpI p.d q.d), .int .i64 (cmpI p.k q.k), .int .i64 (cmpI p.x q.x)]
 have hOr := or3_any (cmpI p.d q.d) (cmpI p.k q.k) (cmpI p.x q.x) w2.heap.size (w2.alloc (.cells #[.int .i64 (cmpI p.d q.d), .int .i64 (cmpI p.k q.k), .int .i64 (cmpI p.x q.x)] 3)).drew (hA.drew.cell_ 0 rfl) (hA.drew.cell_ 1 rfl) (hA.drew.cell_ 2 rfl)
 clear hA
 go_wp2_with fail
 go_region_held3 (fun w' => Blk w' w.heap.size 41 #[.int .i64 p.a, .int .i64 p.s, .int .i64 p.t, .int .i64 p.n, .int .i64 p.d, .int .i64 p.k, .int .i64 p.x] ∧ Blk w' (w.heap.size + 1) 41 #[.int .i64 q.a, .int .i64 q.s, .int .i64 q.t, .int .i64 q.n, .int .i64 q.d, .int .i64 q.k, .int .i64 q.x] ∧ Fresh w w')
  (((try dsimp only); (repeat' apply And.intro) <;> (repeat (first
   | (with_reducible exact bP) | (with_reducible exact bQ) | (with_reducible exact F2) | (with_reducible assumption)
   | (with_reducible refine Blk.drew ?_) | (with_reducible refine Keep.drew ?_) | (with_reducible refine Blk.alloc ?_ _) | (with_reducible refine Keep.alloc ?_ _)))))
  (first
   | (go_at_call 131; refine (cmpI_any _ _ _).mono ?_; rintro e w' ⟨rfl, rfl⟩)
   | (go_at_call 130; refine hOr.mono ?_; rintro e w' ⟨rfl, rfl⟩))
 go_split_ands
 go_wp2
 go_ret
 exact ⟨rfl, by (repeat (first | (with_reducible exact Keep.refl _ _) | (with_reducible assumption) | (with_reducible refine Keep.drew ?_) | (with_reducible refine Keep.drewN ?_ _) | (with_reducible refine Keep.alloc ?_ _) | (with_reducible refine Keep.setCell ?_ ?_ _) | (with_reducible refine fun _ => rfl)))⟩
def Ev.at (e : Ev) : Nat → Int
 | 0 => e.a | 1 => e.s | 2 => e.t | 3 => e.n | 4 => e.d | 5 => e.k | 6 => e.x | _ => 0
theorem evLt_at {p q : Ev} {k : Nat} (hk : k < 7) (he : ∀ j, j < k → p.at j = q.at j) (hn : p.at k ≠ q.at k) : evLt p q = decide (p.at k < q.at k) := by
 have h0 := he 0; have h1 := he 1; have h2 := he 2; have h3 := he 3; have h4 := he 4; have h5 := he 5
 simp only [Ev.at] at h0 h1 h2 h3 h4 h5
 have : k = 0 ∨ k = 1 ∨ k = 2 ∨ k = 3 ∨ k = 4 ∨ k = 5 ∨ k = 6 := by omega
 unfold evLt
 rcases this with rfl | rfl | rfl | rfl | rfl | rfl | rfl <;> simp only [Ev.at] at hn ⊢ <;> simp_all
theorem evLt_same {p q : Ev} (he : ∀ j, j < 7 → p.at j = q.at j) : evLt p q = false := by
 have h0 := he 0; have h1 := he 1; have h2 := he 2; have h3 := he 3; have h4 := he 4; have h5 := he 5; have h6 := he 6
 simp only [Ev.at] at h0 h1 h2 h3 h4 h5 h6
 unfold evLt
 simp_all
theorem ahead_any (p q : Ev) (w : World) : Calls Tryz.prog 52 #[p.val, q.val] w fun e w' => e = .returned (.bool (evLt p q)) ∧ Fresh w w' := by
 unfold Ev.val
 go_enter Tryz.func52, Tryz.ntmps52
 go_wp2_with fail
 go_loopg [7] 7 (fun gk v wr => ∃ k : Nat, k ≤ 7 ∧ gk = 7 - k ∧ v = .int .i64 k ∧ (∀ j, j < k → p.at j = q.at j) ∧
  Blk wr (w.heap.size + 2) 3 #[.int .i64 p.a, .int .i64 p.s, .int .i64 p.t, .int .i64 p.n, .int .i64 p.d, .int .i64 p.k, .int .i64 p.x] ∧
  Blk wr (w.heap.size + 3) 3 #[.int .i64 q.a, .int .i64 q.s, .int .i64 q.t, .int .i64 q.n, .int .i64 q.d, .int .i64 q.k, .int .i64 q.x] ∧ Fresh w wr)
 case atStart =>
  exact ⟨0, by omega, rfl, rfl, fun j h => absurd h (by omega), (Blk.at_new (by simp) _ _).alloc _, Blk.at_new (by simp) _ _, ((((Keep.refl _ _).alloc _).alloc _).alloc _).alloc _⟩
 case round =>
  obtain ⟨k, hk, rfl, rfl, he, hP, hQ, hF⟩ := hrel
  by_cases hlt : k < 7
  rotate_left
  ·obtain rfl : k = 7 := by omega
   have hs := Lib.hid (evLt_same he)
   clear he hP hQ
   have HF := Lib.hid hF
   clear hF
   go_wp2_with fail
   go_ret
   exact ⟨by rw [hs.out]; rfl, HF.out⟩
  have cP : wr.cell? ⟨w.heap.size + 2, k, none⟩ = some (.int .i64 (p.at k)) := by
   rw [hP.cell]
   have : k = 0 ∨ k = 1 ∨ k = 2 ∨ k = 3 ∨ k = 4 ∨ k = 5 ∨ k = 6 := by omega
   rcases this with rfl | rfl | rfl | rfl | rfl | rfl | rfl <;> rfl
  have cQ : wr.cell? ⟨w.heap.size + 3, k, none⟩ = some (.int .i64 (q.at k)) := by
   rw [hQ.cell]
   have : k = 0 ∨ k = 1 ∨ k = 2 ∨ k = 3 ∨ k = 4 ∨ k = 5 ∨ k = 6 := by omega
   rcases this with rfl | rfl | rfl | rfl | rfl | rfl | rfl <;> rfl
  have HP := Lib.hid hP
  have HQ := Lib.hid hQ
  have HF := Lib.hid hF
  have HE := Lib.hid he
  clear hP hQ hF he
  have i0 : (0 : Int) ≤ (k : Int) := by omega
  have i1 : (k : Int) < 7 := by omega
  by_cases hd : p.at k = q.at k
  ·have t1 : (p.at k != q.at k) = false := by simpa using hd
   have HD := Lib.hid (show ∀ j, j < k + 1 → p.at j = q.at j from fun j hj => by
    by_cases h : j < k
    ·exact HE.out j h
    ·obtain rfl : j = k := by omega
     exact hd)
   clear hd
   generalize p.at k = u at *
   generalize q.at k = u' at *
   go_wp2_with fail
   go_quiet (fail)
   go_wp2_with fail
   go_roundg (7 - (k + 1))
   case measure => omega
   case rel => exact ⟨k + 1, by omega, rfl, by go_num, HD.out, HP.out.drewN _, HQ.out.drewN _, HF.out.drewN _⟩
  ·have t1 : (p.at k != q.at k) = true := by simpa using hd
   have hs := Lib.hid (evLt_at hlt HE.out hd)
   clear hd
   generalize p.at k = u at *
   generalize q.at k = u' at *
   go_wp2_with fail
   go_quiet (fail)
   go_wp2_with fail
   go_quiet (fail)
   go_wp2_with fail
   go_ret
   exact ⟨by rw [hs.out]; rfl, (HF.out.drewN _).drewN _⟩
end Go.Proofs.YthbcdkeammhakaaGreat
namespace Go.Proofs.YthbcdkeammhakaaGreat
open Go.RowKit
def Ev.list (e : Ev) : List Int := [e.a, e.s, e.t, e.n, e.d, e.k, e.x]
theorem evLt_list (p q : Ev) : evLt p q = true ↔ p.list < q.list := by
 unfold evLt Ev.list
 simp only [List.cons_lt_cons_iff]
 repeat' split
 all_goals (simp only [decide_eq_true_eq]; simp_all <;> omega)
theorem Ev.ext_list {p q : Ev} (h : p.list = q.list) : p = q := by
 cases p; cases q
 simp [Ev.list] at h
 simp_all
theorem evLt_trans {p q r : Ev} (h : evLt p q = true) (h' : evLt q r = true) : evLt p r = true := by
 rw [evLt_list] at *
 exact List.lt_trans h h'
theorem evLt_total {p q : Ev} (h : evLt p q = false) (h' : evLt q p = false) : p = q := by
 have h1 : ¬ p.list < q.list := fun hh => by rw [← evLt_list] at hh; simp [hh] at h
 have h2 : ¬ q.list < p.list := fun hh => by rw [← evLt_list] at hh; simp [hh] at h'
 exact Ev.ext_list (List.le_antisymm (List.not_lt.1 h2) (List.not_lt.1 h1))
theorem evLt_irrefl (p : Ev) : evLt p p = false := evLt_same (fun _ _ => rfl)
end Go.Proofs.YthbcdkeammhakaaGreat
namespace Go.Proofs.YthbcdkeammhakaaGreat
open Go.RowKit
attribute [local go_sem ↓] Go.wp_at_zero Go.wp_at_succ
def cells (l : List Ev) : List Value := l.flatMap Ev.enc
theorem cells_cons (p : Ev) (l : List Ev) : cells (p :: l) = .int .i64 p.a :: .int .i64 p.s :: .int .i64 p.t :: .int .i64 p.n :: .int .i64 p.d :: .int .i64 p.k :: .int .i64 p.x :: cells l := rfl
theorem cells_length (l : List Ev) : (cells l).length = l.length * 7 := by
 induction l with
 | nil => rfl
 | cons a l ih => rw [cells_cons]; simp only [List.length_cons, ih]; omega
theorem cells_append (l m : List Ev) : cells (l ++ m) = cells l ++ cells m := by simp [cells]
theorem cells_at : ∀ (l : List Ev) (k : Nat) (s : Ev), l[k]? = some s → (cells l)[k * 7]? = some (.int .i64 s.a) ∧ (cells l)[k * 7 + 1]? = some (.int .i64 s.s) ∧ (cells l)[k * 7 + 2]? = some (.int .i64 s.t) ∧ (cells l)[k * 7 + 3]? = some (.int .i64 s.n) ∧ (cells l)[k * 7 + 4]? = some (.int .i64 s.d) ∧ (cells l)[k * 7 + 5]? = some (.int .i64 s.k) ∧ (cells l)[k * 7 + 6]? = some (.int .i64 s.x)
 | [], _, _, h => by simp at h
 | a :: l, 0, s, h => by
  simp at h
  subst h
  exact ⟨rfl, rfl, rfl, rfl, rfl, rfl, rfl⟩
 | a :: l, k + 1, s, h => by
  have := cells_at l k s (by simpa using h)
  rw [cells_cons, show (k + 1) * 7 = k * 7 + 7 by omega, show k * 7 + 7 + 1 = (k * 7 + 1) + 7 by omega, show k * 7 + 7 + 2 = (k * 7 + 2) + 7 by omega, show k * 7 + 7 + 3 = (k * 7 + 3) + 7 by omega, show k * 7 + 7 + 4 = (k * 7 + 4) + 7 by omega, show k * 7 + 7 + 5 = (k * 7 + 5) + 7 by omega, show k * 7 + 7 + 6 = (k * 7 + 6) + 7 by omega]
  exact this
theorem cells_drop (l : List Ev) (a : Nat) : (cells l).drop (a * 7) = cells (l.drop a) := by
 induction a generalizing l with
 | zero => simp
 | succ a ih =>
  cases l with
  | nil => simp [cells]
  | cons s l => rw [show (a + 1) * 7 = a * 7 + 7 by omega]; exact ih l
theorem cells_take (l : List Ev) (a : Nat) : (cells l).take (a * 7) = cells (l.take a) := by
 induction a generalizing l with
 | zero => simp [cells]
 | succ a ih =>
  cases l with
  | nil => simp [cells]
  | cons s l =>
   rw [cells_cons, show (a + 1) * 7 = a * 7 + 7 by omega, List.take_succ_cons, List.take_succ_cons, List.take_succ_cons, List.take_succ_cons, List.take_succ_cons, List.take_succ_cons, List.take_succ_cons, ih, List.take_succ_cons, cells_cons]
theorem cells_one (l : List Ev) : ∀ u ∈ cells l, u.oneCell' = true := by
 intro u hu
 simp only [cells, List.mem_flatMap] at hu
 obtain ⟨s, _, hs⟩ := hu
 simp [Ev.enc] at hs
 rcases hs with rfl | rfl | rfl | rfl | rfl | rfl | rfl <;> rfl
def Srt (l : List Ev) : Prop := l.Pairwise (fun p q => evLt q p = false)
def pos (l : List Ev) (e : Ev) : Nat := l.countP (fun x => evLt x e)
theorem evCmp_neg (p q : Ev) : evCmp p q < 0 ↔ evLt p q = true := by
 unfold evCmp
 split
 ·simp [*]
 ·split <;> simp [*]
theorem evCmp_zero (p q : Ev) : evCmp p q = 0 ↔ p = q := by
 constructor
 ·intro h
  unfold evCmp at h
  split at h
  ·simp at h
  ·split at h
   ·simp at h
   ·exact evLt_total (by simpa using ‹¬ evLt p q = true›) (by simpa using ‹¬ evLt q p = true›)
 ·rintro rfl
  simp [evCmp, evLt_irrefl]
theorem evLt_of_le {p q r : Ev} (h : evLt q p = false) (h' : evLt q r = true) : evLt p r = true := by
 cases h1 : evLt p q
 ·rwa [evLt_total h1 h]
 ·exact evLt_trans h1 h'
theorem Srt.mono {l : List Ev} (h : Srt l) {a b : Nat} {p q e : Ev} (hab : a ≤ b) (ha : l[a]? = some p) (hb : l[b]? = some q) (hq : evLt q e = true) : evLt p e = true := by
 by_cases hne : a = b
 ·subst hne
  rw [ha] at hb
  injection hb with hb
  rwa [hb]
 ·obtain ⟨h1, h2⟩ := List.getElem?_eq_some_iff.1 ha
  obtain ⟨h3, h4⟩ := List.getElem?_eq_some_iff.1 hb
  have := List.pairwise_iff_getElem.1 h a b h1 h3 (by omega)
  rw [h2, h4] at this
  exact evLt_of_le this hq
theorem pos_boundary : ∀ (l : List Ev) (i : Nat) (e : Ev), i ≤ l.length → (∀ t p, t < i → l[t]? = some p → evLt p e = true) → (∀ t p, i ≤ t → l[t]? = some p → evLt p e = false) → pos l e = i
 | [], i, e, hi, _, _ => by simp at hi; simp [hi, pos]
 | a :: r, 0, e, _, _, h2 => by
  unfold pos
  rw [List.countP_eq_zero]
  intro x hx
  obtain ⟨t, ht, rfl⟩ := List.getElem_of_mem hx
  simpa using h2 t _ (Nat.zero_le _) (List.getElem?_eq_getElem ht)
 | a :: r, i + 1, e, hi, h1, h2 => by
  have ha : evLt a e = true := by simpa using h1 0 a (Nat.succ_pos _) rfl
  have := pos_boundary r i e (by simpa using hi) (fun t p ht hp => h1 (t + 1) p (by omega) (by simpa using hp)) (fun t p ht hp => h2 (t + 1) p (by omega) (by simpa using hp))
  unfold pos at this ⊢
  rw [List.countP_cons_of_pos (p := fun x => evLt x e) ha, this]
theorem search_any (v : Value) (l : List Ev) (e : Ev) (w : World) (ho : OwnS w 41 7 v l.length (cells l)) (hs : Srt l) (hl : l.length ≤ 100000) :
  Calls Tryz.prog 96 #[v, e.val, .func (.func 93) #[] #[]] w fun en w' => en = .returned (.tuple #[.int .i64 (pos l e : Nat), .bool (decide (l[pos l e]? = some e))]) ∧ Fresh w w' := by
 obtain ⟨A, cap, rfl, hn, hm⟩ := ho.shape
 have hm : cap ≤ 9223372036854775807 := by unfold maxLen at hm; omega
 have HO := Lib.hid ho
 have HS := Lib.hid hs
 generalize hfin : decide (l[pos l e]? = some e) = fin
 have FIN := Lib.hid hfin
 generalize hcnt : pos l e = cnt at FIN ⊢
 have CN := Lib.hid hcnt
 clear ho hs hfin hcnt
 have HC := Lib.hid (fun (p : Ev) (W : World) => compare_any p e W)
 have HZ := Lib.hid (fun p => evCmp_zero p e)
 have HN := Lib.hid (fun p => evCmp_neg p e)
 unfold Ev.val at HC ⊢
 generalize hea : e.a = ea at HC ⊢
 generalize hes : e.s = es at HC ⊢
 generalize het : e.t = et at HC ⊢
 generalize hen : e.n = en at HC ⊢
 generalize hed : e.d = ed at HC ⊢
 generalize hek : e.k = ek at HC ⊢
 generalize hex : e.x = ex at HC ⊢
 clear hea hes het hen hed hek hex
 go_enter Tryz.func96, Tryz.ntmps96
 go_wp2_with fail
 go_loopg [9, 10] l.length (fun gk u9 u10 wr => ∃ lo hi : Nat, u9 = .int .i64 lo ∧ u10 = .int .i64 hi ∧ lo ≤ hi ∧ hi ≤ l.length ∧ hi - lo ≤ gk ∧ Fresh w wr ∧ Blk wr w.heap.size 41 #[.int .i64 ea, .int .i64 es, .int .i64 et, .int .i64 en, .int .i64 ed, .int .i64 ek, .int .i64 ex] ∧
  (∀ t p, t < lo → l[t]? = some p → evLt p e = true) ∧ (∀ t p, hi ≤ t → l[t]? = some p → evLt p e = false))
 case atStart => exact ⟨0, l.length, rfl, rfl, Nat.zero_le _, Nat.le_refl _, by omega, (Keep.refl _ _).alloc _, Blk.at_new rfl _ _, fun t p h => absurd h (by omega), fun t p h hp => absurd (List.getElem?_eq_some_iff.1 hp).1 (by omega)⟩
 case round =>
  obtain ⟨lo, hi, rfl, rfl, hlh, hin, hg, hF, hB, hI1, hI2⟩ := hrel
  have F := Lib.hid hF
  have B := Lib.hid hB
  have I1 := Lib.hid hI1
  have I2 := Lib.hid hI2
  have cE := hB.cell
  clear hF hB hI1 hI2
  have own := Lib.hid (HO.out.fresh F.out)
  by_cases hlt : lo < hi
  ·have i0 : (0 : Int) ≤ ((lo : Int) + (hi : Int)) / 2 := by omega
   have i1 : ((lo : Int) + (hi : Int)) / 2 < (l.length : Int) := by omega
   have i2 : (((lo : Int) + (hi : Int)) / 2).toNat = (lo + hi) / 2 := by omega
   obtain ⟨p, hp⟩ : ∃ p, l[(lo + hi) / 2]? = some p := ⟨_, List.getElem?_eq_getElem (by omega)⟩
   obtain ⟨g', off, cap', hv, _, _, _, hc⟩ := own.out.form (by omega)
   injection hv with e1 e2 e3
   subst e1 e3
   obtain ⟨c0, c1, c2, c3, c4, c5, c6⟩ := cells_at l _ p hp
   have c0 := hc _ _ c0
   have c1 := hc _ _ c1
   have c2 := hc _ _ c2
   have c3 := hc _ _ c3
   have c4 := hc _ _ c4
   have c5 := hc _ _ c5
   have c6 := hc _ _ c6
   rw [← Nat.add_assoc] at c1 c2 c3 c4 c5 c6
   have hcall := HC.out p
   have HP := Lib.hid hp
   have hneg := HN.out p
   clear hc hp
   by_cases hyx : evCmp p e < 0
   ·have hlp := Lib.hid (hneg.1 hyx)
    generalize evCmp p e = cc at hcall hyx
    have CC := Lib.hid hcall
    clear hcall hneg
    have d0 := fun (W : World) (f : Fresh wr W) => f.cell_ c0
    have d1 := fun (W : World) (f : Fresh wr W) => f.cell_ c1
    have d2 := fun (W : World) (f : Fresh wr W) => f.cell_ c2
    have d3 := fun (W : World) (f : Fresh wr W) => f.cell_ c3
    have d4 := fun (W : World) (f : Fresh wr W) => f.cell_ c4
    have d5 := fun (W : World) (f : Fresh wr W) => f.cell_ c5
    have d6 := fun (W : World) (f : Fresh wr W) => f.cell_ c6
    have dE := fun (W : World) (f : Fresh wr W) (i : Nat) => (f.blk_ B.out).cell i
    go_wp2_with fail
    go_region_held3 (fun W' => Fresh wr W') (exact (fun (f : Fresh wr _) => f) (by (repeat (first | (with_reducible exact Keep.refl _ _) | (with_reducible assumption) | (with_reducible refine Keep.drew ?_) | (with_reducible refine Keep.drewN ?_ _) | (with_reducible refine Keep.alloc ?_ _) | (with_reducible refine Keep.setCell ?_ ?_ _) | (with_reducible refine fun _ => rfl))))) ((go_at_call 93; (with_reducible refine (CC.out _).mono ?_); rintro en1 w1 ⟨rfl, f1⟩; have f2 := Keep.step (S := fun _ => False) (by assumption : Fresh wr _) f1 (fun _ _ h => h)))
    go_wp2_with fail
    go_roundg (hi - ((lo + hi) / 2 + 1))
    case measure => omega
    case rel => exact ⟨(lo + hi) / 2 + 1, hi, by rw [show ((lo : Int) + (hi : Int)) / 2 + 1 = (((lo + hi) / 2 + 1 : Nat) : Int) by omega], rfl, by omega, hin, Nat.le_refl _, F.out.step f2 (fun _ _ h => h), Fresh.blk_ f2 B.out, fun t q ht hq => HS.out.mono (by omega : t ≤ (lo + hi) / 2) hq HP.out hlp.out, I2.out⟩
   ·have hlp := Lib.hid (show evLt p e = false by
     cases hh : evLt p e
     ·rfl
     ·exact absurd (hneg.2 hh) hyx)
    generalize evCmp p e = cc at hcall hyx
    have CC := Lib.hid hcall
    clear hcall hneg
    have d0 := fun (W : World) (f : Fresh wr W) => f.cell_ c0
    have d1 := fun (W : World) (f : Fresh wr W) => f.cell_ c1
    have d2 := fun (W : World) (f : Fresh wr W) => f.cell_ c2
    have d3 := fun (W : World) (f : Fresh wr W) => f.cell_ c3
    have d4 := fun (W : World) (f : Fresh wr W) => f.cell_ c4
    have d5 := fun (W : World) (f : Fresh wr W) => f.cell_ c5
    have d6 := fun (W : World) (f : Fresh wr W) => f.cell_ c6
    have dE := fun (W : World) (f : Fresh wr W) (i : Nat) => (f.blk_ B.out).cell i
    go_wp2_with fail
    go_region_held3 (fun W' => Fresh wr W') (exact (fun (f : Fresh wr _) => f) (by (repeat (first | (with_reducible exact Keep.refl _ _) | (with_reducible assumption) | (with_reducible refine Keep.drew ?_) | (with_reducible refine Keep.drewN ?_ _) | (with_reducible refine Keep.alloc ?_ _) | (with_reducible refine Keep.setCell ?_ ?_ _) | (with_reducible refine fun _ => rfl))))) ((go_at_call 93; (with_reducible refine (CC.out _).mono ?_); rintro en1 w1 ⟨rfl, f1⟩; have f2 := Keep.step (S := fun _ => False) (by assumption : Fresh wr _) f1 (fun _ _ h => h)))
    go_wp2_with fail
    go_roundg ((lo + hi) / 2 - lo)
    case measure => omega
    case rel => exact ⟨lo, (lo + hi) / 2, rfl, by rw [show ((lo : Int) + (hi : Int)) / 2 = (((lo + hi) / 2 : Nat) : Int) by omega], by omega, by omega, Nat.le_refl _, F.out.step f2 (fun _ _ h => h), Fresh.blk_ f2 B.out, I1.out, fun t q ht hq => by
     cases hh : evLt q e
     ·rfl
     ·have := HS.out.mono ht HP.out hq hh
      rw [hlp.out] at this
      cases this⟩
  ·obtain rfl : hi = lo := by omega
   have ecnt : cnt = hi := by
    rw [← CN.out]
    exact pos_boundary l hi e hin I1.out I2.out
   subst ecnt
   by_cases hn1 : cnt < l.length
   ·obtain ⟨p, hp⟩ : ∃ p, l[cnt]? = some p := ⟨_, List.getElem?_eq_getElem hn1⟩
    obtain ⟨g', off, cap', hv, _, _, _, hc⟩ := own.out.form (by omega)
    injection hv with e1 e2 e3
    subst e1 e3
    obtain ⟨c0, c1, c2, c3, c4, c5, c6⟩ := cells_at l _ p hp
    have c0 := hc _ _ c0
    have c1 := hc _ _ c1
    have c2 := hc _ _ c2
    have c3 := hc _ _ c3
    have c4 := hc _ _ c4
    have c5 := hc _ _ c5
    have c6 := hc _ _ c6
    rw [← Nat.add_assoc] at c1 c2 c3 c4 c5 c6
    have hcall := HC.out p
    have hz := HZ.out p
    have hf := Lib.hid (show fin = decide (evCmp p e = 0) by
     rw [← FIN.out, hp]
     by_cases h : p = e
     ·simp [h, (evCmp_zero e e).2 rfl]
     ·rw [decide_eq_false (fun h' => h (by injection h')), decide_eq_false (fun h' => h (hz.1 h'))])
    clear hc hp hz FIN
    generalize evCmp p e = cc at hcall hf
    have CC := Lib.hid hcall
    clear hcall
    have d0 := fun (W : World) (f : Fresh wr W) => f.cell_ c0
    have d1 := fun (W : World) (f : Fresh wr W) => f.cell_ c1
    have d2 := fun (W : World) (f : Fresh wr W) => f.cell_ c2
    have d3 := fun (W : World) (f : Fresh wr W) => f.cell_ c3
    have d4 := fun (W : World) (f : Fresh wr W) => f.cell_ c4
    have d5 := fun (W : World) (f : Fresh wr W) => f.cell_ c5
    have d6 := fun (W : World) (f : Fresh wr W) => f.cell_ c6
    have dE := fun (W : World) (f : Fresh wr W) (i : Nat) => (f.blk_ B.out).cell i
    go_wp2_with fail
    go_region_held3 (fun W' => Fresh wr W') (exact (fun (f : Fresh wr _) => f) (by (repeat (first | (with_reducible exact Keep.refl _ _) | (with_reducible assumption) | (with_reducible refine Keep.drew ?_) | (with_reducible refine Keep.drewN ?_ _) | (with_reducible refine Keep.alloc ?_ _) | (with_reducible refine Keep.setCell ?_ ?_ _) | (with_reducible refine fun _ => rfl))))) ((go_at_call 93; (with_reducible refine (CC.out _).mono ?_); rintro en1 w1 ⟨rfl, f1⟩; have f2 := Keep.step (S := fun _ => False) (by assumption : Fresh wr _) f1 (fun _ _ h => h)))
    go_wp2_with fail
    go_ret2
    exact ⟨by rw [hf.out]; rfl, F.out.step f2 (fun _ _ h => h)⟩
   ·go_wp2_with fail
    go_quiet (fail)
    go_wp2_with fail
    go_ret2
    exact ⟨by rw [← FIN.out, List.getElem?_eq_none (by omega)]; rfl, F.out.drewN _⟩
end Go.Proofs.YthbcdkeammhakaaGreat
