/- Chapter 13: EventD. -/
import Derived.Test.YthbcdkeammhakaaGreatP02
set_option maxRecDepth 100000
set_option maxHeartbeats 16000000
namespace Go.Proofs.YthbcdkeammhakaaGreat
open Go.RowKit
structure FreshD (w w' : World) : Prop where
 f : Fresh w w'
 d : w.drawn ≤ w'.drawn
theorem FreshD.drew {w w' : World} (h : FreshD w w') : FreshD w w'.drew := ⟨h.f.drew, Nat.le_succ_of_le h.d⟩
theorem FreshD.alloc {w w' : World} (h : FreshD w w') (o : Obj) : FreshD w (w'.alloc o) := ⟨h.f.alloc o, h.d⟩
theorem before_d (p q : Ev) (w : World) : Calls Tryz.prog 129 #[.agg #[.int .i64 p.a, .int .i64 p.s, .int .i64 p.t, .int .i64 p.n], .agg #[.int .i64 q.a, .int .i64 q.s, .int .i64 q.t, .int .i64 q.n]] w fun e w' => e = .returned (.bool (keyLt p q)) ∧ FreshD w w' := by
 obtain ⟨a, s, t, n, _, _, _⟩ := p
 obtain ⟨a', s', t', n', _, _, _⟩ := q
 unfold keyLt
 by_cases h1 : a = a'
 rotate_left
 ·have g1 : (a != a') = true := by simpa using h1
  go_enter Tryz.func129, Tryz.ntmps129
  go_wp2
  go_ret
  exact ⟨by simp, ⟨by (repeat (first | (with_reducible exact Keep.refl _ _) | (with_reducible assumption) | (with_reducible refine Keep.drew ?_) | (with_reducible refine Keep.drewN ?_ _) | (with_reducible refine Keep.alloc ?_ _) | (with_reducible refine Keep.setCell ?_ ?_ _) | (with_reducible refine fun _ => rfl))), Nat.le_refl _⟩⟩
 subst h1
 by_cases h2 : s = s'
 rotate_left
 ·have g2 : (s != s') = true := by simpa using h2
  go_enter Tryz.func129, Tryz.ntmps129
  go_wp2
  go_ret
  exact ⟨by simp, ⟨by (repeat (first | (with_reducible exact Keep.refl _ _) | (with_reducible assumption) | (with_reducible refine Keep.drew ?_) | (with_reducible refine Keep.drewN ?_ _) | (with_reducible refine Keep.alloc ?_ _) | (with_reducible refine Keep.setCell ?_ ?_ _) | (with_reducible refine fun _ => rfl))), Nat.le_refl _⟩⟩
 subst h2
 by_cases h3 : t = t'
 rotate_left
 ·have g3 : (t != t') = true := by simpa using h3
  go_enter Tryz.func129, Tryz.ntmps129
  go_wp2
  go_ret
  exact ⟨by simp, ⟨by (repeat (first | (with_reducible exact Keep.refl _ _) | (with_reducible assumption) | (with_reducible refine Keep.drew ?_) | (with_reducible refine Keep.drewN ?_ _) | (with_reducible refine Keep.alloc ?_ _) | (with_reducible refine Keep.setCell ?_ ?_ _) | (with_reducible refine fun _ => rfl))), Nat.le_refl _⟩⟩
 subst h3
 go_enter Tryz.func129, Tryz.ntmps129
 go_wp2
 go_ret
 exact ⟨by simp, ⟨by (repeat (first | (with_reducible exact Keep.refl _ _) | (with_reducible assumption) | (with_reducible refine Keep.drew ?_) | (with_reducible refine Keep.drewN ?_ _) | (with_reducible refine Keep.alloc ?_ _) | (with_reducible refine Keep.setCell ?_ ?_ _) | (with_reducible refine fun _ => rfl))), Nat.le_refl _⟩⟩
theorem compare_d (p q : Ev) (w : World) : Calls Tryz.prog 93 #[p.val, q.val] w fun e w' => e = .returned (.int .i64 (evCmp p q)) ∧ FreshD w w' := by
 unfold Ev.val
 by_cases h1 : keyLt p q = true
 ·rw [evCmp_before h1]
  go_enter Tryz.func93, Tryz.ntmps93
  go_wp2_with fail
  refine (before_d p q _).mono ?_
  rintro e w1 ⟨rfl, f1⟩
  rw [h1]
  go_wp2
  go_ret
  exact ⟨rfl, Keep.step (((Keep.refl _ _).alloc _).alloc _) f1.f (fun _ _ h => h), f1.d⟩
 have h1' : keyLt p q = false := by simpa using h1
 have hb : ∀ w : World, Blk ((w.alloc (.cells #[.int .i64 p.a, .int .i64 p.s, .int .i64 p.t, .int .i64 p.n, .int .i64 p.d, .int .i64 p.k, .int .i64 p.x] 41)).alloc (.cells #[.int .i64 q.a, .int .i64 q.s, .int .i64 q.t, .int .i64 q.n, .int .i64 q.d, .int .i64 q.k, .int .i64 q.x] 41)) w.heap.size 41 #[.int .i64 p.a, .int .i64 p.s, .int .i64 p.t, .int .i64 p.n, .int .i64 p.d, .int .i64 p.k, .int .i64 p.x] ∧
   Blk ((w.alloc (.cells #[.int .i64 p.a, .int .i64 p.s, .int .i64 p.t, .int .i64 p.n, .int .i64 p.d, .int .i64 p.k, .int .i64 p.x] 41)).alloc (.cells #[.int .i64 q.a, .int .i64 q.s, .int .i64 q.t, .int .i64 q.n, .int .i64 q.d, .int .i64 q.k, .int .i64 q.x] 41)) (w.heap.size + 1) 41 #[.int .i64 q.a, .int .i64 q.s, .int .i64 q.t, .int .i64 q.n, .int .i64 q.d, .int .i64 q.k, .int .i64 q.x] :=
  fun w => ⟨(Blk.at_new rfl _ _).alloc _, Blk.at_new (by simp) _ _⟩
 by_cases h2 : keyLt q p = true
 ·rw [evCmp_after h2]
  have HB := Lib.hid hb
  clear hb
  go_enter Tryz.func93, Tryz.ntmps93
  go_wp2_with fail
  refine (before_d p q _).mono ?_
  rintro e w1 ⟨rfl, f1⟩
  rw [h1']
  have cP := (f1.f.blk_ (HB.out w).1).cell
  have cQ := (f1.f.blk_ (HB.out w).2).cell
  have F1 := Lib.hid f1
  clear f1
  go_wp2_with fail
  refine (before_d q p _).mono ?_
  rintro e w2 ⟨rfl, f2⟩
  rw [h2]
  go_wp2
  go_ret
  exact ⟨rfl, Keep.step (Keep.step (((Keep.refl _ _).alloc _).alloc _) F1.out.f (fun _ _ h => h)) f2.f (fun _ _ h => h), Nat.le_trans F1.out.d f2.d⟩
 have h2' : keyLt q p = false := by simpa using h2
 rw [evCmp_or h1' h2']
 have HB := Lib.hid hb
 clear hb
 go_enter Tryz.func93, Tryz.ntmps93
 go_wp2_with fail
 refine (before_d p q _).mono ?_
 rintro e w1 ⟨rfl, f1⟩
 rw [h1']
 have cP := (f1.f.blk_ (HB.out w).1).cell
 have cQ := (f1.f.blk_ (HB.out w).2).cell
 have F1 := Lib.hid f1
 clear f1
 go_wp2_with fail
 refine (before_d q p _).mono ?_
 rintro e w2 ⟨rfl, f2⟩
 rw [h2']
 have bP := f2.f.blk_ (F1.out.f.blk_ (HB.out w).1)
 have bQ := f2.f.blk_ (F1.out.f.blk_ (HB.out w).2)
 have F2 : FreshD w w2 := ⟨Keep.step (Keep.step (((Keep.refl _ _).alloc _).alloc _) F1.out.f (fun _ _ h => h)) f2.f (fun _ _ h => h), Nat.le_trans F1.out.d f2.d⟩
 have kP := fun (W : World) (h : Blk W w.heap.size 41 #[.int .i64 p.a, .int .i64 p.s, .int .i64 p.t, .int .i64 p.n, .int .i64 p.d, .int .i64 p.k, .int .i64 p.x]) (i : Nat) => h.cell i
 have kQ := fun (W : World) (h : Blk W (w.heap.size + 1) 41 #[.int .i64 q.a, .int .i64 q.s, .int .i64 q.t, .int .i64 q.n, .int .i64 q.d, .int .i64 q.k, .int .i64 q.x]) (i : Nat) => h.cell i
 clear cP cQ F1 f2
 have hA := Blk.at_new (w := w2) rfl 3 #[.int .i64 (cmpI p.d q.d), .int .i64 (cmpI p.k q.k), .int .i64 (cmpI p.x q.x)]
 have hOr := or3_any (cmpI p.d q.d) (cmpI p.k q.k) (cmpI p.x q.x) w2.heap.size (w2.alloc (.cells #[.int .i64 (cmpI p.d q.d), .int .i64 (cmpI p.k q.k), .int .i64 (cmpI p.x q.x)] 3)).drew (hA.drew.cell_ 0 rfl) (hA.drew.cell_ 1 rfl) (hA.drew.cell_ 2 rfl)
 clear hA
 go_wp2_with fail
 go_region_held3 (fun w' => Blk w' w.heap.size 41 #[.int .i64 p.a, .int .i64 p.s, .int .i64 p.t, .int .i64 p.n, .int .i64 p.d, .int .i64 p.k, .int .i64 p.x] ∧ Blk w' (w.heap.size + 1) 41 #[.int .i64 q.a, .int .i64 q.s, .int .i64 q.t, .int .i64 q.n, .int .i64 q.d, .int .i64 q.k, .int .i64 q.x] ∧ FreshD w w')
  (((try dsimp only); (repeat' apply And.intro) <;> (repeat (first
   | (with_reducible exact bP) | (with_reducible exact bQ) | (with_reducible exact F2) | (with_reducible assumption)
   | (with_reducible refine Blk.drew ?_) | (with_reducible refine FreshD.drew ?_) | (with_reducible refine Blk.alloc ?_ _) | (with_reducible refine FreshD.alloc ?_ _)))))
  (first
   | (go_at_call 131; refine (cmpI_any _ _ _).mono ?_; rintro e w' ⟨rfl, rfl⟩)
   | (go_at_call 130; refine hOr.mono ?_; rintro e w' ⟨rfl, rfl⟩))
 go_split_ands
 go_wp2
 go_ret
 exact ⟨rfl, by (repeat (first | (with_reducible assumption) | (with_reducible exact F2) | (with_reducible refine FreshD.drew ?_) | (with_reducible refine FreshD.alloc ?_ _)))⟩
end Go.Proofs.YthbcdkeammhakaaGreat
