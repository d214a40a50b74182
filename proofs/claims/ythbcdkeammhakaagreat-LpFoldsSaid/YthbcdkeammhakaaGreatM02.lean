/- Chapter 13: Event, EvOrd. -/
import Derived.Test.YthbcdkeammhakaaGreatRows
import Derived.Test.YthbcdkeammhakaaGreatM00
import Derived.Handy
import Derived.BigQuiet
import Derived.BigRegion
import Derived.Deep.QuietTactic
import Derived.Deep.RegionHeld3
import Derived.Deep.LoopGhost
/-
  Events: how they lie, their order; Key.Before, inq.Compare, the reference's Ahead.
-/
namespace Go.Proofs.YthbcdkeammhakaaGreat
open Go.RowKit

structure Ev where
  a : Int
  s : Int
  t : Int
  n : Int
  d : Int
  k : Int
  x : Int
  deriving DecidableEq

/-- An event's cells. -/
def Ev.enc (e : Ev) : List Value := [.int .i64 e.a, .int .i64 e.s, .int .i64 e.t, .int .i64 e.n, .int .i64 e.d, .int .i64 e.k, .int .i64 e.x]
def Ev.val (e : Ev) : Value := .agg #[.int .i64 e.a, .int .i64 e.s, .int .i64 e.t, .int .i64 e.n, .int .i64 e.d, .int .i64 e.k, .int .i64 e.x]
def Ev.key (e : Ev) : Value := .agg #[.int .i64 e.a, .int .i64 e.s, .int .i64 e.t, .int .i64 e.n]

/-- The keys' order. -/
def keyLt (p q : Ev) : Bool :=
  if p.a ≠ q.a then decide (p.a < q.a) else if p.s ≠ q.s then decide (p.s < q.s) else if p.t ≠ q.t then decide (p.t < q.t) else decide (p.n < q.n)
/-- The events' order. -/
def evLt (p q : Ev) : Bool :=
  if p.a ≠ q.a then decide (p.a < q.a) else if p.s ≠ q.s then decide (p.s < q.s) else if p.t ≠ q.t then decide (p.t < q.t) else if p.n ≠ q.n then decide (p.n < q.n)
  else if p.d ≠ q.d then decide (p.d < q.d) else if p.k ≠ q.k then decide (p.k < q.k) else decide (p.x < q.x)
def cmpI (a b : Int) : Int := if a < b then -1 else if b < a then 1 else 0
def evCmp (p q : Ev) : Int := if evLt p q then -1 else if evLt q p then 1 else 0

theorem before_any (p q : Ev) (w : World) : Calls Tryz.prog 129 #[.agg #[.int .i64 p.a, .int .i64 p.s, .int .i64 p.t, .int .i64 p.n], .agg #[.int .i64 q.a, .int .i64 q.s, .int .i64 q.t, .int .i64 q.n]] w fun e w' => e = .returned (.bool (keyLt p q)) ∧ Fresh w w' := by
  obtain ⟨a, s, t, n, _, _, _⟩ := p
  obtain ⟨a', s', t', n', _, _, _⟩ := q
  unfold keyLt
  by_cases h1 : a = a'
  rotate_left
  · have g1 : (a != a') = true := by simpa using h1
    go_enter Tryz.func129, Tryz.ntmps129
    go_wp2
    go_ret
    exact ⟨by simp, by (repeat (first | (with_reducible exact Keep.refl _ _) | (with_reducible assumption) | (with_reducible refine Keep.drew ?_) | (with_reducible refine Keep.drewN ?_ _) | (with_reducible refine Keep.alloc ?_ _) | (with_reducible refine Keep.setCell ?_ ?_ _) | (with_reducible refine fun _ => rfl)))⟩
  subst h1
  by_cases h2 : s = s'
  rotate_left
  · have g2 : (s != s') = true := by simpa using h2
    go_enter Tryz.func129, Tryz.ntmps129
    go_wp2
    go_ret
    exact ⟨by simp, by (repeat (first | (with_reducible exact Keep.refl _ _) | (with_reducible assumption) | (with_reducible refine Keep.drew ?_) | (with_reducible refine Keep.drewN ?_ _) | (with_reducible refine Keep.alloc ?_ _) | (with_reducible refine Keep.setCell ?_ ?_ _) | (with_reducible refine fun _ => rfl)))⟩
  subst h2
  by_cases h3 : t = t'
  rotate_left
  · have g3 : (t != t') = true := by simpa using h3
    go_enter Tryz.func129, Tryz.ntmps129
    go_wp2
    go_ret
    exact ⟨by simp, by (repeat (first | (with_reducible exact Keep.refl _ _) | (with_reducible assumption) | (with_reducible refine Keep.drew ?_) | (with_reducible refine Keep.drewN ?_ _) | (with_reducible refine Keep.alloc ?_ _) | (with_reducible refine Keep.setCell ?_ ?_ _) | (with_reducible refine fun _ => rfl)))⟩
  subst h3
  go_enter Tryz.func129, Tryz.ntmps129
  go_wp2
  go_ret
  exact ⟨by simp, by (repeat (first | (with_reducible exact Keep.refl _ _) | (with_reducible assumption) | (with_reducible refine Keep.drew ?_) | (with_reducible refine Keep.drewN ?_ _) | (with_reducible refine Keep.alloc ?_ _) | (with_reducible refine Keep.setCell ?_ ?_ _) | (with_reducible refine fun _ => rfl)))⟩

theorem isNaN_any (a : Int) (w : World) : Calls Tryz.prog 154 #[.int .i64 a] w fun e w' => e = .returned (.bool false) ∧ w = w' := by
  go_enter Tryz.func154, Tryz.ntmps154
  go_wp2
  go_ret
  exact ⟨by simp, rfl⟩

theorem cmpI_any (a b : Int) (w : World) : Calls Tryz.prog 131 #[.int .i64 a, .int .i64 b] w fun e w' => e = .returned (.int .i64 (cmpI a b)) ∧ w = w' := by
  by_cases h1 : a < b
  · go_enter Tryz.func131, Tryz.ntmps131
    go_wp2_with (go_at_call 154; refine (isNaN_any _ _).mono ?_; rintro e w1 ⟨rfl, rfl⟩)
    go_ret
    exact ⟨by simp [cmpI, h1], rfl⟩
  by_cases h2 : b < a
  · go_enter Tryz.func131, Tryz.ntmps131
    go_wp2_with (go_at_call 154; refine (isNaN_any _ _).mono ?_; rintro e w1 ⟨rfl, rfl⟩)
    go_ret
    exact ⟨by simp [cmpI, h1, h2], rfl⟩
  · go_enter Tryz.func131, Tryz.ntmps131
    go_wp2_with (go_at_call 154; refine (isNaN_any _ _).mono ?_; rintro e w1 ⟨rfl, rfl⟩)
    go_ret
    exact ⟨by unfold cmpI; rw [if_neg (by omega), if_neg (by omega)]; rfl, rfl⟩

def or3 (x y z : Int) : Int := if x ≠ 0 then x else if y ≠ 0 then y else z
theorem or3_any (x y z : Int) (g : Nat) (w : World) (c0 : w.cell? ⟨g, 0, none⟩ = some (.int .i64 x)) (c1 : w.cell? ⟨g, 1, none⟩ = some (.int .i64 y)) (c2 : w.cell? ⟨g, 2, none⟩ = some (.int .i64 z)) :
    Calls Tryz.prog 130 #[.slice (some ⟨g, 0, none⟩) 3 3] w fun e w' => e = .returned (.int .i64 (or3 x y z)) ∧ w = w' := by
  by_cases h1 : x = 0
  rotate_left
  · have g1 : (x != 0) = true := by simpa using h1
    go_enter Tryz.func130, Tryz.ntmps130
    go_wp2
    refine wp_loop_rounds 4 ?_
    rw [rounds_succ]
    go_wp2
    go_ret
    exact ⟨by simp [or3, h1], rfl⟩
  subst h1
  by_cases h2 : y = 0
  rotate_left
  · have g1 : (y != 0) = true := by simpa using h2
    go_enter Tryz.func130, Tryz.ntmps130
    go_wp2
    refine wp_loop_rounds 4 ?_
    iterate 2 (rw [rounds_succ]; go_wp2)
    go_ret
    exact ⟨by simp [or3, h2], rfl⟩
  subst h2
  by_cases h3 : z = 0
  rotate_left
  · have g1 : (z != 0) = true := by simpa using h3
    go_enter Tryz.func130, Tryz.ntmps130
    go_wp2
    refine wp_loop_rounds 4 ?_
    iterate 3 (rw [rounds_succ]; go_wp2)
    go_ret
    exact ⟨by simp [or3], rfl⟩
  subst h3
  go_enter Tryz.func130, Tryz.ntmps130
  go_wp2
  refine wp_loop_rounds 4 ?_
  iterate 4 (rw [rounds_succ]; go_wp2)
  go_ret
  exact ⟨by simp [or3], rfl⟩

theorem evCmp_before {p q : Ev} (h : keyLt p q = true) : evCmp p q = -1 := by
  have : evLt p q = true := by
    unfold keyLt at h
    unfold evLt
    split at h
    · rw [if_pos ‹_›]; exact h
    rw [if_neg ‹_›]
    split at h
    · rw [if_pos ‹_›]; exact h
    rw [if_neg ‹_›]
    split at h
    · rw [if_pos ‹_›]; exact h
    rw [if_neg ‹_›, if_pos (by simp at h; omega)]
    exact h
  simp [evCmp, this]
theorem keyLt_eq {p q : Ev} (h : keyLt p q = false) (h' : keyLt q p = false) : p.a = q.a ∧ p.s = q.s ∧ p.t = q.t ∧ p.n = q.n := by
  unfold keyLt at h h'
  have e1 : p.a = q.a := by
    apply Classical.byContradiction; intro hn
    rw [if_pos hn] at h; rw [if_pos (fun e => hn e.symm)] at h'; simp at h h'; omega
  rw [if_neg (by simpa using e1)] at h; rw [if_neg (by simpa using e1.symm)] at h'
  have e2 : p.s = q.s := by
    apply Classical.byContradiction; intro hn
    rw [if_pos hn] at h; rw [if_pos (fun e => hn e.symm)] at h'; simp at h h'; omega
  rw [if_neg (by simpa using e2)] at h; rw [if_neg (by simpa using e2.symm)] at h'
  have e3 : p.t = q.t := by
    apply Classical.byContradiction; intro hn
    rw [if_pos hn] at h; rw [if_pos (fun e => hn e.symm)] at h'; simp at h h'; omega
  rw [if_neg (by simpa using e3)] at h; rw [if_neg (by simpa using e3.symm)] at h'
  simp at h h'
  exact ⟨e1, e2, e3, by omega⟩
theorem evLt_asymm {p q : Ev} (h : evLt p q = true) : evLt q p = false := by
  unfold evLt at h ⊢
  repeat' split at h
  all_goals simp_all
  all_goals (repeat' split)
  all_goals first | omega | (simp_all; done) | (simp_all; omega)
theorem evCmp_after {p q : Ev} (h' : keyLt q p = true) : evCmp p q = 1 := by
  have h1 : evLt q p = true := by
    have := evCmp_before h'
    unfold evCmp at this
    split at this
    · assumption
    · split at this <;> simp at this
  simp [evCmp, h1, evLt_asymm h1]
theorem evCmp_or {p q : Ev} (h : keyLt p q = false) (h' : keyLt q p = false) : evCmp p q = or3 (cmpI p.d q.d) (cmpI p.k q.k) (cmpI p.x q.x) := by
  obtain ⟨e1, e2, e3, e4⟩ := keyLt_eq h h'
  unfold evCmp evLt or3 cmpI
  simp only [e1, e2, e3, e4, ne_eq, not_true_eq_false, if_false]
  clear h h' e1 e2 e3 e4
  by_cases d1 : p.d < q.d
  · simp [d1, show ¬ p.d = q.d by omega]
  by_cases d2 : q.d < p.d
  · simp [d1, d2, show ¬ p.d = q.d by omega, show ¬ q.d = p.d by omega]
  have d3 : p.d = q.d := by omega
  simp only [d3, Int.lt_irrefl, if_false, not_true_eq_false]
  by_cases k1 : p.k < q.k
  · simp [k1, show ¬ p.k = q.k by omega]
  by_cases k2 : q.k < p.k
  · simp [k1, k2, show ¬ p.k = q.k by omega, show ¬ q.k = p.k by omega]
  have k3 : p.k = q.k := by omega
  simp only [k3, Int.lt_irrefl, if_false, not_true_eq_false]
  simp

set_option maxHeartbeats 1000000 in
theorem compare_any (p q : Ev) (w : World) : Calls Tryz.prog 93 #[p.val, q.val] w fun e w' => e = .returned (.int .i64 (evCmp p q)) ∧ Fresh w w' := by
  unfold Ev.val
  by_cases h1 : keyLt p q = true
  · rw [evCmp_before h1]
    go_enter Tryz.func93, Tryz.ntmps93
    go_wp2_with fail
    refine (before_any p q _).mono ?_
    rintro e w1 ⟨rfl, f1⟩
    rw [h1]
    go_wp2
    go_ret
    exact ⟨rfl, Keep.step (((Keep.refl _ _).alloc _).alloc _) f1 (fun _ _ h => h)⟩
  have h1' : keyLt p q = false := by simpa using h1
  have hb : ∀ w : World, Blk ((w.alloc (.cells #[.int .i64 p.a, .int .i64 p.s, .int .i64 p.t, .int .i64 p.n, .int .i64 p.d, .int .i64 p.k, .int .i64 p.x] 41)).alloc (.cells #[.int .i64 q.a, .int .i64 q.s, .int .i64 q.t, .int .i64 q.n, .int .i64 q.d, .int .i64 q.k, .int .i64 q.x] 41)) w.heap.size 41 #[.int .i64 p.a, .int .i64 p.s, .int .i64 p.t, .int .i64 p.n, .int .i64 p.d, .int .i64 p.k, .int .i64 p.x] ∧
      Blk ((w.alloc (.cells #[.int .i64 p.a, .int .i64 p.s, .int .i64 p.t, .int .i64 p.n, .int .i64 p.d, .int .i64 p.k, .int .i64 p.x] 41)).alloc (.cells #[.int .i64 q.a, .int .i64 q.s, .int .i64 q.t, .int .i64 q.n, .int .i64 q.d, .int .i64 q.k, .int .i64 q.x] 41)) (w.heap.size + 1) 41 #[.int .i64 q.a, .int .i64 q.s, .int .i64 q.t, .int .i64 q.n, .int .i64 q.d, .int .i64 q.k, .int .i64 q.x] :=
    fun w => ⟨(Blk.at_new rfl _ _).alloc _, Blk.at_new (by simp) _ _⟩
  by_cases h2 : keyLt q p = true
  · rw [evCmp_after h2]
    have HB := Lib.hid hb
    clear hb
    go_enter Tryz.func93, Tryz.ntmps93
    go_wp2_with fail
    refine (before_any p q _).mono ?_
    rintro e w1 ⟨rfl, f1⟩
    rw [h1']
    have cP := (f1.blk_ (HB.out w).1).cell
    have cQ := (f1.blk_ (HB.out w).2).cell
    have F1 := Lib.hid f1
    clear f1
    go_wp2_with fail
    refine (before_any q p _).mono ?_
    rintro e w2 ⟨rfl, f2⟩
    rw [h2]
    go_wp2
    go_ret
    exact ⟨rfl, Keep.step (Keep.step (((Keep.refl _ _).alloc _).alloc _) F1.out (fun _ _ h => h)) f2 (fun _ _ h => h)⟩
  have h2' : keyLt q p = false := by simpa using h2
  rw [evCmp_or h1' h2']
  have HB := Lib.hid hb
  clear hb
  go_enter Tryz.func93, Tryz.ntmps93
  go_wp2_with fail
  refine (before_any p q _).mono ?_
  rintro e w1 ⟨rfl, f1⟩
  rw [h1']
  have cP := (f1.blk_ (HB.out w).1).cell
  have cQ := (f1.blk_ (HB.out w).2).cell
  have F1 := Lib.hid f1
  clear f1
  go_wp2_with fail
  refine (before_any q p _).mono ?_
  rintro e w2 ⟨rfl, f2⟩
  rw [h2']
  have bP := f2.blk_ (F1.out.blk_ (HB.out w).1)
  have bQ := f2.blk_ (F1.out.blk_ (HB.out w).2)
  have F2 : Fresh w w2 := Keep.step (Keep.step (((Keep.refl _ _).alloc _).alloc _) F1.out (fun _ _ h => h)) f2 (fun _ _ h => h)
  have kP := fun (W : World) (h : Blk W w.heap.size 41 #[.int .i64 p.a, .int .i64 p.s, .int .i64 p.t, .int .i64 p.n, .int .i64 p.d, .int .i64 p.k, .int .i64 p.x]) (i : Nat) => h.cell i
  have kQ := fun (W : World) (h : Blk W (w.heap.size + 1) 41 #[.int .i64 q.a, .int .i64 q.s, .int .i64 q.t, .int .i64 q.n, .int .i64 q.d, .int .i64 q.k, .int .i64 q.x]) (i : Nat) => h.cell i
  clear cP cQ F1 f2
  have hA := Blk.at_new (w := w2) rfl 3 #[.int .i64 (cmpI p.d q.d), .int .i64 (cmpI p.k q.k), .int .i64 (cmpI p.x q.x)]
  have hOr := or3_any (cmpI p.d q.d) (cmpI p.k q.k) (cmpI p.x q.x) w2.heap.size (w2.alloc (.cells #[.int .i64 (cmpI p.d q.d), .int .i64 (cmpI p.k q.k), .int .i64 (cmpI p.x q.x)] 3)).drew (hA.drew.cell_ 0 rfl) (hA.drew.cell_ 1 rfl) (hA.drew.cell_ 2 rfl)
  clear hA
  go_wp2_with fail
  go_region_held3 (fun w' => Blk w' w.heap.size 41 #[.int .i64 p.a, .int .i64 p.s, .int .i64 p.t, .int .i64 p.n, .int .i64 p.d, .int .i64 p.k, .int .i64 p.x] ∧ Blk w' (w.heap.size + 1) 41 #[.int .i64 q.a, .int .i64 q.s, .int .i64 q.t, .int .i64 q.n, .int .i64 q.d, .int .i64 q.k, .int .i64 q.x] ∧ Fresh w w')
    (((try dsimp only); (repeat' apply And.intro) <;> (repeat (first
      | (with_reducible exact bP) | (with_reducible exact bQ) | (with_reducible exact F2) | (with_reducible assumption)
      | (with_reducible refine Blk.drew ?_) | (with_reducible refine Keep.drew ?_) | (with_reducible refine Blk.alloc ?_ _) | (with_reducible refine Keep.alloc ?_ _)))))
    (first
      | (go_at_call 131; refine (cmpI_any _ _ _).mono ?_; rintro e w' ⟨rfl, rfl⟩)
      | (go_at_call 130; refine hOr.mono ?_; rintro e w' ⟨rfl, rfl⟩))
  go_split_ands
  go_wp2
  go_ret
  exact ⟨rfl, by (repeat (first | (with_reducible exact Keep.refl _ _) | (with_reducible assumption) | (with_reducible refine Keep.drew ?_) | (with_reducible refine Keep.drewN ?_ _) | (with_reducible refine Keep.alloc ?_ _) | (with_reducible refine Keep.setCell ?_ ?_ _) | (with_reducible refine fun _ => rfl)))⟩

def Ev.at (e : Ev) : Nat → Int
  | 0 => e.a | 1 => e.s | 2 => e.t | 3 => e.n | 4 => e.d | 5 => e.k | 6 => e.x | _ => 0
theorem evLt_at {p q : Ev} {k : Nat} (hk : k < 7) (he : ∀ j, j < k → p.at j = q.at j) (hn : p.at k ≠ q.at k) : evLt p q = decide (p.at k < q.at k) := by
  have h0 := he 0; have h1 := he 1; have h2 := he 2; have h3 := he 3; have h4 := he 4; have h5 := he 5
  simp only [Ev.at] at h0 h1 h2 h3 h4 h5
  have : k = 0 ∨ k = 1 ∨ k = 2 ∨ k = 3 ∨ k = 4 ∨ k = 5 ∨ k = 6 := by omega
  unfold evLt
  rcases this with rfl | rfl | rfl | rfl | rfl | rfl | rfl <;> simp only [Ev.at] at hn ⊢ <;> simp_all
theorem evLt_same {p q : Ev} (he : ∀ j, j < 7 → p.at j = q.at j) : evLt p q = false := by
  have h0 := he 0; have h1 := he 1; have h2 := he 2; have h3 := he 3; have h4 := he 4; have h5 := he 5; have h6 := he 6
  simp only [Ev.at] at h0 h1 h2 h3 h4 h5 h6
  unfold evLt
  simp_all

set_option maxHeartbeats 2000000 in
theorem ahead_any (p q : Ev) (w : World) : Calls Tryz.prog 52 #[p.val, q.val] w fun e w' => e = .returned (.bool (evLt p q)) ∧ Fresh w w' := by
  unfold Ev.val
  go_enter Tryz.func52, Tryz.ntmps52
  go_wp2_with fail
  go_loopg [7] 7 (fun gk v wr => ∃ k : Nat, k ≤ 7 ∧ gk = 7 - k ∧ v = .int .i64 k ∧ (∀ j, j < k → p.at j = q.at j) ∧
    Blk wr (w.heap.size + 2) 3 #[.int .i64 p.a, .int .i64 p.s, .int .i64 p.t, .int .i64 p.n, .int .i64 p.d, .int .i64 p.k, .int .i64 p.x] ∧
    Blk wr (w.heap.size + 3) 3 #[.int .i64 q.a, .int .i64 q.s, .int .i64 q.t, .int .i64 q.n, .int .i64 q.d, .int .i64 q.k, .int .i64 q.x] ∧ Fresh w wr)
  case atStart =>
    exact ⟨0, by omega, rfl, rfl, fun j h => absurd h (by omega), (Blk.at_new (by simp) _ _).alloc _, Blk.at_new (by simp) _ _, ((((Keep.refl _ _).alloc _).alloc _).alloc _).alloc _⟩
  case round =>
    obtain ⟨k, hk, rfl, rfl, he, hP, hQ, hF⟩ := hrel
    by_cases hlt : k < 7
    rotate_left
    · obtain rfl : k = 7 := by omega
      have hs := Lib.hid (evLt_same he)
      clear he hP hQ
      have HF := Lib.hid hF
      clear hF
      go_wp2_with fail
      go_ret
      exact ⟨by rw [hs.out]; rfl, HF.out⟩
    have cP : wr.cell? ⟨w.heap.size + 2, k, none⟩ = some (.int .i64 (p.at k)) := by
      rw [hP.cell]
      have : k = 0 ∨ k = 1 ∨ k = 2 ∨ k = 3 ∨ k = 4 ∨ k = 5 ∨ k = 6 := by omega
      rcases this with rfl | rfl | rfl | rfl | rfl | rfl | rfl <;> rfl
    have cQ : wr.cell? ⟨w.heap.size + 3, k, none⟩ = some (.int .i64 (q.at k)) := by
      rw [hQ.cell]
      have : k = 0 ∨ k = 1 ∨ k = 2 ∨ k = 3 ∨ k = 4 ∨ k = 5 ∨ k = 6 := by omega
      rcases this with rfl | rfl | rfl | rfl | rfl | rfl | rfl <;> rfl
    have HP := Lib.hid hP
    have HQ := Lib.hid hQ
    have HF := Lib.hid hF
    have HE := Lib.hid he
    clear hP hQ hF he
    have i0 : (0 : Int) ≤ (k : Int) := by omega
    have i1 : (k : Int) < 7 := by omega
    by_cases hd : p.at k = q.at k
    · have t1 : (p.at k != q.at k) = false := by simpa using hd
      have HD := Lib.hid (show ∀ j, j < k + 1 → p.at j = q.at j from fun j hj => by
        by_cases h : j < k
        · exact HE.out j h
        · obtain rfl : j = k := by omega
          exact hd)
      clear hd
      generalize p.at k = u at *
      generalize q.at k = u' at *
      go_wp2_with fail
      go_quiet (fail)
      go_wp2_with fail
      go_roundg (7 - (k + 1))
      case measure => omega
      case rel => exact ⟨k + 1, by omega, rfl, by go_num, HD.out, HP.out.drewN _, HQ.out.drewN _, HF.out.drewN _⟩
    · have t1 : (p.at k != q.at k) = true := by simpa using hd
      have hs := Lib.hid (evLt_at hlt HE.out hd)
      clear hd
      generalize p.at k = u at *
      generalize q.at k = u' at *
      go_wp2_with fail
      go_quiet (fail)
      go_wp2_with fail
      go_quiet (fail)
      go_wp2_with fail
      go_ret
      exact ⟨by rw [hs.out]; rfl, (HF.out.drewN _).drewN _⟩
end Go.Proofs.YthbcdkeammhakaaGreat

/-
  The events' order is a strict order that is total.
-/
namespace Go.Proofs.YthbcdkeammhakaaGreat
open Go.RowKit

def Ev.list (e : Ev) : List Int := [e.a, e.s, e.t, e.n, e.d, e.k, e.x]
theorem evLt_list (p q : Ev) : evLt p q = true ↔ p.list < q.list := by
  unfold evLt Ev.list
  simp only [List.cons_lt_cons_iff]
  repeat' split
  all_goals (simp only [decide_eq_true_eq]; simp_all <;> omega)
theorem Ev.ext_list {p q : Ev} (h : p.list = q.list) : p = q := by
  cases p; cases q
  simp [Ev.list] at h
  simp_all
theorem evLt_trans {p q r : Ev} (h : evLt p q = true) (h' : evLt q r = true) : evLt p r = true := by
  rw [evLt_list] at *
  exact List.lt_trans h h'
theorem evLt_total {p q : Ev} (h : evLt p q = false) (h' : evLt q p = false) : p = q := by
  have h1 : ¬ p.list < q.list := fun hh => by rw [← evLt_list] at hh; simp [hh] at h
  have h2 : ¬ q.list < p.list := fun hh => by rw [← evLt_list] at hh; simp [hh] at h'
  exact Ev.ext_list (List.le_antisymm (List.not_lt.1 h2) (List.not_lt.1 h1))
theorem evLt_irrefl (p : Ev) : evLt p p = false := evLt_same (fun _ _ => rfl)
end Go.Proofs.YthbcdkeammhakaaGreat
