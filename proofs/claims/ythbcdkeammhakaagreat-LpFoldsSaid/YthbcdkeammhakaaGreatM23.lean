/- Chapter 13: LqA, LqN, LqB, LqE. -/
import Derived.Test.YthbcdkeammhakaaGreatM22
/-
  The laws' own small functions: made, calls.
-/
namespace Go.Proofs.YthbcdkeammhakaaGreat
open Go.RowKit
attribute [local go_sem ↓] Go.wp_at_zero Go.wp_at_succ
theorem lnew_any (c : LC) (first : St) (v : Value) (l : List Ev) (w : World) (hv : EvAt w v l) (hl : l.length ≤ 100000) : Calls Tryz.prog 39 #[rulesV c.md, .int .i64 c.id, first.val, .int .i64 c.every, .bool c.lz, v] w (LMadeP c first l w) := by
  by_cases hb : c.id < 0 ∨ 32 ≤ c.id ∨ c.every < 1
  · exact lnew_arg c first v l w hb
  · exact lnew_ok c first v l w hb hv hl
theorem LMadeP.after {c : LC} {first : St} {l : List Ev} {w W w' : World} {e : Ending} (f : Fresh w W) (h : LMadeP c first l W e w') : LMadeP c first l w e w' := by
  rcases h with ⟨h1, y, h2, h3, h4, h5⟩ | ⟨h1, h2, h3⟩
  · exact .inl ⟨h1, y, h2, h3, f.step h4 (fun _ _ h => h), fun k hk => Nat.le_trans f.size (h5 k hk)⟩
  · exact .inr ⟨h1, h2, f.step h3 (fun _ _ h => h)⟩
set_option maxRecDepth 100000 in
set_option maxHeartbeats 4000000 in
theorem made_any (c : LC) (first : St) (A : Option Addr) (cA : Nat) (l : List Ev) (w : World) (h : EvAt w (.slice A l.length cA) l) (hl : l.length ≤ 100000) : Calls Tryz.prog 14 #[.agg (jarr c first (.slice A l.length cA))] w (LMadeP c first l w) := by
  have HN : Hid (∀ W, Fresh w W → Calls Tryz.prog 39 #[rulesV c.md, .int .i64 c.id, first.val, .int .i64 c.every, .bool c.lz, .slice A l.length cA] W (LMadeP c first l W)) := Lib.hid fun W f => lnew_any c first _ l W (h.fresh f) hl
  unfold jarr
  unfold rulesV St.val at HN
  clear h
  go_enter Tryz.func14, Tryz.ntmps14
  go_wp2_with fail
  refine (HN.out _ ((Keep.refl _ w).alloc _)).mono ?_
  rintro e w' hh
  have hh := LMadeP.after (((Keep.refl _ w).alloc (.cells #[.int .i64 c.md, .int .i64 c.id, .int .i64 first.s0, .int .i64 first.s1, .int .i64 first.s2, .int .i64 first.s3, .int .i64 c.every, .bool c.lz, .slice A l.length cA] 26)) : Fresh w _) hh
  rcases hh with ⟨h1, y, rfl, h3, h4, h5⟩ | ⟨h1, rfl, h3⟩
  · have Y := Lib.hid (show LMadeP c first l w (.returned (.tuple #[.pointer (some ⟨y.g, 0, none⟩), .int .i64 0])) w' from .inl ⟨h1, y, rfl, h3, h4, h5⟩)
    clear h1 h3 h4 h5 HN
    go_wp2_with fail
    go_returns
    exact Y.out
  · have Y := Lib.hid (show LMadeP c first l w (.returned (.tuple #[.pointer none, .int .i64 (madeE c.id c.every l)])) w' from .inr ⟨h1, rfl, h3⟩)
    clear h1 h3 HN
    go_wp2_with fail
    go_returns
    exact Y.out
/-- what calls answers -/
def CallsP (c : LC) (first : St) (y : PV) (a : Ans) (n : Nat) (w : World) (e : Ending) (w' : World) : Prop := ∃ va vb, e = .returned (.tuple #[va, vb, .int .i64 a.e]) ∧ MsgsP a.M w w' va ∧ (OwnS w' 41 7 vb a.E.length (cells a.E) ∧ ∀ k, vb.ownBlock = some k → w.heap.size ≤ k) ∧ ∃ y' p', SLP w' c y' p' ∧ LTurn w w' y y' ∧ (∀ k, vb.ownBlock = some k → ¬ lfoot y' k) ∧ RefP c first p' a.A n
theorem CallsP.of {c : LC} {first : St} {y : PV} {a : Ans} {n m : Nat} {w W w' : World} {va : Value} (f : Fresh w W) (hE : a.E = []) (hm : m ≤ n) (h : MsgsP a.M W w' va) (hh : ∃ y' p', SLP w' c y' p' ∧ LTurn W w' y y' ∧ RefP c first p' a.A m) : CallsP c first y a n w (.returned (.tuple #[va, .slice none 0 0, .int .i64 a.e])) w' := by
  obtain ⟨y', p', h1, h2, h3⟩ := hh
  exact ⟨va, _, rfl, h.after f, by rw [hE]; exact ⟨OwnS.nil _ _ _, fun k hk => by simp [Value.ownBlock] at hk⟩, y', p', h1, (LTurn.fresh f).two h2, fun k hk => by simp [Value.ownBlock] at hk, h3.mono hm⟩
theorem come_E (C : Cfg) (A : AM) (x : Ev) (an : Bool) : (comeA C A x an).E = [] := by unfold comeA; split <;> rfl
theorem bak_E (C : Cfg) (A : AM) (b : Int) : (bakA C A b).E = [] := by unfold bakA; split <;> (try split) <;> rfl
theorem stp_E (C : Cfg) (A : AM) : (stpA C A).E = [] := by unfold stpA; split <;> rfl
theorem tak_E (C : Cfg) (A : AM) (x : Ev) (an : Bool) : (takA C A x an).E = [] := by
  unfold takA
  split
  · rfl
  · split
    · rfl
    · split
      · rfl
      · exact come_E C A x an
theorem giv_E (C : Cfg) (A : AM) (x : Ev) : (givA C A x).E = [] := by
  unfold givA
  split
  · rfl
  · split
    · exact come_E C A x true
    · rfl
theorem ret_E (C : Cfg) (A : AM) (x : Ev) : (retA C A x).E = [] := by
  unfold retA
  split
  · rfl
  · split
    · rfl
    · split
      · exact bak_E C _ _
      · rfl
theorem fre_M (A : AM) (b : Int) : (freA A b).M = [] := by unfold freA; split <;> (try split) <;> rfl
set_option maxRecDepth 100000 in
set_option maxHeartbeats 8000000 in
theorem calls_any {c : LC} {first : St} {y : PV} {p : LPs} {A : AM} {n : Nat} {w : World} (h : SLP w c y p) (hr : RefP c first p A n) (hn : n ≤ 62) (o : LOp) (hx : SmE o.x) : Calls Tryz.prog 15 #[.pointer (some ⟨y.g, 0, none⟩), .agg o.arr] w (CallsP c first y (doA (cfg c first) A o.k o.b o.x o.an) (n + 1) w) := by
  have hbox : Fresh w (w.alloc (.cells o.arr 45)) := (Keep.refl _ w).alloc _
  have H := Lib.hid (h.fresh hbox)
  have FB := Lib.hid hbox
  have HR := Lib.hid hr
  have HX := Lib.hid hx
  obtain ⟨k, b, ⟨a, s, t, n', d, kk, x⟩, an⟩ := o
  have HO : Hid (LOp.arr ⟨k, b, ⟨a, s, t, n', d, kk, x⟩, an⟩ = #[.int .i64 k, .int .i64 b, .int .i64 a, .int .i64 s, .int .i64 t, .int .i64 n', .int .i64 d, .int .i64 kk, .int .i64 x, .bool an]) := Lib.hid rfl
  rw [HO.out] at H FB ⊢
  clear h hr hx hbox HO
  unfold doA
  by_cases k0 : k = 0
  · subst k0
    rw [if_pos rfl]
    have HC := Lib.hid (ref_step H.out HR.out hn)
    go_enter Tryz.func15, Tryz.ntmps15
    go_wp2_with (go_at_call 28; (with_reducible refine HC.out.mono ?_); rintro e w1 ⟨va, rfl, m1, s1⟩; have M1 := Lib.hid m1; have S1 := Lib.hid s1; clear m1 s1)
    go_returns
    exact CallsP.of FB.out (stp_E _ _) (Nat.le_succ n) M1.out S1.out
  rw [if_neg k0]
  have t0 : (k == 0) = false := by simpa using k0
  by_cases k1 : k = 1
  · subst k1
    rw [if_pos rfl]
    have HC := Lib.hid (ref_take H.out HR.out hn ⟨a, s, t, n', d, kk, x⟩ an HX.out)
    unfold Ev.msg at HC
    go_enter Tryz.func15, Tryz.ntmps15
    go_wp2_with (go_at_call 36; (with_reducible refine HC.out.mono ?_); rintro e w1 ⟨va, rfl, m1, s1⟩; have M1 := Lib.hid m1; have S1 := Lib.hid s1; clear m1 s1)
    go_returns
    exact CallsP.of FB.out (tak_E _ _ _ _) (Nat.le_refl _) M1.out S1.out
  rw [if_neg k1]
  have t1 : (k == 1) = false := by simpa using k1
  by_cases k2 : k = 2
  · subst k2
    rw [if_pos rfl]
    have HC := Lib.hid (ref_settle H.out HR.out (by omega))
    go_enter Tryz.func15, Tryz.ntmps15
    go_wp2_with (go_at_call 29; (with_reducible refine HC.out.mono ?_); rintro e w1 ⟨va, rfl, m1, s1⟩; have M1 := Lib.hid m1; have S1 := Lib.hid s1; clear m1 s1)
    go_returns
    exact CallsP.of (a := setA A) FB.out rfl (Nat.le_succ n) M1.out S1.out
  rw [if_neg k2]
  have t2 : (k == 2) = false := by simpa using k2
  by_cases k3 : k = 3
  · subst k3
    rw [if_pos rfl]
    have HC := Lib.hid (ref_bak H.out HR.out hn b)
    go_enter Tryz.func15, Tryz.ntmps15
    go_wp2_with (go_at_call 44; (with_reducible refine HC.out.mono ?_); rintro e w1 ⟨va, rfl, m1, s1⟩; have M1 := Lib.hid m1; have S1 := Lib.hid s1; clear m1 s1)
    go_returns
    exact CallsP.of FB.out (bak_E _ _ _) (Nat.le_refl _) M1.out S1.out
  rw [if_neg k3]
  have t3 : (k == 3) = false := by simpa using k3
  by_cases k5 : k = 5
  · subst k5
    rw [if_pos rfl]
    have HC := Lib.hid (ref_give H.out HR.out hn ⟨a, s, t, n', d, kk, x⟩)
    unfold Ev.val at HC
    go_enter Tryz.func15, Tryz.ntmps15
    go_wp2_with (go_at_call 42; (with_reducible refine HC.out.mono ?_); rintro e w1 ⟨va, rfl, m1, s1⟩; have M1 := Lib.hid m1; have S1 := Lib.hid s1; clear m1 s1)
    go_returns
    exact CallsP.of FB.out (giv_E _ _ _) (Nat.le_refl _) M1.out S1.out
  rw [if_neg k5]
  have t5 : (k == 5) = false := by simpa using k5
  by_cases k6 : k = 6
  · subst k6
    rw [if_pos rfl]
    have HC := Lib.hid (ref_ret H.out HR.out hn ⟨a, s, t, n', d, kk, x⟩)
    unfold Ev.val at HC
    go_enter Tryz.func15, Tryz.ntmps15
    go_wp2_with (go_at_call 32; (with_reducible refine HC.out.mono ?_); rintro e w1 ⟨va, rfl, m1, s1⟩; have M1 := Lib.hid m1; have S1 := Lib.hid s1; clear m1 s1)
    go_returns
    exact CallsP.of FB.out (ret_E _ _ _) (Nat.le_refl _) M1.out S1.out
  rw [if_neg k6]
  have t6 : (k == 6) = false := by simpa using k6
  have HC := Lib.hid (ref_free H.out HR.out (by omega) b)
  clear k0 k1 k2 k3 k5 k6
  go_enter Tryz.func15, Tryz.ntmps15
  go_wp2_with (go_at_call 34; (with_reducible refine HC.out.mono ?_); rintro e w1 ⟨va, rfl, m1, s1⟩; have M1 := Lib.hid m1; have S1 := Lib.hid s1; clear m1 s1)
  go_returns
  obtain ⟨y', p', h1, h2, h3, h4⟩ := S1.out
  exact ⟨_, va, rfl, by rw [fre_M]; exact msgs_nil _ _, ⟨M1.out.1, fun k hk => Nat.le_trans FB.out.size (M1.out.2 k hk)⟩, y', p', h1, (LTurn.fresh FB.out).two h2, h3, h4.mono (Nat.le_succ n)⟩
end Go.Proofs.YthbcdkeammhakaaGreat

/-
  A nil process: each method.
-/
namespace Go.Proofs.YthbcdkeammhakaaGreat
open Go.RowKit Go.Shelf
attribute [local go_sem] Oper.semAt_some
attribute [local go_sem ↓] Go.wp_at_zero Go.wp_at_succ
set_option maxRecDepth 100000 in
theorem nnew (w : World) : Calls Tryz.prog 39 #[.nilIface, .int .i64 0, .agg #[.int .i64 0, .int .i64 0, .int .i64 0, .int .i64 0], .int .i64 1, .bool false, .slice none 0 0] w fun e w' => e = .returned (.tuple #[.pointer none, .int .i64 2]) ∧ Fresh w w' := by
  go_enter Tryz.func39, Tryz.ntmps39
  go_wp2_with fail
  go_returns
  exact ⟨rfl, by (repeat (first | (with_reducible exact Keep.refl _ _) | (with_reducible assumption) | (with_reducible refine Keep.drew ?_) | (with_reducible refine Keep.drewN ?_ _) | (with_reducible refine Keep.alloc ?_ _) | (with_reducible refine Keep.setCell ?_ ?_ _) | (with_reducible refine fun _ => rfl)))⟩
set_option maxRecDepth 100000 in
theorem nnext (w : World) : Calls Tryz.prog 40 #[.pointer none] w fun e w' => e = .returned (.tuple #[.int .i64 0, .bool false]) ∧ Fresh w w' := by
  go_enter Tryz.func40, Tryz.ntmps40
  go_wp2_with fail
  go_returns
  exact ⟨rfl, by (repeat (first | (with_reducible exact Keep.refl _ _) | (with_reducible assumption) | (with_reducible refine Keep.drew ?_) | (with_reducible refine Keep.drewN ?_ _) | (with_reducible refine Keep.alloc ?_ _) | (with_reducible refine Keep.setCell ?_ ?_ _) | (with_reducible refine fun _ => rfl)))⟩
set_option maxRecDepth 100000 in
theorem nstep (w : World) : Calls Tryz.prog 28 #[.pointer none] w fun e w' => e = .returned (.tuple #[.slice none 0 0, .int .i64 2]) ∧ Fresh w w' := by
  go_enter Tryz.func28, Tryz.ntmps28
  go_wp2_with fail
  go_returns
  exact ⟨rfl, by (repeat (first | (with_reducible exact Keep.refl _ _) | (with_reducible assumption) | (with_reducible refine Keep.drew ?_) | (with_reducible refine Keep.drewN ?_ _) | (with_reducible refine Keep.alloc ?_ _) | (with_reducible refine Keep.setCell ?_ ?_ _) | (with_reducible refine fun _ => rfl)))⟩
set_option maxRecDepth 100000 in
theorem ntake (x : Ev) (an : Bool) (w : World) : Calls Tryz.prog 36 #[.pointer none, .agg #[.int .i64 x.a, .int .i64 x.s, .int .i64 x.t, .int .i64 x.n, .int .i64 x.d, .int .i64 x.k, .int .i64 x.x, .bool an]] w fun e w' => e = .returned (.tuple #[.slice none 0 0, .int .i64 2]) ∧ Fresh w w' := by
  go_enter Tryz.func36, Tryz.ntmps36
  go_wp2_with fail
  go_returns
  exact ⟨rfl, by (repeat (first | (with_reducible exact Keep.refl _ _) | (with_reducible assumption) | (with_reducible refine Keep.drew ?_) | (with_reducible refine Keep.drewN ?_ _) | (with_reducible refine Keep.alloc ?_ _) | (with_reducible refine Keep.setCell ?_ ?_ _) | (with_reducible refine fun _ => rfl)))⟩
set_option maxRecDepth 100000 in
theorem nsettle (w : World) : Calls Tryz.prog 29 #[.pointer none] w fun e w' => e = .returned (.slice none 0 0) ∧ Fresh w w' := by
  go_enter Tryz.func29, Tryz.ntmps29
  go_wp2_with fail
  go_returns
  exact ⟨rfl, by (repeat (first | (with_reducible exact Keep.refl _ _) | (with_reducible assumption) | (with_reducible refine Keep.drew ?_) | (with_reducible refine Keep.drewN ?_ _) | (with_reducible refine Keep.alloc ?_ _) | (with_reducible refine Keep.setCell ?_ ?_ _) | (with_reducible refine fun _ => rfl)))⟩
set_option maxRecDepth 100000 in
theorem nback (b : Int) (w : World) : Calls Tryz.prog 44 #[.pointer none, .int .i64 b] w fun e w' => e = .returned (.tuple #[.slice none 0 0, .int .i64 2]) ∧ Fresh w w' := by
  go_enter Tryz.func44, Tryz.ntmps44
  go_wp2_with fail
  go_returns
  exact ⟨rfl, by (repeat (first | (with_reducible exact Keep.refl _ _) | (with_reducible assumption) | (with_reducible refine Keep.drew ?_) | (with_reducible refine Keep.drewN ?_ _) | (with_reducible refine Keep.alloc ?_ _) | (with_reducible refine Keep.setCell ?_ ?_ _) | (with_reducible refine fun _ => rfl)))⟩
set_option maxRecDepth 100000 in
theorem ngive (x : Ev) (w : World) : Calls Tryz.prog 42 #[.pointer none, .agg #[.int .i64 x.a, .int .i64 x.s, .int .i64 x.t, .int .i64 x.n, .int .i64 x.d, .int .i64 x.k, .int .i64 x.x]] w fun e w' => e = .returned (.tuple #[.slice none 0 0, .int .i64 2]) ∧ Fresh w w' := by
  go_enter Tryz.func42, Tryz.ntmps42
  go_wp2_with fail
  go_returns
  exact ⟨rfl, by (repeat (first | (with_reducible exact Keep.refl _ _) | (with_reducible assumption) | (with_reducible refine Keep.drew ?_) | (with_reducible refine Keep.drewN ?_ _) | (with_reducible refine Keep.alloc ?_ _) | (with_reducible refine Keep.setCell ?_ ?_ _) | (with_reducible refine fun _ => rfl)))⟩
set_option maxRecDepth 100000 in
theorem nret (x : Ev) (w : World) : Calls Tryz.prog 32 #[.pointer none, .agg #[.int .i64 x.a, .int .i64 x.s, .int .i64 x.t, .int .i64 x.n, .int .i64 x.d, .int .i64 x.k, .int .i64 x.x]] w fun e w' => e = .returned (.tuple #[.slice none 0 0, .int .i64 2]) ∧ Fresh w w' := by
  go_enter Tryz.func32, Tryz.ntmps32
  go_wp2_with fail
  go_returns
  exact ⟨rfl, by (repeat (first | (with_reducible exact Keep.refl _ _) | (with_reducible assumption) | (with_reducible refine Keep.drew ?_) | (with_reducible refine Keep.drewN ?_ _) | (with_reducible refine Keep.alloc ?_ _) | (with_reducible refine Keep.setCell ?_ ?_ _) | (with_reducible refine fun _ => rfl)))⟩
set_option maxRecDepth 100000 in
theorem nfree (b : Int) (w : World) : Calls Tryz.prog 34 #[.pointer none, .int .i64 b] w fun e w' => e = .returned (.tuple #[.slice none 0 0, .int .i64 2]) ∧ Fresh w w' := by
  go_enter Tryz.func34, Tryz.ntmps34
  go_wp2_with fail
  go_returns
  exact ⟨rfl, by (repeat (first | (with_reducible exact Keep.refl _ _) | (with_reducible assumption) | (with_reducible refine Keep.drew ?_) | (with_reducible refine Keep.drewN ?_ _) | (with_reducible refine Keep.alloc ?_ _) | (with_reducible refine Keep.setCell ?_ ?_ _) | (with_reducible refine fun _ => rfl)))⟩
set_option maxRecDepth 100000 in
theorem nleast (w : World) : Calls Tryz.prog 20 #[.pointer none] w fun e w' => e = .returned (.int .i64 1073741825) ∧ Fresh w w' := by
  go_enter Tryz.func20, Tryz.ntmps20
  go_wp2_with fail
  go_returns
  exact ⟨rfl, by (repeat (first | (with_reducible exact Keep.refl _ _) | (with_reducible assumption) | (with_reducible refine Keep.drew ?_) | (with_reducible refine Keep.drewN ?_ _) | (with_reducible refine Keep.alloc ?_ _) | (with_reducible refine Keep.setCell ?_ ?_ _) | (with_reducible refine fun _ => rfl)))⟩
set_option maxRecDepth 100000 in
theorem nnow (w : World) : Calls Tryz.prog 19 #[.pointer none] w fun e w' => e = .returned (.int .i64 (-1)) ∧ Fresh w w' := by
  go_enter Tryz.func19, Tryz.ntmps19
  go_wp2_with fail
  go_returns
  exact ⟨rfl, by (repeat (first | (with_reducible exact Keep.refl _ _) | (with_reducible assumption) | (with_reducible refine Keep.drew ?_) | (with_reducible refine Keep.drewN ?_ _) | (with_reducible refine Keep.alloc ?_ _) | (with_reducible refine Keep.setCell ?_ ?_ _) | (with_reducible refine fun _ => rfl)))⟩
set_option maxRecDepth 100000 in
theorem ncopy (w : World) : Calls Tryz.prog 33 #[.pointer none] w fun e w' => e = .returned (.pointer none) ∧ Fresh w w' := by
  go_enter Tryz.func33, Tryz.ntmps33
  go_wp2_with fail
  go_returns
  exact ⟨rfl, by (repeat (first | (with_reducible exact Keep.refl _ _) | (with_reducible assumption) | (with_reducible refine Keep.drew ?_) | (with_reducible refine Keep.drewN ?_ _) | (with_reducible refine Keep.alloc ?_ _) | (with_reducible refine Keep.setCell ?_ ?_ _) | (with_reducible refine fun _ => rfl)))⟩
set_option maxRecDepth 100000 in
theorem nevents (w : World) : Calls Tryz.prog 41 #[.pointer none] w fun e w' => e = .returned (.func (.func 83) #[] #[]) ∧ Fresh w w' := by
  go_enter Tryz.func41, Tryz.ntmps41
  go_wp2_with fail
  go_returns
  exact ⟨rfl, by (repeat (first | (with_reducible exact Keep.refl _ _) | (with_reducible assumption) | (with_reducible refine Keep.drew ?_) | (with_reducible refine Keep.drewN ?_ _) | (with_reducible refine Keep.alloc ?_ _) | (with_reducible refine Keep.setCell ?_ ?_ _) | (with_reducible refine fun _ => rfl)))⟩
set_option maxRecDepth 100000 in
theorem nrecs (w : World) : Calls Tryz.prog 50 #[.pointer none] w fun e w' => e = .returned (.func (.func 86) #[] #[]) ∧ Fresh w w' := by
  go_enter Tryz.func50, Tryz.ntmps50
  go_wp2_with fail
  go_returns
  exact ⟨rfl, by (repeat (first | (with_reducible exact Keep.refl _ _) | (with_reducible assumption) | (with_reducible refine Keep.drew ?_) | (with_reducible refine Keep.drewN ?_ _) | (with_reducible refine Keep.alloc ?_ _) | (with_reducible refine Keep.setCell ?_ ?_ _) | (with_reducible refine fun _ => rfl)))⟩
set_option maxRecDepth 100000 in
theorem nstate (w : World) : Calls Tryz.prog 18 #[.pointer none] w fun e w' => e = .returned (.agg #[.int .i64 0, .int .i64 0, .int .i64 0, .int .i64 0]) ∧ Fresh w w' := by
  go_enter Tryz.func18, Tryz.ntmps18
  go_wp2_with fail
  have C := (Blk.new w 23 #[.int .i64 0, .int .i64 0, .int .i64 0, .int .i64 0]).cell
  exact bodyPost_ret (v := .agg #[.int .i64 0, .int .i64 0, .int .i64 0, .int .i64 0]) (by simp [results, Tryz.results18, go_sem, C]; try rfl) rfl ⟨rfl, by (repeat (first | (with_reducible exact Keep.refl _ _) | (with_reducible assumption) | (with_reducible refine Keep.drew ?_) | (with_reducible refine Keep.drewN ?_ _) | (with_reducible refine Keep.alloc ?_ _) | (with_reducible refine Keep.setCell ?_ ?_ _) | (with_reducible refine fun _ => rfl)))⟩
set_option maxRecDepth 100000 in
theorem ncount (w : World) : Calls Tryz.prog 35 #[.pointer none] w fun e w' => e = .returned (.agg #[.int .i64 0, .int .i64 0, .int .i64 0, .int .i64 0, .int .i64 0, .int .i64 0, .int .i64 0]) ∧ Fresh w w' := by
  go_enter Tryz.func35, Tryz.ntmps35
  go_wp2_with fail
  have C := (Blk.new w 81 #[.int .i64 0, .int .i64 0, .int .i64 0, .int .i64 0, .int .i64 0, .int .i64 0, .int .i64 0]).cell
  exact bodyPost_ret (v := .agg #[.int .i64 0, .int .i64 0, .int .i64 0, .int .i64 0, .int .i64 0, .int .i64 0, .int .i64 0]) (by simp [results, Tryz.results35, go_sem, C]; try rfl) rfl ⟨rfl, by (repeat (first | (with_reducible exact Keep.refl _ _) | (with_reducible assumption) | (with_reducible refine Keep.drew ?_) | (with_reducible refine Keep.drewN ?_ _) | (with_reducible refine Keep.alloc ?_ _) | (with_reducible refine Keep.setCell ?_ ?_ _) | (with_reducible refine fun _ => rfl)))⟩
set_option maxRecDepth 100000 in
set_option maxHeartbeats 8000000 in
theorem ncalls (o : LOp) (w : World) : Calls Tryz.prog 15 #[.pointer none, .agg o.arr] w fun e w' => e = .returned (.tuple #[.slice none 0 0, .slice none 0 0, .int .i64 (if o.k = 2 then 0 else 2)]) ∧ Fresh w w' := by
  obtain ⟨k, b, ⟨a, s, t, n', d, kk, x⟩, an⟩ := o
  unfold LOp.arr
  simp only
  by_cases k0 : k = 0
  · subst k0
    go_enter Tryz.func15, Tryz.ntmps15
    go_wp2_with (go_at_call 28; (with_reducible refine (nstep _).mono ?_); rintro e w1 ⟨rfl, f1⟩; have F1 := Lib.hid f1; clear f1)
    go_returns
    exact ⟨rfl, ((Keep.refl _ w).alloc _).step F1.out (fun _ _ h => h)⟩
  have t0 : (k == 0) = false := by simpa using k0
  by_cases k1 : k = 1
  · subst k1
    go_enter Tryz.func15, Tryz.ntmps15
    go_wp2_with (go_at_call 36; (with_reducible refine (ntake ⟨a, s, t, n', d, kk, x⟩ an _).mono ?_); rintro e w1 ⟨rfl, f1⟩; have F1 := Lib.hid f1; clear f1)
    go_returns
    exact ⟨rfl, ((Keep.refl _ w).alloc _).step F1.out (fun _ _ h => h)⟩
  have t1 : (k == 1) = false := by simpa using k1
  by_cases k2 : k = 2
  · subst k2
    go_enter Tryz.func15, Tryz.ntmps15
    go_wp2_with (go_at_call 29; (with_reducible refine (nsettle _).mono ?_); rintro e w1 ⟨rfl, f1⟩; have F1 := Lib.hid f1; clear f1)
    go_returns
    exact ⟨rfl, ((Keep.refl _ w).alloc _).step F1.out (fun _ _ h => h)⟩
  have t2 : (k == 2) = false := by simpa using k2
  by_cases k3 : k = 3
  · subst k3
    go_enter Tryz.func15, Tryz.ntmps15
    go_wp2_with (go_at_call 44; (with_reducible refine (nback b _).mono ?_); rintro e w1 ⟨rfl, f1⟩; have F1 := Lib.hid f1; clear f1)
    go_returns
    exact ⟨rfl, ((Keep.refl _ w).alloc _).step F1.out (fun _ _ h => h)⟩
  have t3 : (k == 3) = false := by simpa using k3
  by_cases k5 : k = 5
  · subst k5
    go_enter Tryz.func15, Tryz.ntmps15
    go_wp2_with (go_at_call 42; (with_reducible refine (ngive ⟨a, s, t, n', d, kk, x⟩ _).mono ?_); rintro e w1 ⟨rfl, f1⟩; have F1 := Lib.hid f1; clear f1)
    go_returns
    exact ⟨rfl, ((Keep.refl _ w).alloc _).step F1.out (fun _ _ h => h)⟩
  have t5 : (k == 5) = false := by simpa using k5
  by_cases k6 : k = 6
  · subst k6
    go_enter Tryz.func15, Tryz.ntmps15
    go_wp2_with (go_at_call 32; (with_reducible refine (nret ⟨a, s, t, n', d, kk, x⟩ _).mono ?_); rintro e w1 ⟨rfl, f1⟩; have F1 := Lib.hid f1; clear f1)
    go_returns
    exact ⟨rfl, ((Keep.refl _ w).alloc _).step F1.out (fun _ _ h => h)⟩
  have t6 : (k == 6) = false := by simpa using k6
  rw [if_neg k2]
  clear k0 k1 k2 k3 k5 k6
  go_enter Tryz.func15, Tryz.ntmps15
  go_wp2_with (go_at_call 34; (with_reducible refine (nfree b _).mono ?_); rintro e w1 ⟨rfl, f1⟩; have F1 := Lib.hid f1; clear f1)
  go_returns
  exact ⟨rfl, ((Keep.refl _ w).alloc _).step F1.out (fun _ _ h => h)⟩
theorem nEvents1_in (F : Fence) (n : Nat) (hF : F.fn 83) (hro : F.round = none) (lp : Nat) (W : World) :
    CallsIn F n Tryz.prog 83 #[.func (.yield lp) #[] #[]] W fun e W' => (∃ v, e = .returned v) ∧ W = W' := by
  refine callsIn_of_wp Tryz.func83 rfl hF ?_ hro
  simp only [Tryz.ntmps83, List.size_toArray, List.length_cons, List.length_nil, Nat.reduceAdd, Nat.reduceSub, Array.replicate_succ, Array.replicate_zero, List.push_toArray, List.append_toArray, List.nil_append, List.cons_append]
  gi_wp2
  go_end0
  exact ⟨⟨_, rfl⟩, rfl⟩
theorem nEvents_stops (F : Fence) (n : Nat) (hF : F.fn 83) (hro : F.round = none) (w : World) (Kp : World → World → Prop) :
    SeqStopsK F n Tryz.prog 83 #[] (fun x : Empty => nomatch x) Kp (fun ys => ys = []) (fun _ => False) 0 w := fun lp J Jx W hW hJ hJx hY h0 => by
  exact (nEvents1_in F n hF hro lp W).mono fun e W' ⟨h1, h2⟩ => ⟨h1, .inl ⟨[], rfl, h2 ▸ h0⟩⟩
theorem nRecords1_in (F : Fence) (n : Nat) (hF : F.fn 86) (hro : F.round = none) (lp : Nat) (W : World) :
    CallsIn F n Tryz.prog 86 #[.func (.yield lp) #[] #[]] W fun e W' => (∃ v, e = .returned v) ∧ W = W' := by
  refine callsIn_of_wp Tryz.func86 rfl hF ?_ hro
  simp only [Tryz.ntmps86, List.size_toArray, List.length_cons, List.length_nil, Nat.reduceAdd, Nat.reduceSub, Array.replicate_succ, Array.replicate_zero, List.push_toArray, List.append_toArray, List.nil_append, List.cons_append]
  gi_wp2
  go_end0
  exact ⟨⟨_, rfl⟩, rfl⟩
theorem nRecords_stops (F : Fence) (n : Nat) (hF : F.fn 86) (hro : F.round = none) (w : World) (Kp : World → World → Prop) :
    SeqStopsK F n Tryz.prog 86 #[] (fun x : Empty => nomatch x) Kp (fun ys => ys = []) (fun _ => False) 0 w := fun lp J Jx W hW hJ hJx hY h0 => by
  exact (nRecords1_in F n hF hro lp W).mono fun e W' ⟨h1, h2⟩ => ⟨h1, .inl ⟨[], rfl, h2 ▸ h0⟩⟩
end Go.Proofs.YthbcdkeammhakaaGreat

/-
  The laws' own small functions: awake.
-/
namespace Go.Proofs.YthbcdkeammhakaaGreat
open Go.RowKit
attribute [local go_sem ↓] Go.wp_at_zero Go.wp_at_succ
section
variable {c : LC} {first : St} {y : PV} {p : LPs} {A : AM} {n : Nat} {w : World}
theorem ref_next (h : SLP w c y p) (hr : RefP c first p A n) : Calls Tryz.prog 40 #[.pointer (some ⟨y.g, 0, none⟩)] w fun e w' => e = .returned (match nx A.l A.now with | some c => .tuple #[.int .i64 c, .bool true] | none => .tuple #[.int .i64 0, .bool false]) ∧ Fresh w w' := by
  have hx := next_is hr
  refine (lnext_any c y p w h (by have := hr.good.ll; omega)).mono fun e w' hh => ?_
  unfold NextP at hh
  rw [← hx]
  cases hn : nextE p.l p.now with
  | none => rw [hn] at hh; exact hh
  | some y => rw [hn] at hh; exact hh
theorem ref_now (h : SLP w c y p) (hr : RefP c first p A n) : Calls Tryz.prog 19 #[.pointer (some ⟨y.g, 0, none⟩)] w fun e w' => e = .returned (.int .i64 A.now) ∧ Fresh w w' := by
  refine (lnow_any c y p w h).mono fun e w' hh => ?_
  rw [← hr.now]
  exact hh
theorem ref_state (h : SLP w c y p) (hr : RefP c first p A n) : Calls Tryz.prog 18 #[.pointer (some ⟨y.g, 0, none⟩)] w fun e w' => e = .returned (A.fold (cfg c first)).2.1.val ∧ Fresh w w' := by
  refine (lstate_any c y p w h).mono fun e w' hh => ?_
  rw [← hr.st]
  exact hh
theorem ref_least (h : SLP w c y p) (hr : RefP c first p A n) (hn : n ≤ 62) : Calls Tryz.prog 20 #[.pointer (some ⟨y.g, 0, none⟩)] w fun e w' => e = .returned (.int .i64 (leastA A)) ∧ Fresh w w' := by
  obtain ⟨b1, b2, b3, b4, b5⟩ := hr.bounds (by omega)
  refine (lleast_any c y p w h (by omega) (by omega)).mono fun e w' hh => ?_
  rw [← hr.least_]
  exact hh
end
/-- a process of a call's own -/
structure OwnP (c : LC) (first : St) (A : AM) (n : Nat) (w0 : World) (y : PV) (w : World) : Prop where
  r : ∃ p, SLP w c y p ∧ RefP c first p A n
  f : Fresh w0 w
  x : NewP y w0
section
variable {c : LC} {first : St} {y y' : PV} {A A' : AM} {n m : Nat} {w0 w w' : World}
theorem OwnP.fresh (h : OwnP c first A n w0 y w) (f : Fresh w w') : OwnP c first A n w0 y w' := by
  obtain ⟨p, h1, h2⟩ := h.r
  exact ⟨⟨p, h1.fresh f, h2⟩, h.f.step f (fun _ _ h => h), h.x⟩
theorem OwnP.turn (h : OwnP c first A n w0 y w) (t : LTurn w w' y y') (hr : ∃ p, SLP w' c y' p ∧ RefP c first p A' m) : OwnP c first A' m w0 y' w' :=
  ⟨hr, h.f.step t.keep (fun k hk hf => by have := h.x k hf; omega), fun k hk => by
    rcases t.later k hk with h1 | h1
    · exact h.x k h1
    · have := h.f.size; omega⟩
end
def awL : List Ev := [⟨3, 0, 0, 0, 0, 0, 0⟩, ⟨7, 0, 0, 0, 0, 0, 0⟩]
def awC : LC := ⟨0, 0, 2, false⟩
def awS : St := ⟨0, 0, 0, 0⟩
theorem aw_made : madeE awC.id awC.every awL = 0 ∧ insAll awL = awL := by decide
theorem aw_ref : RefP awC awS (newLp awS awL) (newA awL) 0 := by
  refine new_ref ?_ ?_ (by decide) (by decide) (by decide) ?_
  · unfold Srt awL; decide
  · intro e he
    simp only [awL, List.mem_cons, List.not_mem_nil, or_false] at he
    unfold SmE
    rcases he with rfl | rfl <;> decide
  · unfold OkS awS; decide
def aw1 : AM := (stpA (cfg awC awS) (newA awL)).A
def aw2 : AM := (stpA (cfg awC awS) aw1).A
def aw3 : Ans := takA (cfg awC awS) aw2 ⟨5, 0, 0, 0, 0, 0, 0⟩ false
theorem aw_now : aw2.now = 7 := by rfl
theorem aw_e : aw3.e = 0 := by rfl
theorem aw_now3 : aw3.A.now = 3 := by rfl
theorem aw_nx : nx aw3.A.l aw3.A.now = some 5 := by rfl
set_option maxRecDepth 100000 in
set_option maxHeartbeats 8000000 in
theorem awake_any (w : World) : Calls Tryz.prog 13 #[] w fun e w' => e = .returned (.bool true) ∧ Fresh w w' := by
  go_enter Tryz.func13, Tryz.ntmps13
  go_wp2_with fail
  have HV : EvAt (w.alloc (.cells #[.int .i64 3, .int .i64 0, .int .i64 0, .int .i64 0, .int .i64 0, .int .i64 0, .int .i64 0, .int .i64 7, .int .i64 0, .int .i64 0, .int .i64 0, .int .i64 0, .int .i64 0, .int .i64 0] 41)) (.slice (some ⟨w.heap.size, 0, none⟩) awL.length 2) awL :=
    OwnS.evs (OwnS.new_ (n := 2) (size := 7) (Blk.new w 41 #[.int .i64 3, .int .i64 0, .int .i64 0, .int .i64 0, .int .i64 0, .int .i64 0, .int .i64 0, .int .i64 7, .int .i64 0, .int .i64 0, .int .i64 0, .int .i64 0, .int .i64 0, .int .i64 0]) rfl (by unfold maxLen; omega))
  refine (made_any awC awS (some ⟨w.heap.size, 0, none⟩) 2 awL _ HV (by decide)).mono ?_
  rintro e w1 (⟨_, y, rfl, s1, f1, n1⟩ | ⟨h1, _, _⟩)
  rotate_left
  · exact absurd aw_made.1 h1
  rw [aw_made.2] at s1
  have O1 : Hid (OwnP awC awS (newA awL) 0 w y w1) := Lib.hid ⟨⟨_, s1, aw_ref⟩, ((Keep.refl _ w).alloc _).step f1 (fun _ _ h => h), fun k hk => Nat.le_trans (by simp) (n1 k hk)⟩
  clear s1 f1 n1 HV
  obtain ⟨p1, sp1, rp1⟩ := O1.out.r
  have C1 := Lib.hid (ref_step sp1 rp1 (by omega))
  clear sp1 rp1
  go_wp2_with fail
  refine C1.out.mono ?_
  rintro e w2 ⟨va2, rfl, _, y2, p2, s2, t2, r2⟩
  have O2 : Hid (OwnP awC awS aw1 0 w y2 w2) := Lib.hid (O1.out.turn t2 ⟨p2, s2, r2⟩)
  have G2 : Hid (y2.g = y.g) := Lib.hid t2.g
  have C2 := ref_step s2 r2 (show 0 ≤ 62 by omega)
  rw [G2.out] at C2
  have C2 := Lib.hid C2
  clear s2 t2 r2
  go_wp2_with fail
  refine C2.out.mono ?_
  rintro e w3 ⟨va3, rfl, _, y3, p3, s3, t3, r3⟩
  have O3 : Hid (OwnP awC awS aw2 0 w y3 w3) := Lib.hid (O2.out.turn t3 ⟨p3, s3, r3⟩)
  have G3 : Hid (y3.g = y.g) := Lib.hid (t3.g.trans G2.out)
  have C3 := ref_now s3 r3
  rw [G3.out] at C3
  have C3 : Hid (Calls Tryz.prog 19 #[.pointer (some ⟨y.g, 0, none⟩)] w3 fun e w' => e = .returned (.int .i64 7) ∧ Fresh w3 w') := Lib.hid C3
  clear s3 t3 r3
  go_wp2_with fail
  refine C3.out.mono ?_
  rintro e w4 ⟨rfl, f4⟩
  have O4 := Lib.hid (O3.out.fresh f4)
  clear f4
  obtain ⟨p4, s4, r4⟩ := O4.out.r
  have C4 := ref_take s4 r4 (by omega) ⟨5, 0, 0, 0, 0, 0, 0⟩ false (by unfold SmE; decide)
  rw [G3.out] at C4
  unfold Ev.msg at C4
  have C4 := Lib.hid C4
  clear s4 r4
  go_wp2_with fail
  refine C4.out.mono ?_
  rintro e w5 ⟨va5, rfl, _, y5, p5, s5, t5, r5⟩
  have O5 : Hid (OwnP awC awS aw3.A 1 w y5 w5) := Lib.hid (O4.out.turn t5 ⟨p5, s5, r5⟩)
  have G5 : Hid (y5.g = y.g) := Lib.hid (t5.g.trans G3.out)
  have C5 := ref_next s5 r5
  rw [G5.out] at C5
  have C5 : Hid (Calls Tryz.prog 40 #[.pointer (some ⟨y.g, 0, none⟩)] w5 fun e w' => e = .returned (.tuple #[.int .i64 5, .bool true]) ∧ Fresh w5 w') := Lib.hid C5
  clear s5 t5 r5
  go_wp2_with fail
  refine C5.out.mono ?_
  rintro e w6 ⟨rfl, f6⟩
  have O6 := Lib.hid (O5.out.fresh f6)
  clear f6
  obtain ⟨p6, s6, r6⟩ := O6.out.r
  have C6 := ref_now s6 r6
  rw [G5.out] at C6
  have C6 : Hid (Calls Tryz.prog 19 #[.pointer (some ⟨y.g, 0, none⟩)] w6 fun e w' => e = .returned (.int .i64 3) ∧ Fresh w6 w') := Lib.hid C6
  clear s6 r6
  have HE : Hid ((takA (cfg awC awS) aw2 ⟨5, 0, 0, 0, 0, 0, 0⟩ false).e = 0) := Lib.hid aw_e
  rw [HE.out]
  go_wp2_with fail
  refine C6.out.mono ?_
  rintro e w7 ⟨rfl, f7⟩
  have F7 := Lib.hid (O6.out.fresh f7).f
  clear f7
  go_wp2_with fail
  go_returns
  exact ⟨rfl, F7.out⟩
end Go.Proofs.YthbcdkeammhakaaGreat

/-
  States compared.
-/
namespace Go.Proofs.YthbcdkeammhakaaGreat
open Go.RowKit
attribute [local go_sem ↓] Go.wp_at_zero Go.wp_at_succ
theorem eq4 (e : Nat) (a b c d a' b' c' d' : Int) (w : World) : (Op.equalIn (e + 2) 23 (.agg #[.int .i64 a, .int .i64 b, .int .i64 c, .int .i64 d]) (.agg #[.int .i64 a', .int .i64 b', .int .i64 c', .int .i64 d'])).run Tryz.prog w =
    .ok (a == a' && (b == b' && (c == c' && d == d'))) w := by
  have p0 : ∀ x0 x1 x2 x3 w, (part 3 #[x0, x1, x2, x3] 0).run Tryz.prog w = .ok x0 w := fun _ _ _ _ _ => by kernel_rfl
  have p1 : ∀ x0 x1 x2 x3 w, (part 3 #[x0, x1, x2, x3] 1).run Tryz.prog w = .ok x1 w := fun _ _ _ _ _ => by kernel_rfl
  have p2 : ∀ x0 x1 x2 x3 w, (part 3 #[x0, x1, x2, x3] 2).run Tryz.prog w = .ok x2 w := fun _ _ _ _ _ => by kernel_rfl
  have p3 : ∀ x0 x1 x2 x3 w, (part 3 #[x0, x1, x2, x3] 3).run Tryz.prog w = .ok x3 w := fun _ _ _ _ _ => by kernel_rfl
  have hsz : ∀ w, (sizeOf 3).run Tryz.prog w = .ok 1 w := fun _ => by kernel_rfl
  rw [Op.equalIn]
  simp only [Sem.run_bind, run_underlying Tryz.underlying23, Result.andThen_ok, hsz]
  rw [Std.Legacy.Range.forIn_eq_forIn_range']
  simp only [Std.Legacy.Range.size, List.range', Nat.reduceSub, Nat.reduceAdd, Nat.reduceDiv, List.forIn_cons, Sem.run_bind, Nat.mul_one, p0, Result.andThen_ok, run_equalIn_int (h := Tryz.underlying3), List.forIn_nil]
  generalize (a == a') = x1
  cases x1
  · simp
  simp only [Bool.not_true, Bool.false_eq_true, if_false, Sem.run_pure, Result.andThen_ok, Sem.run_bind, p1, run_equalIn_int (h := Tryz.underlying3)]
  generalize (b == b') = x2
  cases x2
  · simp
  simp only [Bool.not_true, Bool.false_eq_true, if_false, Sem.run_pure, Result.andThen_ok, Sem.run_bind, p2, run_equalIn_int (h := Tryz.underlying3)]
  generalize (c == c') = x3
  cases x3
  · simp
  simp only [Bool.not_true, Bool.false_eq_true, if_false, Sem.run_pure, Result.andThen_ok, Sem.run_bind, p3, run_equalIn_int (h := Tryz.underlying3)]
  generalize (d == d') = x4
  cases x4
  · simp
  simp
theorem eq4w (a b c d : Int) (w : World) : (Op.equalIn 10000 23 (.agg #[.int .i64 a, .int .i64 b, .int .i64 c, .int .i64 d]) (.agg #[.int .i64 a, .int .i64 b, .int .i64 c, .int .i64 d])).run Tryz.prog w = .ok true w := by
  have := eq4 9998 a b c d a b c d w
  simpa using this
theorem run_neq_state (a b c d : Int) (w : World) : (binOp .neq 23 (.agg #[.int .i64 a, .int .i64 b, .int .i64 c, .int .i64 d]) (.agg #[.int .i64 a, .int .i64 b, .int .i64 c, .int .i64 d])).run Tryz.prog w = .ok (.bool false) w := by
  have h := eq4w a b c d w
  have h3 : Tryz.prog.underlying 23 = some (.array 4 3) := Tryz.underlying23
  go_simp
end Go.Proofs.YthbcdkeammhakaaGreat
