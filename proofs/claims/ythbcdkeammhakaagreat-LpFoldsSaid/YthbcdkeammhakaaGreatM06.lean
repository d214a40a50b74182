/- Chapter 13: PAwake, PListed, PMore, PEvsE. -/
import Derived.Test.YthbcdkeammhakaaGreatM05
/-
  The chapter's example.
-/
namespace Go.Proofs.YthbcdkeammhakaaGreat
open Go.RowKit
attribute [local go_sem ↓] Go.wp_at_zero Go.wp_at_succ

/-- a queue that was made behind w -/
structure AQ (w : World) (g : Nat) (v1 v2 : Value) (l m : List Ev) (wr : World) : Prop where
  q : SQ wr g v1 v2 l m
  fr : Fresh w wr
  ng : ∀ k, foot g v1 v2 k → w.heap.size ≤ k
theorem AQ.fresh {w wr w2 : World} {g : Nat} {v1 v2 : Value} {l m : List Ev} (h : AQ w g v1 v2 l m wr) (f : Fresh wr w2) : AQ w g v1 v2 l m w2 := ⟨h.q.fresh f, h.fr.step f (fun _ _ h => h), h.ng⟩
theorem AQ.next {w wr w2 : World} {g : Nat} {v1 v2 v1' v2' : Value} {l m l' m' : List Ev} (h : AQ w g v1 v2 l m wr) (s : SQ w2 g v1' v2' l' m') (t : Turn wr w2 g v1 v2 v1' v2') : AQ w g v1' v2' l' m' w2 := by
  refine ⟨s, h.fr.step t.keep (fun i hi e => ?_), fun i hi => ?_⟩
  · have := h.ng i e; omega
  · rcases t.later i hi with e | e
    · exact h.ng i e
    · have := h.fr.size; omega
theorem new_aq (w : World) : Calls Tryz.prog 79 #[] w fun e w' => ∃ g, e = .returned (.pointer (some ⟨g, 0, none⟩)) ∧ AQ w g (.slice none 0 0) (.slice none 0 0) [] [] w' :=
  (new_any w).mono fun _ w' ⟨h1, h2, h3⟩ => ⟨_, h1, h2, h3, fun k hk => by
    rcases hk with rfl | hk | hk
    · exact Nat.le_refl _
    · simp [Value.ownBlock] at hk
    · simp [Value.ownBlock] at hk⟩
theorem AQ.put {w wr : World} {g : Nat} {v1 v2 : Value} {l m : List Ev} (h : AQ w g v1 v2 l m wr) (x : Ev) (an : Bool) (hl : l.length ≤ 100000) (hm : m.length ≤ 100000) (ha : 0 ≤ x.a ∧ x.a ≤ 1073741824) :
    Calls Tryz.prog 68 #[.pointer (some ⟨g, 0, none⟩), x.msg an] wr fun e w' => e = .returned (.tuple #[.bool (putMet l m x an), .int .i64 0]) ∧ ∃ v1' v2', AQ w g v1' v2' (putL l m x an) (putB l m x an) w' :=
  (put_any g v1 v2 l m x an wr h.q hl hm ha).mono fun _ _ ⟨h1, v1', v2', h2, h3⟩ => ⟨h1, v1', v2', h.next h2 h3⟩
def e0 : Ev := ⟨5, 1, 3, 0, 2, 0, 7⟩
theorem m1 : putMet [] [] e0 false = false ∧ putL [] [] e0 false = [e0] ∧ putB [] [] e0 false = [] := by decide
theorem m2 : putMet [e0] [] e0 true = true ∧ putL [e0] [] e0 true = [] ∧ putB [e0] [] e0 true = [] := by decide
theorem m3 : putMet [] [] e0 true = false ∧ putL [] [] e0 true = [] ∧ putB [] [] e0 true = [e0] := by decide
theorem m4 : putMet [] [e0] e0 false = true ∧ putL [] [e0] e0 false = [] ∧ putB [] [e0] e0 false = [] := by decide
theorem msg_f : e0.msg false = .agg #[.int .i64 5, .int .i64 1, .int .i64 3, .int .i64 0, .int .i64 2, .int .i64 0, .int .i64 7, .bool false] := rfl
theorem msg_t : e0.msg true = .agg #[.int .i64 5, .int .i64 1, .int .i64 3, .int .i64 0, .int .i64 2, .int .i64 0, .int .i64 7, .bool true] := rfl
theorem val_e : e0.val = .agg #[.int .i64 5, .int .i64 1, .int .i64 3, .int .i64 0, .int .i64 2, .int .i64 0, .int .i64 7] := rfl
/-- .. and the event in its box -/
structure AE (w : World) (be g : Nat) (l m : List Ev) (v1 v2 : Value) (wr : World) : Prop where
  aq : AQ w g v1 v2 l m wr
  eb : Blk wr be 41 #[.int .i64 5, .int .i64 1, .int .i64 3, .int .i64 0, .int .i64 2, .int .i64 0, .int .i64 7]
  ne : ¬ foot g v1 v2 be
theorem AE.fresh {w wr w2 : World} {be g : Nat} {v1 v2 : Value} {l m : List Ev} (h : AE w be g l m v1 v2 wr) (f : Fresh wr w2) : AE w be g l m v1 v2 w2 := ⟨h.aq.fresh f, f.blk_ h.eb, h.ne⟩
theorem AE.put {w wr : World} {be g : Nat} {v1 v2 : Value} {l m : List Ev} (h : AE w be g l m v1 v2 wr) (x : Ev) (an : Bool) (hl : l.length ≤ 100000) (hm : m.length ≤ 100000) (ha : 0 ≤ x.a ∧ x.a ≤ 1073741824) :
    Calls Tryz.prog 68 #[.pointer (some ⟨g, 0, none⟩), x.msg an] wr fun e w' => e = .returned (.tuple #[.bool (putMet l m x an), .int .i64 0]) ∧ ∃ v1' v2', AE w be g (putL l m x an) (putB l m x an) v1' v2' w' :=
  (put_any g v1 v2 l m x an wr h.aq.q hl hm ha).mono fun _ _ ⟨h1, v1', v2', h2, h3⟩ => ⟨h1, v1', v2', h.aq.next h2 h3, h.eb.keep h3.keep h.ne, fun hf => by
    rcases h3.later _ hf with hh | hh
    · exact h.ne hh
    · have := h.eb.lt; omega⟩
end Go.Proofs.YthbcdkeammhakaaGreat

/-
  The law's listed: what is gone through.
-/
namespace Go.Proofs.YthbcdkeammhakaaGreat
open Go.RowKit Go.Shelf
attribute [local go_sem] Oper.semAt_some
theorem run_eql_func' (fn : Fn) (a b : Array Value) (w : World) : (binOp .eql 91 (.func fn a b) .nilFunc).run Tryz.prog w = .ok (.bool false) w := by
  kernel_rfl
attribute [local go_sem] run_eql_func'

/-- what the loop's own cells hold when pre has come -/
def LInv (w : World) (pre : List Ev) (W : World) : Prop :=
  (∃ v, Blk W w.heap.size 24 #[v] ∧ OwnS W 41 7 v pre.length (cells pre) ∧ ∀ k, v.ownBlock = some k → w.heap.size ≤ k) ∧ Fresh w W
theorem lInv_own (w : World) (B : Nat) (hB : w.heap.size ≤ B) : OwnFrom B (LInv w) := by
  intro pre X Y row hs hg hr
  obtain ⟨⟨v, h1, h2, h3⟩, h4⟩ := hs
  have hr' : ∀ r, row = some r → ∃ o : Obj, X.heap[r]? = some o ∧ o.isCells = false := fun r e => (hr r e).2
  exact ⟨⟨v, blk_grown h1 hg hr', ownS_grown h2 hg hr', h3⟩, ownFrom_fresh (β := Unit) hB () X Y row h4 hg hr⟩
def ListedP (l : List Ev) (w : World) (e : Ending) (w' : World) : Prop :=
  ∃ v', e = .returned v' ∧ OwnS w' 41 7 v' l.length (cells l) ∧ Fresh w w' ∧ ∀ k, v'.ownBlock = some k → w.heap.size ≤ k
end Go.Proofs.YthbcdkeammhakaaGreat

/-
  inq.Queue: Put of a time that may not be, All, Antis, Copy.
-/
namespace Go.Proofs.YthbcdkeammhakaaGreat
open Go.RowKit Go.Shelf
attribute [local go_sem ↓] Go.wp_at_zero Go.wp_at_succ

set_option maxHeartbeats 1000000 in
set_option maxRecDepth 100000 in
theorem put_out (g : Nat) (x : Ev) (an : Bool) (w : World) (ha : x.a < 0 ∨ 1073741824 < x.a) :
    Calls Tryz.prog 68 #[.pointer (some ⟨g, 0, none⟩), x.msg an] w fun e w' => e = .returned (.tuple #[.bool false, .int .i64 10]) ∧ Fresh w w' := by
  unfold Ev.msg
  by_cases h1 : x.a < 0
  · have t1 : decide (x.a < 0) = true := decide_eq_true h1
    go_enter Tryz.func68, Tryz.ntmps68
    go_wp2
    go_ret2
    exact ⟨rfl, by (repeat (first | (with_reducible exact Keep.refl _ _) | (with_reducible assumption) | (with_reducible refine Keep.drew ?_) | (with_reducible refine Keep.drewN ?_ _) | (with_reducible refine Keep.alloc ?_ _) | (with_reducible refine Keep.setCell ?_ ?_ _) | (with_reducible refine fun _ => rfl)))⟩
  · have t1 : decide (x.a < 0) = false := decide_eq_false h1
    have t2 : decide (1073741824 < x.a) = true := decide_eq_true (by omega)
    go_enter Tryz.func68, Tryz.ntmps68
    go_wp2
    go_ret2
    exact ⟨rfl, by (repeat (first | (with_reducible exact Keep.refl _ _) | (with_reducible assumption) | (with_reducible refine Keep.drew ?_) | (with_reducible refine Keep.drewN ?_ _) | (with_reducible refine Keep.alloc ?_ _) | (with_reducible refine Keep.setCell ?_ ?_ _) | (with_reducible refine fun _ => rfl)))⟩
theorem isNil (w : World) (a : Option Addr) (n c : Nat) : (binOp .eql 24 (.slice a n c) (.slice none 0 0)).run Tryz.prog w = .ok (.bool a.isNone) w := Lib.run_eql_slice_nil w _ _ a n c 0 0 Tryz.underlying24
attribute [local go_sem] isNil
theorem clone_any (v : Value) (n : Nat) (xs : List Value) (w : World) (h : OwnS w 41 7 v n xs) (h1 : ∀ u ∈ xs, u.oneCell' = true) (hn : n ≤ 1000000) :
    Calls Tryz.prog 91 #[v] w fun e w' => ∃ v', e = .returned v' ∧ OwnS w' 41 7 v' n xs ∧ Fresh w w' ∧ ∀ k, v'.ownBlock = some k → w.heap.size ≤ k := by
  rcases h.2 with ⟨rfl, rfl⟩ | ⟨g', off, cap, cur, rfl, _⟩
  · have hx : xs = [] := List.eq_nil_of_length_eq_zero (by simpa using h.1)
    subst hx
    clear h h1
    go_enter Tryz.func91, Tryz.ntmps91
    go_wp2_with fail
    go_ret
    exact ⟨_, rfl, OwnS.nil _ _ _, Keep.refl _ _, by simp [Value.ownBlock]⟩
  have HO := Lib.hid h
  have H1 := Lib.hid h1
  clear h h1
  obtain ⟨i0, hi, hz0, hz1, hz2⟩ := info_parts info_ev
  have h04 : 0 < 7 := by omega
  have hL1 : 0 + n ≤ maxLen := one_le_maxLen (by omega)
  have hL2 : (0 + n) * 56 ≤ 140737488355328 := by omega
  have HN : Hid (OwnS (w.alloc (.cells #[] 41)) 41 7 (.slice (some ⟨w.heap.size, 0, none⟩) 0 0) 0 []) := OwnS.new_ (Blk.at_new rfl _ #[]) rfl (Nat.zero_le _)
  go_enter Tryz.func91, Tryz.ntmps91
  go_wp2_with (at_builtin; refine wpList_append_OwnS _ rfl _ _ 24 rfl 41 i0 (.agg #[.int .i64 0, .int .i64 0, .int .i64 0, .int .i64 0, .int .i64 0, .int .i64 0, .int .i64 0]) 7 56 Tryz.underlying24 hi hz0 hz1 hz2 rfl h04 (.slice (some ⟨w.heap.size, 0, none⟩) 0 0) 0 [] rfl HN.out (.slice (some ⟨g', off, none⟩) n cap) n xs rfl (HO.out.alloc _).src H1.out hL1 hL2 ?_; intro v' w1 ho1 hk1 hat1)
  go_ret
  refine ⟨v', rfl, by simpa using ho1, Keep.step ((Keep.refl _ w).alloc _) hk1 (fun k hk hk' => by simp [Value.ownBlock] at hk'; omega), fun k hk => ?_⟩
  have := hat1 k hk
  simp [Value.ownBlock] at this
  omega
theorem rclone_any (g o : Nat) (v : Value) (l : List Ev) (w : World) (hc : w.cell? ⟨g, o, none⟩ = some v) (ho : OwnS w 41 7 v l.length (cells l)) (hl : l.length ≤ 100000) :
    Calls Tryz.prog 103 #[.pointer (some ⟨g, o, none⟩)] w fun e w' => ∃ v', e = .returned v' ∧ OwnS w' 41 7 v' l.length (cells l) ∧ Fresh w w' ∧ ∀ k, v'.ownBlock = some k → w.heap.size ≤ k := by
  have HC := Lib.hid (clone_any v _ _ w ho (cells_one l) (by omega))
  obtain ⟨A, cap, rfl, _, _⟩ := ho.shape
  clear ho
  go_enter Tryz.func103, Tryz.ntmps103
  go_wp2_with fail
  refine HC.out.mono ?_
  rintro e w1 ⟨v1, rfl, ho1, hk1, hn1⟩
  obtain ⟨A', cap', rfl, _, _⟩ := ho1.shape
  have P1 := Lib.hid ho1
  have P2 := Lib.hid hk1
  have P3 := Lib.hid hn1
  clear ho1 hk1 hn1
  go_wp2_with fail
  go_ret
  exact ⟨_, rfl, P1.out, P2.out, P3.out⟩
/-- what All hands back -/
def SeqP (l : List Ev) (w : World) (e : Ending) (w' : World) : Prop :=
  ∃ b v', e = .returned (seqV b) ∧ Blk w' b 24 #[v'] ∧ OwnS w' 41 7 v' l.length (cells l) ∧ Fresh w w'
theorem all_any (g : Nat) (v1 v2 : Value) (l m : List Ev) (w : World) (h : SQ w g v1 v2 l m) (hl : l.length ≤ 100000) : Calls Tryz.prog 84 #[.pointer (some ⟨g, 0, none⟩)] w (SeqP l w) := by
  have HC := Lib.hid (fun W (f : Fresh w W) => rclone_any g 0 v1 l W ((h.fresh f).blk.cell_ 0 rfl) (h.fresh f).own1 hl)
  clear h
  go_enter Tryz.func84, Tryz.ntmps84
  go_wp2_with fail
  refine (HC.out _ (by (repeat (first | (with_reducible exact Keep.refl _ _) | (with_reducible assumption) | (with_reducible refine Keep.drew ?_) | (with_reducible refine Keep.drewN ?_ _) | (with_reducible refine Keep.alloc ?_ _) | (with_reducible refine Keep.setCell ?_ ?_ _) | (with_reducible refine fun _ => rfl))))).mono ?_
  rintro e w1 ⟨v1, rfl, ho1, hk1, hn1⟩
  obtain ⟨A', cap', rfl, _, _⟩ := ho1.shape
  have P1 := Lib.hid ho1
  have P2 := Lib.hid hk1
  clear ho1 hk1 hn1
  go_wp2_with fail
  refine (values_any _ _ _ _).mono ?_
  rintro e w2 ⟨rfl, rfl⟩
  go_wp2_with fail
  go_ret
  exact ⟨_, _, rfl, Blk.at_new rfl _ _, P1.out.alloc _, P2.out.alloc _⟩
def CopyP (l m : List Ev) (w : World) (e : Ending) (w' : World) : Prop :=
  ∃ g' v1' v2', e = .returned (.pointer (some ⟨g', 0, none⟩)) ∧ SQ w' g' v1' v2' l m ∧ Fresh w w' ∧ ∀ k, foot g' v1' v2' k → w.heap.size ≤ k
theorem copy_any (g : Nat) (v1 v2 : Value) (l m : List Ev) (w : World) (h : SQ w g v1 v2 l m) (hl : l.length ≤ 100000) (hm : m.length ≤ 100000) :
    Calls Tryz.prog 58 #[.pointer (some ⟨g, 0, none⟩)] w (CopyP l m w) := by
  have H1 := Lib.hid (fun W (f : Fresh w W) => rclone_any g 0 v1 l W ((h.fresh f).blk.cell_ 0 rfl) (h.fresh f).own1 hl)
  have H2 := Lib.hid (fun W (f : Fresh w W) => rclone_any g 1 v2 m W ((h.fresh f).blk.cell_ 1 rfl) (h.fresh f).own2 hm)
  have S1 := Lib.hid h.s1
  have S2 := Lib.hid h.s2
  clear h
  go_enter Tryz.func58, Tryz.ntmps58
  go_wp2_with fail
  go_region_held3 (fun W' => Fresh w W') (exact (fun (f : Fresh w _) => f) (by (repeat (first | (with_reducible exact Keep.refl _ _) | (with_reducible assumption) | (with_reducible refine Keep.drew ?_) | (with_reducible refine Keep.drewN ?_ _) | (with_reducible refine Keep.alloc ?_ _) | (with_reducible refine Keep.setCell ?_ ?_ _) | (with_reducible refine fun _ => rfl)))))
    ((first
      | (go_at_call 103; (with_reducible refine (H1.out _ (by (repeat (first | (with_reducible exact Keep.refl _ _) | (with_reducible assumption) | (with_reducible refine Keep.drew ?_) | (with_reducible refine Keep.drewN ?_ _) | (with_reducible refine Keep.alloc ?_ _) | (with_reducible refine Keep.setCell ?_ ?_ _) | (with_reducible refine fun _ => rfl))))).mono ?_); rintro e1 w1 ⟨va, rfl, o1, f1, n1⟩; obtain ⟨Aa, ca, rfl, _, _⟩ := o1.shape; have fa := Keep.step (S := fun _ => False) (by (repeat (first | (with_reducible exact Keep.refl _ _) | (with_reducible assumption) | (with_reducible refine Keep.drew ?_) | (with_reducible refine Keep.drewN ?_ _) | (with_reducible refine Keep.alloc ?_ _) | (with_reducible refine Keep.setCell ?_ ?_ _) | (with_reducible refine fun _ => rfl))) : Fresh w _) f1 (fun _ _ h => h); have O1 := Lib.hid o1; have N1 := Lib.hid n1; have FA := Lib.hid fa; clear o1 n1)
      | (go_at_call 103; (with_reducible refine (H2.out _ (by (repeat (first | (with_reducible exact Keep.refl _ _) | (with_reducible assumption) | (with_reducible refine Keep.drew ?_) | (with_reducible refine Keep.drewN ?_ _) | (with_reducible refine Keep.alloc ?_ _) | (with_reducible refine Keep.setCell ?_ ?_ _) | (with_reducible refine fun _ => rfl))))).mono ?_); rintro e2 w2 ⟨vb, rfl, o2, f2, n2⟩; obtain ⟨Ab, cb, rfl, _, _⟩ := o2.shape; have fb := Keep.step (S := fun _ => False) (by (repeat (first | (with_reducible exact Keep.refl _ _) | (with_reducible assumption) | (with_reducible refine Keep.drew ?_) | (with_reducible refine Keep.drewN ?_ _) | (with_reducible refine Keep.alloc ?_ _) | (with_reducible refine Keep.setCell ?_ ?_ _) | (with_reducible refine fun _ => rfl))) : Fresh w _) f2 (fun _ _ h => h); have O2 := Lib.hid o2; have N2 := Lib.hid n2; have FB := Lib.hid fb; clear o2 n2)))
  have L1 : ∀ k, (Value.slice Aa l.length ca).ownBlock = some k → w.heap.size ≤ k ∧ k < w1.heap.size := fun k hk => ⟨N1.out k hk, O1.out.lt hk⟩
  have L2 : ∀ k, (Value.slice Ab m.length cb).ownBlock = some k → w1.heap.size ≤ k ∧ k < w2.heap.size := fun k hk => ⟨N2.out k hk, O2.out.lt hk⟩
  have L1 := Lib.hid L1
  have L2 := Lib.hid L2
  have z1 := FA.out.size
  have z2 := f2.size
  have F2 := Lib.hid f2
  clear f1 f2 fa fb
  go_wp2_with fail
  go_ret
  refine ⟨_, _, _, rfl, ⟨Blk.at_new rfl _ _, (O1.out.fresh F2.out).alloc _, O2.out.alloc _, S1.out, S2.out, fun h => ?_, fun h => ?_, fun k h1 h2 => ?_⟩, FB.out.alloc _, fun k hk => ?_⟩
  · have := L1.out _ h; omega
  · have := L2.out _ h; omega
  · have := L1.out _ h1; have := L2.out _ h2; omega
  · rcases hk with rfl | hk | hk
    · omega
    · exact (L1.out _ hk).1
    · have := L2.out _ hk; omega
end Go.Proofs.YthbcdkeammhakaaGreat

/-
  The law's Events: are two lists one?
-/
namespace Go.Proofs.YthbcdkeammhakaaGreat
open Go.RowKit
attribute [local go_sem ↓] Go.wp_at_zero Go.wp_at_succ
attribute [local go_sem ↓] run_eql_ev

theorem run_neq_ev (a s t n d k x a' s' t' n' d' k' x' : Int) (w : World) : (binOp .neq 41 (.agg #[.int .i64 a, .int .i64 s, .int .i64 t, .int .i64 n, .int .i64 d, .int .i64 k, .int .i64 x]) (.agg #[.int .i64 a', .int .i64 s', .int .i64 t', .int .i64 n', .int .i64 d', .int .i64 k', .int .i64 x'])).run Tryz.prog w = .ok (.bool (!(a == a' && (s == s' && (t == t' && (n == n' && (d == d' && (k == k' && x == x')))))))) w := by
  by_cases h1 : a = a'
  rotate_left
  · have h : (a == a') = false := by simpa using h1
    go_simp
  subst h1
  by_cases h1 : s = s'
  rotate_left
  · have h : (s == s') = false := by simpa using h1
    go_simp
  subst h1
  by_cases h1 : t = t'
  rotate_left
  · have h : (t == t') = false := by simpa using h1
    go_simp
  subst h1
  by_cases h1 : n = n'
  rotate_left
  · have h : (n == n') = false := by simpa using h1
    go_simp
  subst h1
  by_cases h1 : d = d'
  rotate_left
  · have h : (d == d') = false := by simpa using h1
    go_simp
  subst h1
  by_cases h1 : k = k'
  rotate_left
  · have h : (k == k') = false := by simpa using h1
    go_simp
  subst h1
  by_cases h1 : x = x'
  rotate_left
  · have h : (x == x') = false := by simpa using h1
    go_simp
  subst h1
  go_simp
attribute [local go_sem ↓] run_neq_ev
/-- a list's cells where they lie -/
def EvAt (W : World) (v : Value) (l : List Ev) : Prop :=
  ∃ A c, v = .slice A l.length c ∧ ∀ (i : Nat) (x : Ev), l[i]? = some x → ∃ b off, A = some ⟨b, off, none⟩ ∧ b < W.heap.size ∧ ∀ j u, x.enc[j]? = some u → W.cell? ⟨b, off + i * 7 + j, none⟩ = some u
theorem EvAt.fresh {w w' : World} {v : Value} {l : List Ev} (h : EvAt w v l) (f : Fresh w w') : EvAt w' v l := by
  obtain ⟨A, c, rfl, h⟩ := h
  refine ⟨A, c, rfl, fun i x hx => ?_⟩
  obtain ⟨b, off, e, lt, hh⟩ := h i x hx
  exact ⟨b, off, e, Nat.lt_of_lt_of_le lt f.size, fun j u hu => f.cell_ (hh j u hu)⟩
theorem OwnS.evs {w : World} {v : Value} {l : List Ev} (h : OwnS w 41 7 v l.length (cells l)) : EvAt w v l := by
  obtain ⟨A, c, rfl, _, _⟩ := h.shape
  refine ⟨A, c, rfl, fun i x hx => ?_⟩
  have hi := (List.getElem?_eq_some_iff.1 hx).1
  obtain ⟨g', off, cap', hv, hg, _, _, hc⟩ := h.form (by omega)
  injection hv with e1 e2 e3
  subst e1 e3
  refine ⟨g', off, rfl, hg, fun j u hu => ?_⟩
  obtain ⟨c0, c1, c2, c3, c4, c5, c6⟩ := cells_at l i x hx
  rw [show off + i * 7 + j = off + (i * 7 + j) by omega]
  refine hc _ _ ?_
  unfold Ev.enc at hu
  match j, hu with
  | 0, hu => simp at hu; subst hu; exact c0
  | 1, hu => simp at hu; subst hu; exact c1
  | 2, hu => simp at hu; subst hu; exact c2
  | 3, hu => simp at hu; subst hu; exact c3
  | 4, hu => simp at hu; subst hu; exact c4
  | 5, hu => simp at hu; subst hu; exact c5
  | 6, hu => simp at hu; subst hu; exact c6
  | j + 7, hu => simp at hu
set_option maxHeartbeats 1000000 in
set_option maxRecDepth 100000 in
theorem events_any (v u : Value) (l m : List Ev) (w : World) (hv : EvAt w v l) (hu : EvAt w u m) (hl : l.length ≤ 1000000) (_hm : m.length ≤ 1000000) :
    Calls Tryz.prog 17 #[v, u] w fun e w' => e = .returned (.bool (decide (l = m))) ∧ Fresh w w' := by
  obtain ⟨A, c, rfl, hv⟩ := hv
  obtain ⟨B, d, rfl, hu⟩ := hu
  generalize hfin : decide (l = m) = fin
  have FIN := Lib.hid hfin
  have HV := Lib.hid hv
  have HU := Lib.hid hu
  clear hfin hv hu
  by_cases hlen : l.length = m.length
  rotate_left
  · have t1 : ((l.length : Int) != (m.length : Int)) = true := by simp; omega
    have t2 : (l.length != m.length) = true := by simp; omega
    obtain rfl : fin = false := by rw [← FIN.out]; exact decide_eq_false (fun h => hlen (by rw [h]))
    go_enter Tryz.func17, Tryz.ntmps17
    go_wp2_with fail
    go_ret
    exact ⟨rfl, Keep.refl _ _⟩
  rw [← hlen]
  have HL := Lib.hid hlen
  clear hlen _hm
  go_enter Tryz.func17, Tryz.ntmps17
  go_wp2_with fail
  go_loopg [5] l.length (fun gk u5 wr => ∃ q : Nat, q ≤ l.length ∧ gk = l.length - q ∧ u5 = .int .i64 q ∧ l.take q = m.take q ∧ Fresh w wr)
  case atStart => exact ⟨0, by omega, rfl, rfl, rfl, Keep.refl _ _⟩
  case round =>
    obtain ⟨q, hq, rfl, rfl, hT, hF⟩ := hrel
    have HF := Lib.hid hF
    have HT := Lib.hid hT
    clear hF hT
    by_cases hlt : q < l.length
    · obtain ⟨x, hx⟩ : ∃ x, l[q]? = some x := ⟨_, List.getElem?_eq_getElem hlt⟩
      obtain ⟨y, hy⟩ : ∃ y, m[q]? = some y := ⟨_, List.getElem?_eq_getElem (by have := HL.out; omega)⟩
      obtain ⟨b0, off, rfl, lt0, hO⟩ := HV.out q x hx
      obtain ⟨b1, off1, rfl, lt1, hP⟩ := HU.out q y hy
      have x0 := HF.out.cell_ (hO 0 (.int .i64 x.a) rfl)
      have x1 := HF.out.cell_ (hO 1 (.int .i64 x.s) rfl)
      have x2 := HF.out.cell_ (hO 2 (.int .i64 x.t) rfl)
      have x3 := HF.out.cell_ (hO 3 (.int .i64 x.n) rfl)
      have x4 := HF.out.cell_ (hO 4 (.int .i64 x.d) rfl)
      have x5 := HF.out.cell_ (hO 5 (.int .i64 x.k) rfl)
      have x6 := HF.out.cell_ (hO 6 (.int .i64 x.x) rfl)
      have y0 := HF.out.cell_ (hP 0 (.int .i64 y.a) rfl)
      have y1 := HF.out.cell_ (hP 1 (.int .i64 y.s) rfl)
      have y2 := HF.out.cell_ (hP 2 (.int .i64 y.t) rfl)
      have y3 := HF.out.cell_ (hP 3 (.int .i64 y.n) rfl)
      have y4 := HF.out.cell_ (hP 4 (.int .i64 y.d) rfl)
      have y5 := HF.out.cell_ (hP 5 (.int .i64 y.k) rfl)
      have y6 := HF.out.cell_ (hP 6 (.int .i64 y.x) rfl)
      rw [Nat.add_zero] at x0 y0
      have lb0 : b0 < wr.heap.size := Nat.lt_of_lt_of_le lt0 HF.out.size
      have lb1 : b1 < wr.heap.size := Nat.lt_of_lt_of_le lt1 HF.out.size
      have HX := Lib.hid hx
      have HY := Lib.hid hy
      clear hO hP hx hy lt0 lt1
      cases hq : evB x y
      · have hf := Lib.hid (show fin = false by
          rw [← FIN.out]
          refine decide_eq_false (fun h => ?_)
          have h1 := HX.out
          rw [h, HY.out] at h1
          injection h1 with h1
          rw [(evB_iff x y).2 h1.symm] at hq
          cases hq)
        unfold evB at hq
        go_wp2_with fail
        go_quiet (fail)
        go_wp2_with fail
        obtain rfl := hf.out
        go_ret
        exact ⟨rfl, HF.out.drewN _⟩
      · have HT2 := Lib.hid (show l.take (q + 1) = m.take (q + 1) by
          rw [List.take_add_one, List.take_add_one, HT.out, HX.out, HY.out, (evB_iff x y).1 hq])
        unfold evB at hq
        go_wp2_with fail
        go_quiet (fail)
        go_wp2_with fail
        go_roundg (l.length - (q + 1))
        case measure => omega
        case rel => exact ⟨q + 1, by omega, rfl, by go_num, HT2.out, HF.out.drewN _⟩
    · obtain rfl : q = l.length := by omega
      have hf := Lib.hid (show fin = true by
        rw [← FIN.out]
        have h1 := HT.out
        rw [List.take_length, HL.out, List.take_length] at h1
        exact decide_eq_true h1)
      go_wp2_with fail
      obtain rfl := hf.out
      go_ret
      exact ⟨rfl, HF.out⟩
end Go.Proofs.YthbcdkeammhakaaGreat
