/- Chapter 13: PPut, IterKit, PIter, PEqE. -/
import Derived.Test.YthbcdkeammhakaaGreatP04
import Derived.RangeFuncNested
import Derived.RangeFuncBound
import Derived.RangeFuncCalls
import Derived.RangeFuncLeaves
import Derived.RangeFuncBox
import Derived.Shelf.Abstract
import Derived.Shelf.RegionOpen
import Derived.OwnWalkIn
import Derived.TacticsInMore
import Derived.LoopNIn
import Derived.LoopIn
set_option maxRecDepth 100000
set_option maxHeartbeats 16000000
namespace Go.Proofs.YthbcdkeammhakaaGreat
open Go.RowKit
attribute [local go_sem ↓] Go.wp_at_zero Go.wp_at_succ
structure SQ (w : World) (g : Nat) (v1 v2 : Value) (l m : List Ev) : Prop where
 blk : Blk w g 157 #[v1, v2]
 own1 : OwnS w 41 7 v1 l.length (cells l)
 own2 : OwnS w 41 7 v2 m.length (cells m)
 s1 : Srt l
 s2 : Srt m
 n1 : v1.ownBlock ≠ some g
 n2 : v2.ownBlock ≠ some g
 n12 : ∀ k, v1.ownBlock = some k → v2.ownBlock ≠ some k
def foot (g : Nat) (v1 v2 : Value) (k : Nat) : Prop := k = g ∨ v1.ownBlock = some k ∨ v2.ownBlock = some k
structure Turn (w w' : World) (g : Nat) (v1 v2 v1' v2' : Value) : Prop where
 keep : Keep (foot g v1 v2) w w'
 later : ∀ k, foot g v1' v2' k → foot g v1 v2 k ∨ w.heap.size ≤ k
section
variable {w w' : World} {g : Nat} {v1 v2 : Value} {l m : List Ev}
theorem SQ.kept {S : Nat → Prop} (h : SQ w g v1 v2 l m) (k : Keep S w w') (hS : ∀ i, foot g v1 v2 i → ¬ S i) : SQ w' g v1 v2 l m :=
 ⟨h.blk.keep k (hS g (.inl rfl)), h.own1.kept k (fun i hi => hS i (.inr (.inl hi))), h.own2.kept k (fun i hi => hS i (.inr (.inr hi))), h.s1, h.s2, h.n1, h.n2, h.n12⟩
theorem SQ.fresh (h : SQ w g v1 v2 l m) (k : Fresh w w') : SQ w' g v1 v2 l m := h.kept k (fun _ _ h => h)
theorem SQ.lt (h : SQ w g v1 v2 l m) (k : Nat) (hk : foot g v1 v2 k) : k < w.heap.size := by
 rcases hk with rfl | hk | hk
 ·exact h.blk.lt
 ·exact h.own1.lt hk
 ·exact h.own2.lt hk
theorem SQ.row0 {l' : List Ev} (h : SQ w g v1 v2 l m) (hr : RowP g 0 157 #[v1, v2] v1 l' w w') (hs : Srt l') : ∃ v1', SQ w' g v1' v2 l' m ∧ Turn w w' g v1 v2 v1' v2 := by
 obtain ⟨v', hb, ho, hk, hl⟩ := hr
 refine ⟨v', ⟨hb, ho, h.own2.kept hk (fun k h2 hh => ?_), hs, h.s2, fun hg => ?_, h.n2, fun k h1 h2 => ?_⟩, ⟨hk.more fun k _ hh => ?_, fun k hh => ?_⟩⟩
 ·rcases hh with rfl | hh
  ·exact h.n2 h2
  ·exact h.n12 k hh h2
 ·rcases hl _ hg with hh | hh
  ·exact h.n1 hh
  ·have := h.blk.lt; omega
 ·rcases hl _ h1 with hh | hh
  ·exact h.n12 k hh h2
  ·have := h.own2.lt h2; omega
 ·rcases hh with rfl | hh
  ·exact .inl rfl
  ·exact .inr (.inl hh)
 ·rcases hh with rfl | hh | hh
  ·exact .inl (.inl rfl)
  ·rcases hl _ hh with h3 | h3
   ·exact .inl (.inr (.inl h3))
   ·exact .inr h3
  ·exact .inl (.inr (.inr hh))
theorem SQ.row1 {l' : List Ev} (h : SQ w g v1 v2 l m) (hr : RowP g 1 157 #[v1, v2] v2 l' w w') (hs : Srt l') : ∃ v2', SQ w' g v1 v2' l l' ∧ Turn w w' g v1 v2 v1 v2' := by
 obtain ⟨v', hb, ho, hk, hl⟩ := hr
 refine ⟨v', ⟨hb, h.own1.kept hk (fun k h2 hh => ?_), ho, h.s1, hs, h.n1, fun hg => ?_, fun k h1 h2 => ?_⟩, ⟨hk.more fun k _ hh => ?_, fun k hh => ?_⟩⟩
 ·rcases hh with rfl | hh
  ·exact h.n1 h2
  ·exact h.n12 k h2 hh
 ·rcases hl _ hg with hh | hh
  ·exact h.n2 hh
  ·have := h.blk.lt; omega
 ·rcases hl _ h2 with hh | hh
  ·exact h.n12 k h1 hh
  ·have := h.own1.lt h1; omega
 ·rcases hh with rfl | hh
  ·exact .inl rfl
  ·exact .inr (.inr hh)
 ·rcases hh with rfl | hh | hh
  ·exact .inl (.inl rfl)
  ·exact .inl (.inr (.inl hh))
  ·rcases hl _ hh with h3 | h3
   ·exact .inl (.inr (.inr h3))
   ·exact .inr h3
end
theorem new_any (w : World) : Calls Tryz.prog 79 #[] w fun e w' => e = .returned (.pointer (some ⟨w.heap.size, 0, none⟩)) ∧ SQ w' w.heap.size (.slice none 0 0) (.slice none 0 0) [] [] ∧ Fresh w w' := by
 go_enter Tryz.func79, Tryz.ntmps79
 go_wp2
 go_ret
 exact ⟨rfl, ⟨Blk.at_new rfl _ _, ⟨rfl, .inl ⟨rfl, rfl⟩⟩, ⟨rfl, .inl ⟨rfl, rfl⟩⟩, List.Pairwise.nil, List.Pairwise.nil, by simp [Value.ownBlock], by simp [Value.ownBlock], fun k h => by simp [Value.ownBlock] at h⟩, by (repeat (first | (with_reducible exact Keep.refl _ _) | (with_reducible assumption) | (with_reducible refine Keep.drew ?_) | (with_reducible refine Keep.drewN ?_ _) | (with_reducible refine Keep.alloc ?_ _) | (with_reducible refine Keep.setCell ?_ ?_ _) | (with_reducible refine fun _ => rfl)))⟩
theorem len_any (g : Nat) (v1 v2 : Value) (l m : List Ev) (w : World) (h : SQ w g v1 v2 l m) : Calls Tryz.prog 66 #[.pointer (some ⟨g, 0, none⟩)] w fun e w' => e = .returned (.tuple #[.int .i64 l.length, .int .i64 m.length]) ∧ Fresh w w' := by
 have hc := h.blk.cell
 obtain ⟨A, cap, rfl, _, _⟩ := h.own1.shape
 obtain ⟨A', cap', rfl, _, _⟩ := h.own2.shape
 clear h
 go_enter Tryz.func66, Tryz.ntmps66
 go_wp2
 try go_quiet (fail)
 try go_wp2
 go_ret2
 exact ⟨rfl, by (repeat (first | (with_reducible exact Keep.refl _ _) | (with_reducible assumption) | (with_reducible refine Keep.drew ?_) | (with_reducible refine Keep.drewN ?_ _) | (with_reducible refine Keep.alloc ?_ _) | (with_reducible refine Keep.setCell ?_ ?_ _) | (with_reducible refine fun _ => rfl)))⟩
def putMet (l m : List Ev) (x : Ev) (an : Bool) : Bool := if an then has l x else has m x
def putL (l m : List Ev) (x : Ev) (an : Bool) : List Ev := if an then (if has l x then rem l x else l) else (if has m x then l else ins l x)
def putB (l m : List Ev) (x : Ev) (an : Bool) : List Ev := if an then (if has l x then m else ins m x) else (if has m x then rem m x else m)
def Ev.msg (x : Ev) (an : Bool) : Value := .agg #[.int .i64 x.a, .int .i64 x.s, .int .i64 x.t, .int .i64 x.n, .int .i64 x.d, .int .i64 x.k, .int .i64 x.x, .bool an]
theorem Turn.after {w W w' : World} {g : Nat} {v1 v2 v1' v2' : Value} (f : Fresh w W) (t : Turn W w' g v1 v2 v1' v2') : Turn w w' g v1 v2 v1' v2' :=
 ⟨(f.more (fun _ _ h => h.elim)).trans t.keep, fun k hk => by
  have := f.size
  rcases t.later k hk with h | h
  ·exact .inl h
  ·exact .inr (by omega)⟩
def TakP (g : Nat) (v1 v2 : Value) (_l _m l' m' : List Ev) (b : Bool) (W : World) (e : Ending) (w' : World) : Prop :=
 e = .returned (.bool b) ∧ Keep (foot g v1 v2) W w' ∧ ((b = true ∧ ∃ v1' v2', SQ w' g v1' v2' l' m' ∧ Turn W w' g v1 v2 v1' v2') ∨ (b = false ∧ Fresh W w'))
def PutP (g : Nat) (v1 v2 : Value) (l' m' : List Ev) (W : World) (e : Ending) (w' : World) : Prop :=
 e = .returned (.tuple #[]) ∧ ∃ v1' v2', SQ w' g v1' v2' l' m' ∧ Turn W w' g v1 v2 v1' v2'
section
variable {W : World} {g : Nat} {v1 v2 : Value} {l m : List Ev}
theorem q_undo (h : SQ W g v1 v2 l m) (x : Ev) (hl : l.length ≤ 100000) : Calls Tryz.prog 112 #[.pointer (some ⟨g, 0, none⟩), x.val] W (TakP g v1 v2 l m (rem l x) m (has l x) W) := by
 refine (undo_any g 0 _ _ v1 l x W h.blk rfl h.own1 h.s1 h.n1 hl).mono ?_
 rintro e w' ⟨rfl, ⟨h1, h2⟩ | ⟨h1, h2⟩⟩
 ·obtain ⟨v', hq, ht⟩ := h.row0 h2 (h.s1.rem_ x)
  exact ⟨rfl, ht.keep, .inl ⟨h1, _, _, hq, ht⟩⟩
 ·exact ⟨rfl, h2.more (fun _ _ h => h.elim), .inr ⟨h1, h2⟩⟩
theorem q_meet (h : SQ W g v1 v2 l m) (x : Ev) (hm : m.length ≤ 100000) : Calls Tryz.prog 113 #[.pointer (some ⟨g, 1, none⟩), x.val] W (TakP g v1 v2 l m l (rem m x) (has m x) W) := by
 refine (meet_any g 1 _ _ v2 m x W h.blk rfl h.own2 h.s2 h.n2 hm).mono ?_
 rintro e w' ⟨rfl, ⟨h1, h2⟩ | ⟨h1, h2⟩⟩
 ·obtain ⟨v', hq, ht⟩ := h.row1 h2 (h.s2.rem_ x)
  exact ⟨rfl, ht.keep, .inl ⟨h1, _, _, hq, ht⟩⟩
 ·exact ⟨rfl, h2.more (fun _ _ h => h.elim), .inr ⟨h1, h2⟩⟩
theorem q_come (h : SQ W g v1 v2 l m) (x : Ev) (hl : l.length ≤ 100000) : Calls Tryz.prog 115 #[.pointer (some ⟨g, 0, none⟩), x.val] W (PutP g v1 v2 (ins l x) m W) := by
 refine (come_any g 0 _ _ v1 l x W h.blk rfl h.own1 h.s1 h.n1 hl).mono ?_
 rintro e w' ⟨rfl, h2⟩
 obtain ⟨v', hq, ht⟩ := h.row0 h2 (h.s1.ins_ x)
 exact ⟨rfl, _, _, hq, ht⟩
theorem q_await (h : SQ W g v1 v2 l m) (x : Ev) (hm : m.length ≤ 100000) : Calls Tryz.prog 114 #[.pointer (some ⟨g, 1, none⟩), x.val] W (PutP g v1 v2 l (ins m x) W) := by
 refine (await_any g 1 _ _ v2 m x W h.blk rfl h.own2 h.s2 h.n2 hm).mono ?_
 rintro e w' ⟨rfl, h2⟩
 obtain ⟨v', hq, ht⟩ := h.row1 h2 (h.s2.ins_ x)
 exact ⟨rfl, _, _, hq, ht⟩
end
def TakB (g : Nat) (v1 v2 : Value) (l' m' : List Ev) (b : Bool) (w W : World) (e : Ending) (w' : World) : Prop :=
 e = .returned (.bool b) ∧ Keep (foot g v1 v2) W w' ∧ ((b = true ∧ ∃ v1' v2', SQ w' g v1' v2' l' m' ∧ Turn w w' g v1 v2 v1' v2') ∨ (b = false ∧ Fresh w w'))
theorem TakP.base {g : Nat} {v1 v2 : Value} {l m l' m' : List Ev} {b : Bool} {w W : World} (f : Fresh w W) {e : Ending} {w' : World} (h : TakP g v1 v2 l m l' m' b W e w') : TakB g v1 v2 l' m' b w W e w' := by
 obtain ⟨h1, h2, ⟨h3, v1', v2', hq, ht⟩ | ⟨h3, h4⟩⟩ := h
 ·exact ⟨h1, h2, .inl ⟨h3, v1', v2', hq, ht.after f⟩⟩
 ·exact ⟨h1, h2, .inr ⟨h3, f.step h4 (fun _ _ h => h)⟩⟩
theorem put_any (g : Nat) (v1 v2 : Value) (l m : List Ev) (x : Ev) (an : Bool) (w : World) (h : SQ w g v1 v2 l m) (hl : l.length ≤ 100000) (hm : m.length ≤ 100000) (ha : 0 ≤ x.a ∧ x.a ≤ 1073741824) :
  Calls Tryz.prog 68 #[.pointer (some ⟨g, 0, none⟩), x.msg an] w fun e w' => e = .returned (.tuple #[.bool (putMet l m x an), .int .i64 0]) ∧ ∃ v1' v2', SQ w' g v1' v2' (putL l m x an) (putB l m x an) ∧ Turn w w' g v1 v2 v1' v2' := by
 have HU : Hid (∀ W, Fresh w W → _) := Lib.hid fun W (f : Fresh w W) => (q_undo (h.fresh f) x hl).mono fun _ _ hh => TakP.base f hh
 have HM : Hid (∀ W, Fresh w W → _) := Lib.hid fun W (f : Fresh w W) => (q_meet (h.fresh f) x hm).mono fun _ _ hh => TakP.base f hh
 have HC : Hid (∀ W, Fresh w W → _) := Lib.hid fun W (f : Fresh w W) => q_come (h.fresh f) x hl
 have HA : Hid (∀ W, Fresh w W → _) := Lib.hid fun W (f : Fresh w W) => q_await (h.fresh f) x hm
 unfold Ev.val at HU HM HC HA
 unfold Ev.msg
 have H := Lib.hid h
 have lg := h.blk.lt
 have NF := Lib.hid (show ¬ foot g v1 v2 w.heap.size from fun hf => by have := h.lt _ hf; omega)
 clear h
 obtain ⟨ha1, ha2⟩ := ha
 have t1 : decide (x.a < 0) = false := decide_eq_false (by omega)
 have t2 : decide (1073741824 < x.a) = false := decide_eq_false (by omega)
 cases an
 ·cases hh : has m x
  ·rw [hh] at HM
   go_enter Tryz.func68, Tryz.ntmps68
   go_wp2_with fail
   have f0 : Fresh w (w.alloc (.cells #[.int .i64 x.a, .int .i64 x.s, .int .i64 x.t, .int .i64 x.n, .int .i64 x.d, .int .i64 x.k, .int .i64 x.x, .bool false] 43)) := (Keep.refl _ _).alloc _
   have b0 := Blk.new w 43 #[.int .i64 x.a, .int .i64 x.s, .int .i64 x.t, .int .i64 x.n, .int .i64 x.d, .int .i64 x.k, .int .i64 x.x, .bool false]
   obtain ⟨W0, hW0⟩ : ∃ W0, w.alloc (.cells #[.int .i64 x.a, .int .i64 x.s, .int .i64 x.t, .int .i64 x.n, .int .i64 x.d, .int .i64 x.k, .int .i64 x.x, .bool false] 43) = W0 := ⟨_, rfl⟩
   rw [hW0] at f0 b0 ⊢
   have c0 := b0.cell
   have F0 := Lib.hid f0
   have B0 := Lib.hid b0
   have dm := fun (W : World) (k : Keep (foot g v1 v2) W0 W) (i : Nat) => (B0.out.keep k NF.out).cell i
   have HX := Lib.hid (show ∀ W, Fresh W0 W → Fresh w W from fun W f => F0.out.step f (fun _ _ h => h))
   have KS := Lib.hid (show ∀ W, Fresh W0 W → Keep (foot g v1 v2) W0 W from fun W f => f.more (fun _ _ h => h.elim))
   clear f0 b0 hW0
   go_quiet (fail)
   go_wp2_with fail
   go_region_held3 (fun W' => Keep (foot g v1 v2) W0 W')
    (first
     | (with_reducible assumption)
     | exact KS.out _ (by (repeat (first | (with_reducible exact Keep.refl _ _) | (with_reducible assumption) | (with_reducible refine Keep.drew ?_) | (with_reducible refine Keep.drewN ?_ _) | (with_reducible refine Keep.alloc ?_ _) | (with_reducible refine Keep.setCell ?_ ?_ _) | (with_reducible refine fun _ => rfl)))))
    ((go_at_call 113; (with_reducible refine (HM.out _ (HX.out _ (by (repeat (first | (with_reducible exact Keep.refl _ _) | (with_reducible assumption) | (with_reducible refine Keep.drew ?_) | (with_reducible refine Keep.drewN ?_ _) | (with_reducible refine Keep.alloc ?_ _) | (with_reducible refine Keep.setCell ?_ ?_ _) | (with_reducible refine fun _ => rfl)))))).mono ?_); rintro e1 w1 ⟨rfl, k1, h1⟩; have k2 := (KS.out _ (by (repeat (first | (with_reducible exact Keep.refl _ _) | (with_reducible assumption) | (with_reducible refine Keep.drew ?_) | (with_reducible refine Keep.drewN ?_ _) | (with_reducible refine Keep.alloc ?_ _) | (with_reducible refine Keep.setCell ?_ ?_ _) | (with_reducible refine fun _ => rfl))))).trans k1))
   go_wp2_with fail
   rcases h1 with ⟨h1, _⟩ | ⟨_, h1⟩
   ·exact absurd h1 (by simp)
   have c9 := dm w1 k2
   have c10 := dm w1.drew k2.drew
   have FW := Lib.hid (Keep.drew h1)
   have HP := Lib.hid (HC.out _ FW.out)
   clear dm h1 k1 k2
   go_still_tail 5, (by kernel_rfl)
   repeat still_step
   try refine wpStill_nil ?_
   change wpList _ _ _ _ _ w1.drew
   go_wp2_with (go_at_call 115; (with_reducible refine HP.out.mono ?_); rintro e2 w2 ⟨rfl, v1', v2', hq, ht⟩)
   go_ret2
   exact ⟨by simp [putMet, hh], v1', v2', by simp only [putL, putB, hh, if_false, Bool.false_eq_true]; exact hq, ht.after FW.out⟩
  ·rw [hh] at HM
   go_enter Tryz.func68, Tryz.ntmps68
   go_wp2_with fail
   have f0 : Fresh w (w.alloc (.cells #[.int .i64 x.a, .int .i64 x.s, .int .i64 x.t, .int .i64 x.n, .int .i64 x.d, .int .i64 x.k, .int .i64 x.x, .bool false] 43)) := (Keep.refl _ _).alloc _
   have b0 := Blk.new w 43 #[.int .i64 x.a, .int .i64 x.s, .int .i64 x.t, .int .i64 x.n, .int .i64 x.d, .int .i64 x.k, .int .i64 x.x, .bool false]
   obtain ⟨W0, hW0⟩ : ∃ W0, w.alloc (.cells #[.int .i64 x.a, .int .i64 x.s, .int .i64 x.t, .int .i64 x.n, .int .i64 x.d, .int .i64 x.k, .int .i64 x.x, .bool false] 43) = W0 := ⟨_, rfl⟩
   rw [hW0] at f0 b0 ⊢
   have c0 := b0.cell
   have F0 := Lib.hid f0
   have B0 := Lib.hid b0
   have dm := fun (W : World) (k : Keep (foot g v1 v2) W0 W) (i : Nat) => (B0.out.keep k NF.out).cell i
   have HX := Lib.hid (show ∀ W, Fresh W0 W → Fresh w W from fun W f => F0.out.step f (fun _ _ h => h))
   have KS := Lib.hid (show ∀ W, Fresh W0 W → Keep (foot g v1 v2) W0 W from fun W f => f.more (fun _ _ h => h.elim))
   clear f0 b0 hW0
   go_quiet (fail)
   go_wp2_with fail
   go_region_held3 (fun W' => Keep (foot g v1 v2) W0 W')
    (first
     | (with_reducible assumption)
     | exact KS.out _ (by (repeat (first | (with_reducible exact Keep.refl _ _) | (with_reducible assumption) | (with_reducible refine Keep.drew ?_) | (with_reducible refine Keep.drewN ?_ _) | (with_reducible refine Keep.alloc ?_ _) | (with_reducible refine Keep.setCell ?_ ?_ _) | (with_reducible refine fun _ => rfl)))))
    ((go_at_call 113; (with_reducible refine (HM.out _ (HX.out _ (by (repeat (first | (with_reducible exact Keep.refl _ _) | (with_reducible assumption) | (with_reducible refine Keep.drew ?_) | (with_reducible refine Keep.drewN ?_ _) | (with_reducible refine Keep.alloc ?_ _) | (with_reducible refine Keep.setCell ?_ ?_ _) | (with_reducible refine fun _ => rfl)))))).mono ?_); rintro e1 w1 ⟨rfl, k1, h1⟩; have k2 := (KS.out _ (by (repeat (first | (with_reducible exact Keep.refl _ _) | (with_reducible assumption) | (with_reducible refine Keep.drew ?_) | (with_reducible refine Keep.drewN ?_ _) | (with_reducible refine Keep.alloc ?_ _) | (with_reducible refine Keep.setCell ?_ ?_ _) | (with_reducible refine fun _ => rfl))))).trans k1))
   go_wp2_with fail
   rcases h1 with ⟨_, v1', v2', hq, ht⟩ | ⟨h1, _⟩
   ·go_ret2
    exact ⟨by simp [putMet, hh], v1', v2', by simp only [putL, putB, hh, if_true, if_false, Bool.false_eq_true]; exact hq, ht⟩
   ·exact absurd h1 (by simp)
 ·cases hh : has l x
  ·rw [hh] at HU
   go_enter Tryz.func68, Tryz.ntmps68
   go_wp2_with fail
   have f0 : Fresh w (w.alloc (.cells #[.int .i64 x.a, .int .i64 x.s, .int .i64 x.t, .int .i64 x.n, .int .i64 x.d, .int .i64 x.k, .int .i64 x.x, .bool true] 43)) := (Keep.refl _ _).alloc _
   have b0 := Blk.new w 43 #[.int .i64 x.a, .int .i64 x.s, .int .i64 x.t, .int .i64 x.n, .int .i64 x.d, .int .i64 x.k, .int .i64 x.x, .bool true]
   obtain ⟨W0, hW0⟩ : ∃ W0, w.alloc (.cells #[.int .i64 x.a, .int .i64 x.s, .int .i64 x.t, .int .i64 x.n, .int .i64 x.d, .int .i64 x.k, .int .i64 x.x, .bool true] 43) = W0 := ⟨_, rfl⟩
   rw [hW0] at f0 b0 ⊢
   have c0 := b0.cell
   have F0 := Lib.hid f0
   have B0 := Lib.hid b0
   have dm := fun (W : World) (k : Keep (foot g v1 v2) W0 W) (i : Nat) => (B0.out.keep k NF.out).cell i
   have HX := Lib.hid (show ∀ W, Fresh W0 W → Fresh w W from fun W f => F0.out.step f (fun _ _ h => h))
   have KS := Lib.hid (show ∀ W, Fresh W0 W → Keep (foot g v1 v2) W0 W from fun W f => f.more (fun _ _ h => h.elim))
   clear f0 b0 hW0
   go_region_held3 (fun W' => Keep (foot g v1 v2) W0 W')
    (first
     | (with_reducible assumption)
     | exact KS.out _ (by (repeat (first | (with_reducible exact Keep.refl _ _) | (with_reducible assumption) | (with_reducible refine Keep.drew ?_) | (with_reducible refine Keep.drewN ?_ _) | (with_reducible refine Keep.alloc ?_ _) | (with_reducible refine Keep.setCell ?_ ?_ _) | (with_reducible refine fun _ => rfl)))))
    ((go_at_call 112; (with_reducible refine (HU.out _ (HX.out _ (by (repeat (first | (with_reducible exact Keep.refl _ _) | (with_reducible assumption) | (with_reducible refine Keep.drew ?_) | (with_reducible refine Keep.drewN ?_ _) | (with_reducible refine Keep.alloc ?_ _) | (with_reducible refine Keep.setCell ?_ ?_ _) | (with_reducible refine fun _ => rfl)))))).mono ?_); rintro e1 w1 ⟨rfl, k1, h1⟩; have k2 := (KS.out _ (by (repeat (first | (with_reducible exact Keep.refl _ _) | (with_reducible assumption) | (with_reducible refine Keep.drew ?_) | (with_reducible refine Keep.drewN ?_ _) | (with_reducible refine Keep.alloc ?_ _) | (with_reducible refine Keep.setCell ?_ ?_ _) | (with_reducible refine fun _ => rfl))))).trans k1))
   go_wp2_with fail
   rcases h1 with ⟨h1, _⟩ | ⟨_, h1⟩
   ·exact absurd h1 (by simp)
   have c9 := dm w1 k2
   go_wp2_with fail
   go_quiet (fail)
   go_wp2_with fail
   obtain ⟨wy, hwy⟩ : ∃ y, w1.drewN nq = y := ⟨_, rfl⟩
   rw [hwy]
   have k2 : Keep (foot g v1 v2) W0 wy := hwy ▸ Keep.drewN k2 _
   have h1 : Fresh w wy := hwy ▸ Keep.drewN h1 _
   clear c9 hwy
   have c9 := dm wy k2
   have c10 := dm wy.drew k2.drew
   have FW := Lib.hid (Keep.drew h1)
   have HP := Lib.hid (HA.out _ FW.out)
   clear dm h1 k1 k2
   go_still_tail 5, (by kernel_rfl)
   repeat still_step
   try refine wpStill_nil ?_
   change wpList _ _ _ _ _ wy.drew
   go_wp2_with (go_at_call 114; (with_reducible refine HP.out.mono ?_); rintro e2 w2 ⟨rfl, v1', v2', hq, ht⟩)
   go_ret2
   exact ⟨by simp [putMet, hh], v1', v2', by simp only [putL, putB, hh, if_true, if_false, Bool.false_eq_true]; exact hq, ht.after FW.out⟩
  ·rw [hh] at HU
   go_enter Tryz.func68, Tryz.ntmps68
   go_wp2_with fail
   have f0 : Fresh w (w.alloc (.cells #[.int .i64 x.a, .int .i64 x.s, .int .i64 x.t, .int .i64 x.n, .int .i64 x.d, .int .i64 x.k, .int .i64 x.x, .bool true] 43)) := (Keep.refl _ _).alloc _
   have b0 := Blk.new w 43 #[.int .i64 x.a, .int .i64 x.s, .int .i64 x.t, .int .i64 x.n, .int .i64 x.d, .int .i64 x.k, .int .i64 x.x, .bool true]
   obtain ⟨W0, hW0⟩ : ∃ W0, w.alloc (.cells #[.int .i64 x.a, .int .i64 x.s, .int .i64 x.t, .int .i64 x.n, .int .i64 x.d, .int .i64 x.k, .int .i64 x.x, .bool true] 43) = W0 := ⟨_, rfl⟩
   rw [hW0] at f0 b0 ⊢
   have c0 := b0.cell
   have F0 := Lib.hid f0
   have B0 := Lib.hid b0
   have dm := fun (W : World) (k : Keep (foot g v1 v2) W0 W) (i : Nat) => (B0.out.keep k NF.out).cell i
   have HX := Lib.hid (show ∀ W, Fresh W0 W → Fresh w W from fun W f => F0.out.step f (fun _ _ h => h))
   have KS := Lib.hid (show ∀ W, Fresh W0 W → Keep (foot g v1 v2) W0 W from fun W f => f.more (fun _ _ h => h.elim))
   clear f0 b0 hW0
   go_region_held3 (fun W' => Keep (foot g v1 v2) W0 W')
    (first
     | (with_reducible assumption)
     | exact KS.out _ (by (repeat (first | (with_reducible exact Keep.refl _ _) | (with_reducible assumption) | (with_reducible refine Keep.drew ?_) | (with_reducible refine Keep.drewN ?_ _) | (with_reducible refine Keep.alloc ?_ _) | (with_reducible refine Keep.setCell ?_ ?_ _) | (with_reducible refine fun _ => rfl)))))
    ((go_at_call 112; (with_reducible refine (HU.out _ (HX.out _ (by (repeat (first | (with_reducible exact Keep.refl _ _) | (with_reducible assumption) | (with_reducible refine Keep.drew ?_) | (with_reducible refine Keep.drewN ?_ _) | (with_reducible refine Keep.alloc ?_ _) | (with_reducible refine Keep.setCell ?_ ?_ _) | (with_reducible refine fun _ => rfl)))))).mono ?_); rintro e1 w1 ⟨rfl, k1, h1⟩; have k2 := (KS.out _ (by (repeat (first | (with_reducible exact Keep.refl _ _) | (with_reducible assumption) | (with_reducible refine Keep.drew ?_) | (with_reducible refine Keep.drewN ?_ _) | (with_reducible refine Keep.alloc ?_ _) | (with_reducible refine Keep.setCell ?_ ?_ _) | (with_reducible refine fun _ => rfl))))).trans k1))
   go_wp2_with fail
   rcases h1 with ⟨_, v1', v2', hq, ht⟩ | ⟨h1, _⟩
   ·go_ret2
    exact ⟨by simp [putMet, hh], v1', v2', by simp only [putL, putB, hh, if_true]; exact hq, ht⟩
   ·exact absurd h1 (by simp)
end Go.Proofs.YthbcdkeammhakaaGreat
namespace Go.Proofs.YthbcdkeammhakaaGreat
open Go.RowKit Go.Shelf
theorem wpListIn_append_OwnS {F : Fence} {nF : Nat} {P : Program} (w : World) {ops : Array Oper} {rest : List Oper} {o : Oper} {a : Act} {Q : Exit → Act → World → Prop} (hgd : o.guard = none) (s x : Operand) (t : TypeId)
  (ho : o.op = Op.call { callee := Callee.builtin Builtin.append, args := #[s, x], argTypes := #[t, t] })
  (e : TypeId) (i : TypeInfo) (z : Value) (size bytes : Nat) (ht : P.underlying t = some (.slice e)) (hi : P.info? e = some i) (hz : i.zero = some z)
  (hsize : i.size = size) (hby : i.bytes = bytes) (hzs : z.cells.size = size) (hsz : 0 < size)
  (v : Value) (n : Nat) (xs : List Value) (hs : a.eval s = v) (hown : OwnS w e size v n xs)
  (sv : Value) (m : Nat) (news : List Value) (hx : a.eval x = sv) (hr : Src w size sv m news) (h1 : ∀ u ∈ news, u.oneCell' = true)
  (h63 : n + m ≤ maxLen) (hbytes : (n + m) * bytes ≤ 140737488355328)
  (hK : ∀ v' w', OwnS w' e size v' (n + m) (xs ++ news) → Keep (fun k => v.ownBlock = some k) w w' → (∀ k, v'.ownBlock = some k → v.ownBlock = some k ∨ w.heap.size ≤ k) → wpListIn F nF P ops Q rest (a.put o.dst v') w') : wpListIn F nF P ops Q (o :: rest) a w := by
 refine wpListIn_plain hgd fun K hK' => ?_
 obtain ⟨v', w', hrun, h2, h3, h4⟩ := run_append_OwnS (P := P) w t o.type e i z size bytes ht hi hz hsize hby hzs hsz v n xs hown sv m news hr h1 h63 hbytes
 unfold Oper.wpIn
 refine ⟨?_, ?_⟩
 ·simp [Oper.about, ho, resolve, Target.leads, Sem.run_pure]
 ·rw [Oper.semAt_plain F _ _ (by rw [ho]; intro c hc'; cases hc')]
  simp [execOp, ho, resolve, invoke, builtin, hs, hx, hrun, Result.andThen]
  exact hK' _ _ (hK v' w' h2 h3 h4)
theorem blk_grown {X Y : World} {row : Option Nat} {g : Nat} {t : TypeId} {cs : Array Value} (h : Blk X g t cs) (hg : X.grownBy Y row) (hr : ∀ r, row = some r → ∃ o : Obj, X.heap[r]? = some o ∧ o.isCells = false) : Blk Y g t cs :=
 (hg.block g h.lt (fun e => by
  obtain ⟨o, ho, hc⟩ := hr g e.symm
  unfold Blk at h
  rw [h] at ho
  injection ho with ho
  subst ho
  cases hc)).trans h
theorem ownS_grown {X Y : World} {row : Option Nat} {e : TypeId} {size n : Nat} {v : Value} {xs : List Value} (h : OwnS X e size v n xs) (hg : X.grownBy Y row) (hr : ∀ r, row = some r → ∃ o : Obj, X.heap[r]? = some o ∧ o.isCells = false) : OwnS Y e size v n xs := by
 refine h.kept (S := fun k => row = some k) (Keep.of_grown hg (fun k hk _ => hk)) (fun k hk hrow => ?_)
 obtain ⟨o, ho, hc⟩ := hr k hrow
 rcases h.2 with ⟨rfl, _⟩ | ⟨g, off, cap, cur, rfl, hh, _⟩
 ·simp [Value.ownBlock] at hk
 ·simp [Value.ownBlock] at hk
  subst hk
  rw [hh] at ho
  injection ho with ho
  subst ho
  cases hc
theorem keepsOthers_of_keep {X Y : World} {S : Nat → Prop} (h : Keep S X Y) (hS : ∀ k (o : Obj), S k → X.heap[k]? = some o → o.isCells = true) : KeepsOthers X Y :=
 ⟨h.size, fun k o hk ho => (h.block k (Array.getElem?_eq_some_iff.1 hk).1 (fun hs => by rw [hS k o hs hk] at ho; cases ho)).trans hk⟩
theorem ownFrom_fresh {β : Type} {B : Nat} {w₀ : World} (hB : w₀.heap.size ≤ B) : OwnFrom B (fun (_ : β) W => Fresh w₀ W) :=
 fun _ X Y row hs hg hr => ⟨hg.os.trans hs.os, hg.tape.trans hs.tape, hg.output.trans hs.output, Nat.le_trans hs.size hg.size, fun k hk _ =>
  (hg.block k (Nat.lt_of_lt_of_le hk hs.size) (fun e => by have := (hr k e.symm).1; omega)).trans (hs.block k hk (fun h => h))⟩
def KeepsB (g : Nat) (e : TypeId) (A B : World) : Prop := A.heap.size ≤ B.heap.size ∧ ∀ cur, A.heap[g]? = some (.cells cur e (0, 0)) → B.heap[g]? = some (.cells cur e (0, 0))
theorem KeepsB.refl (g : Nat) (e : TypeId) (A : World) : KeepsB g e A A := ⟨Nat.le_refl _, fun _ h => h⟩
theorem KeepsB.trans {g : Nat} {e : TypeId} {A B C : World} (h : KeepsB g e A B) (k : KeepsB g e B C) : KeepsB g e A C := ⟨Nat.le_trans h.1 k.1, fun c hc => k.2 c (h.2 c hc)⟩
theorem KeepsB.of_keep {g : Nat} {e : TypeId} {A B : World} {S : Nat → Prop} (h : Keep S A B) (hg : ¬ S g) : KeepsB g e A B := ⟨h.size, fun _ hc => (h.block g (Array.getElem?_eq_some_iff.1 hc).1 hg).trans hc⟩
theorem KeepsB.alloc {g : Nat} {e : TypeId} {A B : World} (h : KeepsB g e A B) (o : Obj) : KeepsB g e A (B.alloc o) := h.trans (KeepsB.of_keep ((Keep.refl (fun _ => False) B).alloc o) (fun h => h))
theorem keepsB_b {g : Nat} {e : TypeId} {B : Nat} : ∀ (W : World) (l : Nat) (o o' : Obj), B ≤ l → W.heap[l]? = some o → o.isCells = false → o.isWalk = false → KeepsB g e W (W.putObj l o') := fun W l o o' _ hl ho _ => by
 have hg := grownBy_putObj' W l o'
 refine ⟨hg.size, fun c hc => (hg.block g (Array.getElem?_eq_some_iff.1 hc).1 (fun h => ?_)).trans hc⟩
 injection h with h
 subst h
 rw [hl] at hc
 injection hc with hc
 subst hc
 cases ho
theorem OwnS.keepsB {A B : World} {e : TypeId} {size n g off cap : Nat} {xs : List Value} (h : OwnS A e size (.slice (some ⟨g, off, none⟩) n cap) n xs) (hk : KeepsB g e A B) : OwnS B e size (.slice (some ⟨g, off, none⟩) n cap) n xs := by
 obtain ⟨hl, h⟩ := h
 rcases h with ⟨h0, _⟩ | ⟨g1, off1, cap1, cur, hv, hg, r⟩
 ·cases h0
 ·injection hv with hv1 hv2 hv3
  injection hv1 with hv1
  injection hv1 with e1 e2 _
  subst e1 e2 hv3
  exact ⟨hl, .inr ⟨_, _, _, cur, rfl, hk.2 cur hg, r⟩⟩
theorem keepsB_t {g : Nat} {e : TypeId} {A B C : World} : KeepsB g e A B → KeepsB g e B C → KeepsB g e A C := KeepsB.trans
theorem KeepsB.of_keep' {g : Nat} {e : TypeId} {A B : World} {S : Nat → Prop} (h : Keep S A B) (hg : ∀ cur, A.heap[g]? = some (.cells cur e (0, 0)) → ¬ S g) : KeepsB g e A B := ⟨h.size, fun c hc => (h.block g (Array.getElem?_eq_some_iff.1 hc).1 (hg c hc)).trans hc⟩
theorem own_isCells {W : World} {e : TypeId} {size n : Nat} {v : Value} {xs : List Value} (h : OwnS W e size v n xs) {k : Nat} {o : Obj} (hk : v.ownBlock = some k) (ho : W.heap[k]? = some o) : o.isCells = true := by
 rcases h.2 with ⟨rfl, _⟩ | ⟨g, off, cap, cur, rfl, hh, _⟩
 ·simp [Value.ownBlock] at hk
 ·simp [Value.ownBlock] at hk
  subst hk
  rw [hh] at ho
  injection ho with ho
  subst ho
  rfl
theorem blk_isCells {W : World} {g : Nat} {t : TypeId} {cs : Array Value} {o : Obj} (h : Blk W g t cs) (ho : W.heap[g]? = some o) : o.isCells = true := by
 unfold Blk at h
 rw [h] at ho
 injection ho with ho
 subst ho
 rfl
end Go.Proofs.YthbcdkeammhakaaGreat
namespace Go.Proofs.YthbcdkeammhakaaGreat
open Go.RowKit Go.Shelf
attribute [local go_sem] Oper.semAt_some
def enc (p : Ev) : Array Value := #[p.val]
def bk (v : Value) : Nat := v.ownBlock.getD 0
theorem OwnS.keepsV {A B : World} {e : TypeId} {size n : Nat} {v : Value} {xs : List Value} (h : OwnS A e size v n xs) (hk : KeepsB (bk v) e A B) : OwnS B e size v n xs := by
 rcases h.2 with ⟨rfl, rfl⟩ | ⟨g, off, cap, cur, rfl, _⟩
 ·exact ⟨h.1, .inl ⟨rfl, rfl⟩⟩
 ·exact OwnS.keepsB h hk
theorem vals1_in (F : Fence) (n : Nat) (hF : F.fn 143) (hro : F.round = none) (hn : 1 ≤ n) (lp bx : Nat) (v : Value) (l : List Ev) (hlen : l.length ≤ 100000) (J Jx : List Ev → World → Prop)
  (hJ : ∀ pre W (o : Obj), J pre W → J pre (W.alloc o))
  (hY : ∀ pre (x : Ev) W, J pre W → pre.length < l.length → YieldAt F (n - 1) Tryz.prog lp (enc x) W fun e W' =>
   (e = .returned (.bool true) ∧ J (pre ++ [x]) W' ∧ KeepsB (bk v) 41 W W') ∨ (e = .returned (.bool false) ∧ Jx (pre ++ [x]) W'))
  (W : World) (hb : W.cell? ⟨bx, 0, none⟩ = some v) (ho : OwnS W 41 7 v l.length (cells l)) (h0 : J [] W) :
  CallsIn F n Tryz.prog 143 #[.func (.yield lp) #[] #[], .pointer (some ⟨bx, 0, none⟩)] W fun e W' => (∃ v, e = .returned v) ∧
   ((∃ ys, ys = l ∧ J ys W') ∨ (∃ pre, pre <+: l ∧ Jx pre W')) := by
 obtain ⟨A, cap, rfl, hnc, hmc⟩ := ho.shape
 have hmc : cap ≤ 9223372036854775807 := by unfold maxLen at hmc; omega
 obtain ⟨g', hg'⟩ : ∃ g', bk (.slice A l.length cap) = g' := ⟨_, rfl⟩
 rw [hg'] at hY
 have HG := Lib.hid hg'
 clear hg'
 refine callsIn_of_wp Tryz.func143 rfl hF ?_ hro
 simp only [Tryz.ntmps143, List.size_toArray, List.length_cons, List.length_nil, Nat.reduceAdd, Nat.reduceSub, Array.replicate_succ, Array.replicate_zero, List.push_toArray, List.append_toArray, List.nil_append, List.cons_append]
 have HC := Lib.hid ho
 clear ho
 gi_wp2
 gi_loopw [7] (fun i wr => ∃ k : Nat, k ≤ l.length ∧ i = .int .i64 k ∧ J (l.take k) wr ∧ KeepsB g' 41 W wr)
  (fun i _ => l.length - (intOf i).toNat)
 case atStart => exact ⟨0, Nat.zero_le _, rfl, by simpa using h0, KeepsB.refl _ _ _⟩
 case round =>
  obtain ⟨k, hk, rfl, hJs, hnx⟩ := hrel
  by_cases hlt : k < l.length
  ·obtain ⟨s, hs⟩ : ∃ s, l[k]? = some s := ⟨_, List.getElem?_eq_getElem hlt⟩
   have htake : l.take k ++ [s] = l.take (k + 1) := by rw [List.take_add_one, hs]; rfl
   obtain ⟨g1, off, _, hv, hgl, _, _, hc⟩ := (OwnS.keepsV HC.out (HG.out.symm ▸ hnx)).form (by omega)
   injection hv with hv1 hv2 hv3
   subst hv1 hv3
   obtain ⟨c0, c1, c2, c3, c4, c5, c6⟩ := cells_at l k s hs
   have c0 := hc _ _ c0
   have c1 := hc _ _ c1
   have c2 := hc _ _ c2
   have c3 := hc _ _ c3
   have c4 := hc _ _ c4
   have c5 := hc _ _ c5
   have c6 := hc _ _ c6
   rw [← Nat.add_assoc] at c1 c2 c3 c4 c5 c6
   obtain ⟨fn, tmps, assign, body, hy, hR⟩ := hY _ s _ (hJ _ _ (.cells #[.int .i64 s.a, .int .i64 s.s, .int .i64 s.t, .int .i64 s.n, .int .i64 s.d, .int .i64 s.k, .int .i64 s.x] 41) hJs) (by rw [List.length_take]; omega)
   have hnx2 : KeepsB g' 41 W (wr.alloc (.cells #[.int .i64 s.a, .int .i64 s.s, .int .i64 s.t, .int .i64 s.n, .int .i64 s.d, .int .i64 s.k, .int .i64 s.x] 41)) := hnx.alloc _
   have HX := Lib.hid hnx2
   have HT := Lib.hid htake
   clear hnx hnx2 htake hs hJs hc
   unfold enc Ev.val at hy
   gi_wp2
   refine hR.mono ?_
   rintro e W3 (⟨rfl, hJ3, hk3⟩ | ⟨rfl, hJx3⟩)
   ·have HJ := Lib.hid hJ3
    have HK := Lib.hid hk3
    clear hJ3 hk3
    gi_wp2
    go_roundw
    case rel => exact ⟨k + 1, by omega, by simp, by rw [← HT.out]; exact HJ.out, HX.out.trans HK.out⟩
    case measure => simp [intOf]; omega
   ·have HJ := Lib.hid hJx3
    clear hJx3
    gi_wp2
    refine bodyPost_ret (results_none rfl _ _ _) rfl ?_
    exact ⟨⟨_, rfl⟩, .inr ⟨_, by rw [HT.out]; exact List.take_prefix _ _, HJ.out⟩⟩
  ·obtain rfl : k = l.length := by omega
   have HJ := Lib.hid hJs
   clear hJs
   gi_wp2
   go_end0
   exact ⟨⟨_, rfl⟩, .inl ⟨_, List.take_length, HJ.out⟩⟩
theorem vals_stops (F : Fence) (n : Nat) (hF : F.fn 143) (hro : F.round = none) (hn : 1 ≤ n) (bx : Nat) (v : Value) (l : List Ev) (hlen : l.length ≤ 100000) (w : World)
  (hb : Blk w bx 24 #[v]) (ho : OwnS w 41 7 v l.length (cells l)) :
  SeqStopsK F n Tryz.prog 143 #[.pointer (some ⟨bx, 0, none⟩)] enc (KeepsB (bk v) 41) (fun ys => ys = l) (fun pre => pre <+: l) l.length w := fun lp J Jx W hW hJ hJx hY h0 => by
 have hbW := hb.below hW hb.lt
 have hoW : OwnS W 41 7 v l.length (cells l) := ho.kept (Keep.of_below (S := fun _ => False) hW (fun k h1 h2 => by omega)) (fun _ _ h => h)
 exact vals1_in F n hF hro hn lp bx v l hlen J Jx (fun pre X o hs => hJ pre X _ none hs (World.grownBy_alloc X o none) (fun r e => by cases e)) hY W (hbW.cell_ 0 rfl) hoW h0
end Go.Proofs.YthbcdkeammhakaaGreat
namespace Go.Proofs.YthbcdkeammhakaaGreat
open Go.RowKit
def evB (p q : Ev) : Bool := p.a == q.a && (p.s == q.s && (p.t == q.t && (p.n == q.n && (p.d == q.d && (p.k == q.k && p.x == q.x)))))
theorem evB_iff (p q : Ev) : evB p q = true ↔ p = q := by
 cases p; cases q
 simp [evB]
theorem run_eql_ev (a s t n d k x a' s' t' n' d' k' x' : Int) (w : World) : (binOp .eql 41 (.agg #[.int .i64 a, .int .i64 s, .int .i64 t, .int .i64 n, .int .i64 d, .int .i64 k, .int .i64 x]) (.agg #[.int .i64 a', .int .i64 s', .int .i64 t', .int .i64 n', .int .i64 d', .int .i64 k', .int .i64 x'])).run Tryz.prog w = .ok (.bool (a == a' && (s == s' && (t == t' && (n == n' && (d == d' && (k == k' && x == x'))))))) w := by
 by_cases h1 : a = a'
 rotate_left
 ·have h : (a == a') = false := by simpa using h1
  go_simp
 subst h1
 by_cases h1 : s = s'
 rotate_left
 ·have h : (s == s') = false := by simpa using h1
  go_simp
 subst h1
 by_cases h1 : t = t'
 rotate_left
 ·have h : (t == t') = false := by simpa using h1
  go_simp
 subst h1
 by_cases h1 : n = n'
 rotate_left
 ·have h : (n == n') = false := by simpa using h1
  go_simp
 subst h1
 by_cases h1 : d = d'
 rotate_left
 ·have h : (d == d') = false := by simpa using h1
  go_simp
 subst h1
 by_cases h1 : k = k'
 rotate_left
 ·have h : (k == k') = false := by simpa using h1
  go_simp
 subst h1
 by_cases h1 : x = x'
 rotate_left
 ·have h : (x == x') = false := by simpa using h1
  go_simp
 subst h1
 go_simp
end Go.Proofs.YthbcdkeammhakaaGreat
