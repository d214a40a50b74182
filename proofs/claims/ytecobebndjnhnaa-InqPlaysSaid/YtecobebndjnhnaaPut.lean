/-
  inq.Queue: New, Put, Len.
-/
import Derived.Test.YtecobebndjnhnaaQueue
namespace Go.Proofs.Ytecobebndjnhnaa
open Go.RowKit
attribute [local go_sem ↓] Go.wp_at_zero Go.wp_at_succ

/-- A queue where it lies. -/
structure SQ (w : World) (g : Nat) (v1 v2 : Value) (l m : List Ev) : Prop where
  blk : Blk w g 79 #[v1, v2]
  own1 : OwnS w 25 7 v1 l.length (cells l)
  own2 : OwnS w 25 7 v2 m.length (cells m)
  s1 : Srt l
  s2 : Srt m
  n1 : v1.ownBlock ≠ some g
  n2 : v2.ownBlock ≠ some g
  n12 : ∀ k, v1.ownBlock = some k → v2.ownBlock ≠ some k
def foot (g : Nat) (v1 v2 : Value) (k : Nat) : Prop := k = g ∨ v1.ownBlock = some k ∨ v2.ownBlock = some k
/-- what may have turned, and where it lies now -/
structure Turn (w w' : World) (g : Nat) (v1 v2 v1' v2' : Value) : Prop where
  keep : Keep (foot g v1 v2) w w'
  later : ∀ k, foot g v1' v2' k → foot g v1 v2 k ∨ w.heap.size ≤ k
section
variable {w w' : World} {g : Nat} {v1 v2 : Value} {l m : List Ev}
theorem SQ.kept {S : Nat → Prop} (h : SQ w g v1 v2 l m) (k : Keep S w w') (hS : ∀ i, foot g v1 v2 i → ¬ S i) : SQ w' g v1 v2 l m :=
  ⟨h.blk.keep k (hS g (.inl rfl)), h.own1.kept k (fun i hi => hS i (.inr (.inl hi))), h.own2.kept k (fun i hi => hS i (.inr (.inr hi))), h.s1, h.s2, h.n1, h.n2, h.n12⟩
theorem SQ.fresh (h : SQ w g v1 v2 l m) (k : Fresh w w') : SQ w' g v1 v2 l m := h.kept k (fun _ _ h => h)
theorem SQ.lt (h : SQ w g v1 v2 l m) (k : Nat) (hk : foot g v1 v2 k) : k < w.heap.size := by
  rcases hk with rfl | hk | hk
  · exact h.blk.lt
  · exact h.own1.lt hk
  · exact h.own2.lt hk
theorem Turn.fresh (f : Fresh w w') : Turn w w' g v1 v2 v1 v2 := ⟨f.more (fun _ _ h => h.elim), fun _ h => .inl h⟩
theorem SQ.row0 {l' : List Ev} (h : SQ w g v1 v2 l m) (hr : RowP g 0 79 #[v1, v2] v1 l' w w') (hs : Srt l') : ∃ v1', SQ w' g v1' v2 l' m ∧ Turn w w' g v1 v2 v1' v2 := by
  obtain ⟨v', hb, ho, hk, hl⟩ := hr
  refine ⟨v', ⟨hb, ho, h.own2.kept hk (fun k h2 hh => ?_), hs, h.s2, fun hg => ?_, h.n2, fun k h1 h2 => ?_⟩, ⟨hk.more fun k _ hh => ?_, fun k hh => ?_⟩⟩
  · rcases hh with rfl | hh
    · exact h.n2 h2
    · exact h.n12 k hh h2
  · rcases hl _ hg with hh | hh
    · exact h.n1 hh
    · have := h.blk.lt; omega
  · rcases hl _ h1 with hh | hh
    · exact h.n12 k hh h2
    · have := h.own2.lt h2; omega
  · rcases hh with rfl | hh
    · exact .inl rfl
    · exact .inr (.inl hh)
  · rcases hh with rfl | hh | hh
    · exact .inl (.inl rfl)
    · rcases hl _ hh with h3 | h3
      · exact .inl (.inr (.inl h3))
      · exact .inr h3
    · exact .inl (.inr (.inr hh))
theorem SQ.row1 {l' : List Ev} (h : SQ w g v1 v2 l m) (hr : RowP g 1 79 #[v1, v2] v2 l' w w') (hs : Srt l') : ∃ v2', SQ w' g v1 v2' l l' ∧ Turn w w' g v1 v2 v1 v2' := by
  obtain ⟨v', hb, ho, hk, hl⟩ := hr
  refine ⟨v', ⟨hb, h.own1.kept hk (fun k h2 hh => ?_), ho, h.s1, hs, h.n1, fun hg => ?_, fun k h1 h2 => ?_⟩, ⟨hk.more fun k _ hh => ?_, fun k hh => ?_⟩⟩
  · rcases hh with rfl | hh
    · exact h.n1 h2
    · exact h.n12 k h2 hh
  · rcases hl _ hg with hh | hh
    · exact h.n2 hh
    · have := h.blk.lt; omega
  · rcases hl _ h2 with hh | hh
    · exact h.n12 k h1 hh
    · have := h.own1.lt h1; omega
  · rcases hh with rfl | hh
    · exact .inl rfl
    · exact .inr (.inr hh)
  · rcases hh with rfl | hh | hh
    · exact .inl (.inl rfl)
    · exact .inl (.inr (.inl hh))
    · rcases hl _ hh with h3 | h3
      · exact .inl (.inr (.inr h3))
      · exact .inr h3
end
theorem new_any (w : World) : Calls Try.prog 13 #[] w fun e w' => e = .returned (.pointer (some ⟨w.heap.size, 0, none⟩)) ∧ SQ w' w.heap.size (.slice none 0 0) (.slice none 0 0) [] [] ∧ Fresh w w' := by
  go_enter Try.func13, Try.ntmps13
  go_wp2
  go_ret
  exact ⟨rfl, ⟨Blk.at_new rfl _ _, ⟨rfl, .inl ⟨rfl, rfl⟩⟩, ⟨rfl, .inl ⟨rfl, rfl⟩⟩, List.Pairwise.nil, List.Pairwise.nil, by simp [Value.ownBlock], by simp [Value.ownBlock], fun k h => by simp [Value.ownBlock] at h⟩, by (repeat (first | (with_reducible exact Keep.refl _ _) | (with_reducible assumption) | (with_reducible refine Keep.drew ?_) | (with_reducible refine Keep.drewN ?_ _) | (with_reducible refine Keep.alloc ?_ _) | (with_reducible refine Keep.setCell ?_ ?_ _) | (with_reducible refine fun _ => rfl)))⟩
theorem len_any (g : Nat) (v1 v2 : Value) (l m : List Ev) (w : World) (h : SQ w g v1 v2 l m) : Calls Try.prog 16 #[.pointer (some ⟨g, 0, none⟩)] w fun e w' => e = .returned (.tuple #[.int .i64 l.length, .int .i64 m.length]) ∧ Fresh w w' := by
  have hc := h.blk.cell
  obtain ⟨A, cap, rfl, _, _⟩ := h.own1.shape
  obtain ⟨A', cap', rfl, _, _⟩ := h.own2.shape
  clear h
  go_enter Try.func16, Try.ntmps16
  go_wp2
  try go_quiet (fail)
  try go_wp2
  go_ret2
  exact ⟨rfl, by (repeat (first | (with_reducible exact Keep.refl _ _) | (with_reducible assumption) | (with_reducible refine Keep.drew ?_) | (with_reducible refine Keep.drewN ?_ _) | (with_reducible refine Keep.alloc ?_ _) | (with_reducible refine Keep.setCell ?_ ?_ _) | (with_reducible refine fun _ => rfl)))⟩

def putMet (l m : List Ev) (x : Ev) (an : Bool) : Bool := if an then has l x else has m x
def putL (l m : List Ev) (x : Ev) (an : Bool) : List Ev := if an then (if has l x then rem l x else l) else (if has m x then l else ins l x)
def putB (l m : List Ev) (x : Ev) (an : Bool) : List Ev := if an then (if has l x then m else ins m x) else (if has m x then rem m x else m)
def Ev.msg (x : Ev) (an : Bool) : Value := .agg #[.int .i64 x.a, .int .i64 x.s, .int .i64 x.t, .int .i64 x.n, .int .i64 x.d, .int .i64 x.k, .int .i64 x.x, .bool an]
theorem Turn.after {w W w' : World} {g : Nat} {v1 v2 v1' v2' : Value} (f : Fresh w W) (t : Turn W w' g v1 v2 v1' v2') : Turn w w' g v1 v2 v1' v2' :=
  ⟨(f.more (fun _ _ h => h.elim)).trans t.keep, fun k hk => by
    have := f.size
    rcases t.later k hk with h | h
    · exact .inl h
    · exact .inr (by omega)⟩
/-- a row's call that may take away -/
def TakP (g : Nat) (v1 v2 : Value) (l m l' m' : List Ev) (b : Bool) (W : World) (e : Ending) (w' : World) : Prop :=
  e = .returned (.bool b) ∧ Keep (foot g v1 v2) W w' ∧ ((b = true ∧ ∃ v1' v2', SQ w' g v1' v2' l' m' ∧ Turn W w' g v1 v2 v1' v2') ∨ (b = false ∧ Fresh W w'))
/-- a row's call that puts in -/
def PutP (g : Nat) (v1 v2 : Value) (l' m' : List Ev) (W : World) (e : Ending) (w' : World) : Prop :=
  e = .returned (.tuple #[]) ∧ ∃ v1' v2', SQ w' g v1' v2' l' m' ∧ Turn W w' g v1 v2 v1' v2'
section
variable {W : World} {g : Nat} {v1 v2 : Value} {l m : List Ev}
theorem q_undo (h : SQ W g v1 v2 l m) (x : Ev) (hl : l.length ≤ 100000) : Calls Try.prog 34 #[.pointer (some ⟨g, 0, none⟩), x.val] W (TakP g v1 v2 l m (rem l x) m (has l x) W) := by
  refine (undo_any g 0 _ _ v1 l x W h.blk rfl h.own1 h.s1 h.n1 hl).mono ?_
  rintro e w' ⟨rfl, ⟨h1, h2⟩ | ⟨h1, h2⟩⟩
  · obtain ⟨v', hq, ht⟩ := h.row0 h2 (h.s1.rem_ x)
    exact ⟨rfl, ht.keep, .inl ⟨h1, _, _, hq, ht⟩⟩
  · exact ⟨rfl, h2.more (fun _ _ h => h.elim), .inr ⟨h1, h2⟩⟩
theorem q_meet (h : SQ W g v1 v2 l m) (x : Ev) (hm : m.length ≤ 100000) : Calls Try.prog 35 #[.pointer (some ⟨g, 1, none⟩), x.val] W (TakP g v1 v2 l m l (rem m x) (has m x) W) := by
  refine (meet_any g 1 _ _ v2 m x W h.blk rfl h.own2 h.s2 h.n2 hm).mono ?_
  rintro e w' ⟨rfl, ⟨h1, h2⟩ | ⟨h1, h2⟩⟩
  · obtain ⟨v', hq, ht⟩ := h.row1 h2 (h.s2.rem_ x)
    exact ⟨rfl, ht.keep, .inl ⟨h1, _, _, hq, ht⟩⟩
  · exact ⟨rfl, h2.more (fun _ _ h => h.elim), .inr ⟨h1, h2⟩⟩
theorem q_come (h : SQ W g v1 v2 l m) (x : Ev) (hl : l.length ≤ 100000) : Calls Try.prog 37 #[.pointer (some ⟨g, 0, none⟩), x.val] W (PutP g v1 v2 (ins l x) m W) := by
  refine (come_any g 0 _ _ v1 l x W h.blk rfl h.own1 h.s1 h.n1 hl).mono ?_
  rintro e w' ⟨rfl, h2⟩
  obtain ⟨v', hq, ht⟩ := h.row0 h2 (h.s1.ins_ x)
  exact ⟨rfl, _, _, hq, ht⟩
theorem q_await (h : SQ W g v1 v2 l m) (x : Ev) (hm : m.length ≤ 100000) : Calls Try.prog 36 #[.pointer (some ⟨g, 1, none⟩), x.val] W (PutP g v1 v2 l (ins m x) W) := by
  refine (await_any g 1 _ _ v2 m x W h.blk rfl h.own2 h.s2 h.n2 hm).mono ?_
  rintro e w' ⟨rfl, h2⟩
  obtain ⟨v', hq, ht⟩ := h.row1 h2 (h.s2.ins_ x)
  exact ⟨rfl, _, _, hq, ht⟩
end

def TakB (g : Nat) (v1 v2 : Value) (l' m' : List Ev) (b : Bool) (w W : World) (e : Ending) (w' : World) : Prop :=
  e = .returned (.bool b) ∧ Keep (foot g v1 v2) W w' ∧ ((b = true ∧ ∃ v1' v2', SQ w' g v1' v2' l' m' ∧ Turn w w' g v1 v2 v1' v2') ∨ (b = false ∧ Fresh w w'))
theorem TakP.base {g : Nat} {v1 v2 : Value} {l m l' m' : List Ev} {b : Bool} {w W : World} (f : Fresh w W) {e : Ending} {w' : World} (h : TakP g v1 v2 l m l' m' b W e w') : TakB g v1 v2 l' m' b w W e w' := by
  obtain ⟨h1, h2, ⟨h3, v1', v2', hq, ht⟩ | ⟨h3, h4⟩⟩ := h
  · exact ⟨h1, h2, .inl ⟨h3, v1', v2', hq, ht.after f⟩⟩
  · exact ⟨h1, h2, .inr ⟨h3, f.step h4 (fun _ _ h => h)⟩⟩

set_option maxHeartbeats 2000000 in
set_option maxRecDepth 100000 in
theorem put_any (g : Nat) (v1 v2 : Value) (l m : List Ev) (x : Ev) (an : Bool) (w : World) (h : SQ w g v1 v2 l m) (hl : l.length ≤ 100000) (hm : m.length ≤ 100000) (ha : 0 ≤ x.a ∧ x.a ≤ 1073741824) :
    Calls Try.prog 14 #[.pointer (some ⟨g, 0, none⟩), x.msg an] w fun e w' => e = .returned (.tuple #[.bool (putMet l m x an), .int .i64 0]) ∧ ∃ v1' v2', SQ w' g v1' v2' (putL l m x an) (putB l m x an) ∧ Turn w w' g v1 v2 v1' v2' := by
  have HU : Hid (∀ W, Fresh w W → _) := Lib.hid fun W (f : Fresh w W) => (q_undo (h.fresh f) x hl).mono fun _ _ hh => TakP.base f hh
  have HM : Hid (∀ W, Fresh w W → _) := Lib.hid fun W (f : Fresh w W) => (q_meet (h.fresh f) x hm).mono fun _ _ hh => TakP.base f hh
  have HC : Hid (∀ W, Fresh w W → _) := Lib.hid fun W (f : Fresh w W) => q_come (h.fresh f) x hl
  have HA : Hid (∀ W, Fresh w W → _) := Lib.hid fun W (f : Fresh w W) => q_await (h.fresh f) x hm
  unfold Ev.val at HU HM HC HA
  unfold Ev.msg
  have H := Lib.hid h
  have lg := h.blk.lt
  have NF := Lib.hid (show ¬ foot g v1 v2 w.heap.size from fun hf => by have := h.lt _ hf; omega)
  clear h
  obtain ⟨ha1, ha2⟩ := ha
  have t1 : decide (x.a < 0) = false := decide_eq_false (by omega)
  have t2 : decide (1073741824 < x.a) = false := decide_eq_false (by omega)
  cases an
  · cases hh : has m x
    · rw [hh] at HM
      go_enter Try.func14, Try.ntmps14
      go_wp2_with fail
      have f0 : Fresh w (w.alloc (.cells #[.int .i64 x.a, .int .i64 x.s, .int .i64 x.t, .int .i64 x.n, .int .i64 x.d, .int .i64 x.k, .int .i64 x.x, .bool false] 34)) := (Keep.refl _ _).alloc _
      have b0 := Blk.new w 34 #[.int .i64 x.a, .int .i64 x.s, .int .i64 x.t, .int .i64 x.n, .int .i64 x.d, .int .i64 x.k, .int .i64 x.x, .bool false]
      obtain ⟨W0, hW0⟩ : ∃ W0, w.alloc (.cells #[.int .i64 x.a, .int .i64 x.s, .int .i64 x.t, .int .i64 x.n, .int .i64 x.d, .int .i64 x.k, .int .i64 x.x, .bool false] 34) = W0 := ⟨_, rfl⟩
      rw [hW0] at f0 b0 ⊢
      have c0 := b0.cell
      have F0 := Lib.hid f0
      have B0 := Lib.hid b0
      have dm := fun (W : World) (k : Keep (foot g v1 v2) W0 W) (i : Nat) => (B0.out.keep k NF.out).cell i
      have HX := Lib.hid (show ∀ W, Fresh W0 W → Fresh w W from fun W f => F0.out.step f (fun _ _ h => h))
      have KS := Lib.hid (show ∀ W, Fresh W0 W → Keep (foot g v1 v2) W0 W from fun W f => f.more (fun _ _ h => h.elim))
      clear f0 b0 hW0
      go_quiet (fail)
      go_wp2_with fail
      go_region_held3 (fun W' => Keep (foot g v1 v2) W0 W')
        (first
          | (with_reducible assumption)
          | exact KS.out _ (by (repeat (first | (with_reducible exact Keep.refl _ _) | (with_reducible assumption) | (with_reducible refine Keep.drew ?_) | (with_reducible refine Keep.drewN ?_ _) | (with_reducible refine Keep.alloc ?_ _) | (with_reducible refine Keep.setCell ?_ ?_ _) | (with_reducible refine fun _ => rfl)))))
        ((go_at_call 35; (with_reducible refine (HM.out _ (HX.out _ (by (repeat (first | (with_reducible exact Keep.refl _ _) | (with_reducible assumption) | (with_reducible refine Keep.drew ?_) | (with_reducible refine Keep.drewN ?_ _) | (with_reducible refine Keep.alloc ?_ _) | (with_reducible refine Keep.setCell ?_ ?_ _) | (with_reducible refine fun _ => rfl)))))).mono ?_); rintro e1 w1 ⟨rfl, k1, h1⟩; have k2 := (KS.out _ (by (repeat (first | (with_reducible exact Keep.refl _ _) | (with_reducible assumption) | (with_reducible refine Keep.drew ?_) | (with_reducible refine Keep.drewN ?_ _) | (with_reducible refine Keep.alloc ?_ _) | (with_reducible refine Keep.setCell ?_ ?_ _) | (with_reducible refine fun _ => rfl))))).trans k1))
      go_wp2_with fail
      rcases h1 with ⟨h1, _⟩ | ⟨_, h1⟩
      · exact absurd h1 (by simp)
      have c9 := dm w1 k2
      have c10 := dm w1.drew k2.drew
      have FW := Lib.hid (Keep.drew h1)
      have HP := Lib.hid (HC.out _ FW.out)
      clear dm h1 k1 k2
      go_still_tail 5, (by kernel_rfl)
      repeat still_step
      try refine wpStill_nil ?_
      change wpList _ _ _ _ _ w1.drew
      go_wp2_with (go_at_call 37; (with_reducible refine HP.out.mono ?_); rintro e2 w2 ⟨rfl, v1', v2', hq, ht⟩)
      go_ret2
      exact ⟨by simp [putMet, hh], v1', v2', by simp only [putL, putB, hh, if_true, if_false, Bool.false_eq_true]; exact hq, ht.after FW.out⟩
    · rw [hh] at HM
      go_enter Try.func14, Try.ntmps14
      go_wp2_with fail
      have f0 : Fresh w (w.alloc (.cells #[.int .i64 x.a, .int .i64 x.s, .int .i64 x.t, .int .i64 x.n, .int .i64 x.d, .int .i64 x.k, .int .i64 x.x, .bool false] 34)) := (Keep.refl _ _).alloc _
      have b0 := Blk.new w 34 #[.int .i64 x.a, .int .i64 x.s, .int .i64 x.t, .int .i64 x.n, .int .i64 x.d, .int .i64 x.k, .int .i64 x.x, .bool false]
      obtain ⟨W0, hW0⟩ : ∃ W0, w.alloc (.cells #[.int .i64 x.a, .int .i64 x.s, .int .i64 x.t, .int .i64 x.n, .int .i64 x.d, .int .i64 x.k, .int .i64 x.x, .bool false] 34) = W0 := ⟨_, rfl⟩
      rw [hW0] at f0 b0 ⊢
      have c0 := b0.cell
      have F0 := Lib.hid f0
      have B0 := Lib.hid b0
      have dm := fun (W : World) (k : Keep (foot g v1 v2) W0 W) (i : Nat) => (B0.out.keep k NF.out).cell i
      have HX := Lib.hid (show ∀ W, Fresh W0 W → Fresh w W from fun W f => F0.out.step f (fun _ _ h => h))
      have KS := Lib.hid (show ∀ W, Fresh W0 W → Keep (foot g v1 v2) W0 W from fun W f => f.more (fun _ _ h => h.elim))
      clear f0 b0 hW0
      go_quiet (fail)
      go_wp2_with fail
      go_region_held3 (fun W' => Keep (foot g v1 v2) W0 W')
        (first
          | (with_reducible assumption)
          | exact KS.out _ (by (repeat (first | (with_reducible exact Keep.refl _ _) | (with_reducible assumption) | (with_reducible refine Keep.drew ?_) | (with_reducible refine Keep.drewN ?_ _) | (with_reducible refine Keep.alloc ?_ _) | (with_reducible refine Keep.setCell ?_ ?_ _) | (with_reducible refine fun _ => rfl)))))
        ((go_at_call 35; (with_reducible refine (HM.out _ (HX.out _ (by (repeat (first | (with_reducible exact Keep.refl _ _) | (with_reducible assumption) | (with_reducible refine Keep.drew ?_) | (with_reducible refine Keep.drewN ?_ _) | (with_reducible refine Keep.alloc ?_ _) | (with_reducible refine Keep.setCell ?_ ?_ _) | (with_reducible refine fun _ => rfl)))))).mono ?_); rintro e1 w1 ⟨rfl, k1, h1⟩; have k2 := (KS.out _ (by (repeat (first | (with_reducible exact Keep.refl _ _) | (with_reducible assumption) | (with_reducible refine Keep.drew ?_) | (with_reducible refine Keep.drewN ?_ _) | (with_reducible refine Keep.alloc ?_ _) | (with_reducible refine Keep.setCell ?_ ?_ _) | (with_reducible refine fun _ => rfl))))).trans k1))
      go_wp2_with fail
      rcases h1 with ⟨_, v1', v2', hq, ht⟩ | ⟨h1, _⟩
      · go_ret2
        exact ⟨by simp [putMet, hh], v1', v2', by simp only [putL, putB, hh, if_true, if_false, Bool.false_eq_true]; exact hq, ht⟩
      · exact absurd h1 (by simp)
  · cases hh : has l x
    · rw [hh] at HU
      go_enter Try.func14, Try.ntmps14
      go_wp2_with fail
      have f0 : Fresh w (w.alloc (.cells #[.int .i64 x.a, .int .i64 x.s, .int .i64 x.t, .int .i64 x.n, .int .i64 x.d, .int .i64 x.k, .int .i64 x.x, .bool true] 34)) := (Keep.refl _ _).alloc _
      have b0 := Blk.new w 34 #[.int .i64 x.a, .int .i64 x.s, .int .i64 x.t, .int .i64 x.n, .int .i64 x.d, .int .i64 x.k, .int .i64 x.x, .bool true]
      obtain ⟨W0, hW0⟩ : ∃ W0, w.alloc (.cells #[.int .i64 x.a, .int .i64 x.s, .int .i64 x.t, .int .i64 x.n, .int .i64 x.d, .int .i64 x.k, .int .i64 x.x, .bool true] 34) = W0 := ⟨_, rfl⟩
      rw [hW0] at f0 b0 ⊢
      have c0 := b0.cell
      have F0 := Lib.hid f0
      have B0 := Lib.hid b0
      have dm := fun (W : World) (k : Keep (foot g v1 v2) W0 W) (i : Nat) => (B0.out.keep k NF.out).cell i
      have HX := Lib.hid (show ∀ W, Fresh W0 W → Fresh w W from fun W f => F0.out.step f (fun _ _ h => h))
      have KS := Lib.hid (show ∀ W, Fresh W0 W → Keep (foot g v1 v2) W0 W from fun W f => f.more (fun _ _ h => h.elim))
      clear f0 b0 hW0
      go_region_held3 (fun W' => Keep (foot g v1 v2) W0 W')
        (first
          | (with_reducible assumption)
          | exact KS.out _ (by (repeat (first | (with_reducible exact Keep.refl _ _) | (with_reducible assumption) | (with_reducible refine Keep.drew ?_) | (with_reducible refine Keep.drewN ?_ _) | (with_reducible refine Keep.alloc ?_ _) | (with_reducible refine Keep.setCell ?_ ?_ _) | (with_reducible refine fun _ => rfl)))))
        ((go_at_call 34; (with_reducible refine (HU.out _ (HX.out _ (by (repeat (first | (with_reducible exact Keep.refl _ _) | (with_reducible assumption) | (with_reducible refine Keep.drew ?_) | (with_reducible refine Keep.drewN ?_ _) | (with_reducible refine Keep.alloc ?_ _) | (with_reducible refine Keep.setCell ?_ ?_ _) | (with_reducible refine fun _ => rfl)))))).mono ?_); rintro e1 w1 ⟨rfl, k1, h1⟩; have k2 := (KS.out _ (by (repeat (first | (with_reducible exact Keep.refl _ _) | (with_reducible assumption) | (with_reducible refine Keep.drew ?_) | (with_reducible refine Keep.drewN ?_ _) | (with_reducible refine Keep.alloc ?_ _) | (with_reducible refine Keep.setCell ?_ ?_ _) | (with_reducible refine fun _ => rfl))))).trans k1))
      go_wp2_with fail
      rcases h1 with ⟨h1, _⟩ | ⟨_, h1⟩
      · exact absurd h1 (by simp)
      have c9 := dm w1 k2
      go_wp2_with fail
      go_quiet (fail)
      go_wp2_with fail
      obtain ⟨wy, hwy⟩ : ∃ y, w1.drewN nq = y := ⟨_, rfl⟩
      rw [hwy]
      have k2 : Keep (foot g v1 v2) W0 wy := hwy ▸ Keep.drewN k2 _
      have h1 : Fresh w wy := hwy ▸ Keep.drewN h1 _
      clear c9 hwy
      have c9 := dm wy k2
      have c10 := dm wy.drew k2.drew
      have FW := Lib.hid (Keep.drew h1)
      have HP := Lib.hid (HA.out _ FW.out)
      clear dm h1 k1 k2
      go_still_tail 5, (by kernel_rfl)
      repeat still_step
      try refine wpStill_nil ?_
      change wpList _ _ _ _ _ wy.drew
      go_wp2_with (go_at_call 36; (with_reducible refine HP.out.mono ?_); rintro e2 w2 ⟨rfl, v1', v2', hq, ht⟩)
      go_ret2
      exact ⟨by simp [putMet, hh], v1', v2', by simp only [putL, putB, hh, if_true, if_false, Bool.false_eq_true]; exact hq, ht.after FW.out⟩
    · rw [hh] at HU
      go_enter Try.func14, Try.ntmps14
      go_wp2_with fail
      have f0 : Fresh w (w.alloc (.cells #[.int .i64 x.a, .int .i64 x.s, .int .i64 x.t, .int .i64 x.n, .int .i64 x.d, .int .i64 x.k, .int .i64 x.x, .bool true] 34)) := (Keep.refl _ _).alloc _
      have b0 := Blk.new w 34 #[.int .i64 x.a, .int .i64 x.s, .int .i64 x.t, .int .i64 x.n, .int .i64 x.d, .int .i64 x.k, .int .i64 x.x, .bool true]
      obtain ⟨W0, hW0⟩ : ∃ W0, w.alloc (.cells #[.int .i64 x.a, .int .i64 x.s, .int .i64 x.t, .int .i64 x.n, .int .i64 x.d, .int .i64 x.k, .int .i64 x.x, .bool true] 34) = W0 := ⟨_, rfl⟩
      rw [hW0] at f0 b0 ⊢
      have c0 := b0.cell
      have F0 := Lib.hid f0
      have B0 := Lib.hid b0
      have dm := fun (W : World) (k : Keep (foot g v1 v2) W0 W) (i : Nat) => (B0.out.keep k NF.out).cell i
      have HX := Lib.hid (show ∀ W, Fresh W0 W → Fresh w W from fun W f => F0.out.step f (fun _ _ h => h))
      have KS := Lib.hid (show ∀ W, Fresh W0 W → Keep (foot g v1 v2) W0 W from fun W f => f.more (fun _ _ h => h.elim))
      clear f0 b0 hW0
      go_region_held3 (fun W' => Keep (foot g v1 v2) W0 W')
        (first
          | (with_reducible assumption)
          | exact KS.out _ (by (repeat (first | (with_reducible exact Keep.refl _ _) | (with_reducible assumption) | (with_reducible refine Keep.drew ?_) | (with_reducible refine Keep.drewN ?_ _) | (with_reducible refine Keep.alloc ?_ _) | (with_reducible refine Keep.setCell ?_ ?_ _) | (with_reducible refine fun _ => rfl)))))
        ((go_at_call 34; (with_reducible refine (HU.out _ (HX.out _ (by (repeat (first | (with_reducible exact Keep.refl _ _) | (with_reducible assumption) | (with_reducible refine Keep.drew ?_) | (with_reducible refine Keep.drewN ?_ _) | (with_reducible refine Keep.alloc ?_ _) | (with_reducible refine Keep.setCell ?_ ?_ _) | (with_reducible refine fun _ => rfl)))))).mono ?_); rintro e1 w1 ⟨rfl, k1, h1⟩; have k2 := (KS.out _ (by (repeat (first | (with_reducible exact Keep.refl _ _) | (with_reducible assumption) | (with_reducible refine Keep.drew ?_) | (with_reducible refine Keep.drewN ?_ _) | (with_reducible refine Keep.alloc ?_ _) | (with_reducible refine Keep.setCell ?_ ?_ _) | (with_reducible refine fun _ => rfl))))).trans k1))
      go_wp2_with fail
      rcases h1 with ⟨_, v1', v2', hq, ht⟩ | ⟨h1, _⟩
      · go_ret2
        exact ⟨by simp [putMet, hh], v1', v2', by simp only [putL, putB, hh, if_true, if_false, Bool.false_eq_true]; exact hq, ht⟩
      · exact absurd h1 (by simp)
end Go.Proofs.Ytecobebndjnhnaa
