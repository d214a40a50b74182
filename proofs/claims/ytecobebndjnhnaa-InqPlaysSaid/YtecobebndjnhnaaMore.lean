/-
  inq.Queue: Put of a time that may not be, All, Antis, Copy.
-/
import Derived.Test.YtecobebndjnhnaaListed
namespace Go.Proofs.Ytecobebndjnhnaa
open Go.RowKit Go.Shelf
attribute [local go_sem ↓] Go.wp_at_zero Go.wp_at_succ

set_option maxHeartbeats 1000000 in
set_option maxRecDepth 100000 in
theorem put_out (g : Nat) (x : Ev) (an : Bool) (w : World) (ha : x.a < 0 ∨ 1073741824 < x.a) :
    Calls Try.prog 14 #[.pointer (some ⟨g, 0, none⟩), x.msg an] w fun e w' => e = .returned (.tuple #[.bool false, .int .i64 10]) ∧ Fresh w w' := by
  unfold Ev.msg
  by_cases h1 : x.a < 0
  · have t1 : decide (x.a < 0) = true := decide_eq_true h1
    go_enter Try.func14, Try.ntmps14
    go_wp2
    go_ret2
    exact ⟨rfl, by (repeat (first | (with_reducible exact Keep.refl _ _) | (with_reducible assumption) | (with_reducible refine Keep.drew ?_) | (with_reducible refine Keep.drewN ?_ _) | (with_reducible refine Keep.alloc ?_ _) | (with_reducible refine Keep.setCell ?_ ?_ _) | (with_reducible refine fun _ => rfl)))⟩
  · have t1 : decide (x.a < 0) = false := decide_eq_false h1
    have t2 : decide (1073741824 < x.a) = true := decide_eq_true (by omega)
    go_enter Try.func14, Try.ntmps14
    go_wp2
    go_ret2
    exact ⟨rfl, by (repeat (first | (with_reducible exact Keep.refl _ _) | (with_reducible assumption) | (with_reducible refine Keep.drew ?_) | (with_reducible refine Keep.drewN ?_ _) | (with_reducible refine Keep.alloc ?_ _) | (with_reducible refine Keep.setCell ?_ ?_ _) | (with_reducible refine fun _ => rfl)))⟩
theorem isNil (w : World) (a : Option Addr) (n c : Nat) : (binOp .eql 42 (.slice a n c) (.slice none 0 0)).run Try.prog w = .ok (.bool a.isNone) w := Lib.run_eql_slice_nil w _ _ a n c 0 0 Try.underlying42
attribute [local go_sem] isNil
theorem clone_any (v : Value) (n : Nat) (xs : List Value) (w : World) (h : OwnS w 25 7 v n xs) (h1 : ∀ u ∈ xs, u.oneCell' = true) (hn : n ≤ 1000000) :
    Calls Try.prog 53 #[v] w fun e w' => ∃ v', e = .returned v' ∧ OwnS w' 25 7 v' n xs ∧ Fresh w w' ∧ ∀ k, v'.ownBlock = some k → w.heap.size ≤ k := by
  rcases h.2 with ⟨rfl, rfl⟩ | ⟨g', off, cap, cur, rfl, _⟩
  · have hx : xs = [] := List.eq_nil_of_length_eq_zero (by simpa using h.1)
    subst hx
    clear h h1
    go_enter Try.func53, Try.ntmps53
    go_wp2_with fail
    go_ret
    exact ⟨_, rfl, OwnS.nil _ _ _, Keep.refl _ _, by simp [Value.ownBlock]⟩
  have HO := Lib.hid h
  have H1 := Lib.hid h1
  clear h h1
  obtain ⟨i0, hi, hz0, hz1, hz2⟩ := info_parts info_ev
  have h04 : 0 < 7 := by omega
  have hL1 : 0 + n ≤ maxLen := one_le_maxLen (by omega)
  have hL2 : (0 + n) * 56 ≤ 140737488355328 := by omega
  have HN : Hid (OwnS (w.alloc (.cells #[] 25)) 25 7 (.slice (some ⟨w.heap.size, 0, none⟩) 0 0) 0 []) := OwnS.new_ (Blk.at_new rfl _ #[]) rfl (Nat.zero_le _)
  go_enter Try.func53, Try.ntmps53
  go_wp2_with (at_builtin; refine wpList_append_OwnS _ rfl _ _ 42 rfl 25 i0 (.agg #[.int .i64 0, .int .i64 0, .int .i64 0, .int .i64 0, .int .i64 0, .int .i64 0, .int .i64 0]) 7 56 Try.underlying42 hi hz0 hz1 hz2 rfl h04 (.slice (some ⟨w.heap.size, 0, none⟩) 0 0) 0 [] rfl HN.out (.slice (some ⟨g', off, none⟩) n cap) n xs rfl (HO.out.alloc _).src H1.out hL1 hL2 ?_; intro v' w1 ho1 hk1 hat1)
  go_ret
  refine ⟨v', rfl, by simpa using ho1, Keep.step ((Keep.refl _ w).alloc _) hk1 (fun k hk hk' => by simp [Value.ownBlock] at hk'; omega), fun k hk => ?_⟩
  have := hat1 k hk
  simp [Value.ownBlock] at this
  omega
theorem rclone_any (g o : Nat) (v : Value) (l : List Ev) (w : World) (hc : w.cell? ⟨g, o, none⟩ = some v) (ho : OwnS w 25 7 v l.length (cells l)) (hl : l.length ≤ 100000) :
    Calls Try.prog 40 #[.pointer (some ⟨g, o, none⟩)] w fun e w' => ∃ v', e = .returned v' ∧ OwnS w' 25 7 v' l.length (cells l) ∧ Fresh w w' ∧ ∀ k, v'.ownBlock = some k → w.heap.size ≤ k := by
  have HC := Lib.hid (clone_any v _ _ w ho (cells_one l) (by omega))
  obtain ⟨A, cap, rfl, _, _⟩ := ho.shape
  clear ho
  go_enter Try.func40, Try.ntmps40
  go_wp2_with fail
  refine HC.out.mono ?_
  rintro e w1 ⟨v1, rfl, ho1, hk1, hn1⟩
  obtain ⟨A', cap', rfl, _, _⟩ := ho1.shape
  have P1 := Lib.hid ho1
  have P2 := Lib.hid hk1
  have P3 := Lib.hid hn1
  clear ho1 hk1 hn1
  go_wp2_with fail
  go_ret
  exact ⟨_, rfl, P1.out, P2.out, P3.out⟩
/-- what All hands back -/
def SeqP (l : List Ev) (w : World) (e : Ending) (w' : World) : Prop :=
  ∃ b v', e = .returned (seqV b) ∧ Blk w' b 42 #[v'] ∧ OwnS w' 25 7 v' l.length (cells l) ∧ Fresh w w'
theorem all_any (g : Nat) (v1 v2 : Value) (l m : List Ev) (w : World) (h : SQ w g v1 v2 l m) (hl : l.length ≤ 100000) : Calls Try.prog 18 #[.pointer (some ⟨g, 0, none⟩)] w (SeqP l w) := by
  have HC := Lib.hid (fun W (f : Fresh w W) => rclone_any g 0 v1 l W ((h.fresh f).blk.cell_ 0 rfl) (h.fresh f).own1 hl)
  clear h
  go_enter Try.func18, Try.ntmps18
  go_wp2_with fail
  refine (HC.out _ (by (repeat (first | (with_reducible exact Keep.refl _ _) | (with_reducible assumption) | (with_reducible refine Keep.drew ?_) | (with_reducible refine Keep.drewN ?_ _) | (with_reducible refine Keep.alloc ?_ _) | (with_reducible refine Keep.setCell ?_ ?_ _) | (with_reducible refine fun _ => rfl))))).mono ?_
  rintro e w1 ⟨v1, rfl, ho1, hk1, hn1⟩
  obtain ⟨A', cap', rfl, _, _⟩ := ho1.shape
  have P1 := Lib.hid ho1
  have P2 := Lib.hid hk1
  clear ho1 hk1 hn1
  go_wp2_with fail
  refine (values_any _ _ _ _).mono ?_
  rintro e w2 ⟨rfl, rfl⟩
  go_wp2_with fail
  go_ret
  exact ⟨_, _, rfl, Blk.at_new rfl _ _, P1.out.alloc _, P2.out.alloc _⟩
theorem antis_any (g : Nat) (v1 v2 : Value) (l m : List Ev) (w : World) (h : SQ w g v1 v2 l m) (hl : m.length ≤ 100000) : Calls Try.prog 19 #[.pointer (some ⟨g, 0, none⟩)] w (SeqP m w) := by
  have HC := Lib.hid (fun W (f : Fresh w W) => rclone_any g 1 v2 m W ((h.fresh f).blk.cell_ 1 rfl) (h.fresh f).own2 hl)
  clear h
  go_enter Try.func19, Try.ntmps19
  go_wp2_with fail
  refine (HC.out _ (by (repeat (first | (with_reducible exact Keep.refl _ _) | (with_reducible assumption) | (with_reducible refine Keep.drew ?_) | (with_reducible refine Keep.drewN ?_ _) | (with_reducible refine Keep.alloc ?_ _) | (with_reducible refine Keep.setCell ?_ ?_ _) | (with_reducible refine fun _ => rfl))))).mono ?_
  rintro e w1 ⟨v1, rfl, ho1, hk1, hn1⟩
  obtain ⟨A', cap', rfl, _, _⟩ := ho1.shape
  have P1 := Lib.hid ho1
  have P2 := Lib.hid hk1
  clear ho1 hk1 hn1
  go_wp2_with fail
  refine (values_any _ _ _ _).mono ?_
  rintro e w2 ⟨rfl, rfl⟩
  go_wp2_with fail
  go_ret
  exact ⟨_, _, rfl, Blk.at_new rfl _ _, P1.out.alloc _, P2.out.alloc _⟩
def CopyP (l m : List Ev) (w : World) (e : Ending) (w' : World) : Prop :=
  ∃ g' v1' v2', e = .returned (.pointer (some ⟨g', 0, none⟩)) ∧ SQ w' g' v1' v2' l m ∧ Fresh w w' ∧ ∀ k, foot g' v1' v2' k → w.heap.size ≤ k
theorem copy_any (g : Nat) (v1 v2 : Value) (l m : List Ev) (w : World) (h : SQ w g v1 v2 l m) (hl : l.length ≤ 100000) (hm : m.length ≤ 100000) :
    Calls Try.prog 21 #[.pointer (some ⟨g, 0, none⟩)] w (CopyP l m w) := by
  have H1 := Lib.hid (fun W (f : Fresh w W) => rclone_any g 0 v1 l W ((h.fresh f).blk.cell_ 0 rfl) (h.fresh f).own1 hl)
  have H2 := Lib.hid (fun W (f : Fresh w W) => rclone_any g 1 v2 m W ((h.fresh f).blk.cell_ 1 rfl) (h.fresh f).own2 hm)
  have S1 := Lib.hid h.s1
  have S2 := Lib.hid h.s2
  clear h
  go_enter Try.func21, Try.ntmps21
  go_wp2_with fail
  go_region_held3 (fun W' => Fresh w W') (exact (fun (f : Fresh w _) => f) (by (repeat (first | (with_reducible exact Keep.refl _ _) | (with_reducible assumption) | (with_reducible refine Keep.drew ?_) | (with_reducible refine Keep.drewN ?_ _) | (with_reducible refine Keep.alloc ?_ _) | (with_reducible refine Keep.setCell ?_ ?_ _) | (with_reducible refine fun _ => rfl)))))
    ((first
      | (go_at_call 40; (with_reducible refine (H1.out _ (by (repeat (first | (with_reducible exact Keep.refl _ _) | (with_reducible assumption) | (with_reducible refine Keep.drew ?_) | (with_reducible refine Keep.drewN ?_ _) | (with_reducible refine Keep.alloc ?_ _) | (with_reducible refine Keep.setCell ?_ ?_ _) | (with_reducible refine fun _ => rfl))))).mono ?_); rintro e1 w1 ⟨va, rfl, o1, f1, n1⟩; obtain ⟨Aa, ca, rfl, _, _⟩ := o1.shape; have fa := Keep.step (S := fun _ => False) (by (repeat (first | (with_reducible exact Keep.refl _ _) | (with_reducible assumption) | (with_reducible refine Keep.drew ?_) | (with_reducible refine Keep.drewN ?_ _) | (with_reducible refine Keep.alloc ?_ _) | (with_reducible refine Keep.setCell ?_ ?_ _) | (with_reducible refine fun _ => rfl))) : Fresh w _) f1 (fun _ _ h => h); have O1 := Lib.hid o1; have N1 := Lib.hid n1; have FA := Lib.hid fa; clear o1 n1)
      | (go_at_call 40; (with_reducible refine (H2.out _ (by (repeat (first | (with_reducible exact Keep.refl _ _) | (with_reducible assumption) | (with_reducible refine Keep.drew ?_) | (with_reducible refine Keep.drewN ?_ _) | (with_reducible refine Keep.alloc ?_ _) | (with_reducible refine Keep.setCell ?_ ?_ _) | (with_reducible refine fun _ => rfl))))).mono ?_); rintro e2 w2 ⟨vb, rfl, o2, f2, n2⟩; obtain ⟨Ab, cb, rfl, _, _⟩ := o2.shape; have fb := Keep.step (S := fun _ => False) (by (repeat (first | (with_reducible exact Keep.refl _ _) | (with_reducible assumption) | (with_reducible refine Keep.drew ?_) | (with_reducible refine Keep.drewN ?_ _) | (with_reducible refine Keep.alloc ?_ _) | (with_reducible refine Keep.setCell ?_ ?_ _) | (with_reducible refine fun _ => rfl))) : Fresh w _) f2 (fun _ _ h => h); have O2 := Lib.hid o2; have N2 := Lib.hid n2; have FB := Lib.hid fb; clear o2 n2)))
  have L1 : ∀ k, (Value.slice Aa l.length ca).ownBlock = some k → w.heap.size ≤ k ∧ k < w1.heap.size := fun k hk => ⟨N1.out k hk, O1.out.lt hk⟩
  have L2 : ∀ k, (Value.slice Ab m.length cb).ownBlock = some k → w1.heap.size ≤ k ∧ k < w2.heap.size := fun k hk => ⟨N2.out k hk, O2.out.lt hk⟩
  have L1 := Lib.hid L1
  have L2 := Lib.hid L2
  have z1 := FA.out.size
  have z2 := f2.size
  have F2 := Lib.hid f2
  clear f1 f2 fa fb
  go_wp2_with fail
  go_ret
  refine ⟨_, _, _, rfl, ⟨Blk.at_new rfl _ _, (O1.out.fresh F2.out).alloc _, O2.out.alloc _, S1.out, S2.out, fun h => ?_, fun h => ?_, fun k h1 h2 => ?_⟩, FB.out.alloc _, fun k hk => ?_⟩
  · have := L1.out _ h; omega
  · have := L2.out _ h; omega
  · have := L1.out _ h1; have := L2.out _ h2; omega
  · rcases hk with rfl | hk | hk
    · omega
    · exact (L1.out _ hk).1
    · have := L2.out _ hk; omega
end Go.Proofs.Ytecobebndjnhnaa
