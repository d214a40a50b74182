/-
  slab.Slab's Copy.
-/
import Derived.Test.YtdobhicjhgdhnaaNilIter
namespace Go.Proofs.Ytdobhicjhgdhnaa
open Go.RowKit
attribute [local go_sem ↓] Go.wp_at_zero Go.wp_at_succ
theorem cloneS_nil (w : World) (a : Option Addr) (n c : Nat) : (binOp .eql 66 (.slice a n c) (.slice none 0 0)).run Try.prog w = .ok (.bool a.isNone) w := Lib.run_eql_slice_nil w _ _ a n c 0 0 Try.underlying66
attribute [local go_sem] cloneS_nil
theorem cloneS_any (v : Value) (n : Nat) (xs : List Value) (w : World) (h : OwnS w 73 3 v n xs) (h1 : ∀ u ∈ xs, u.oneCell' = true) (hn : n ≤ 1000000) :
    Calls Try.prog 32 #[v] w fun e w' => ∃ v', e = .returned v' ∧ OwnS w' 73 3 v' n xs ∧ Fresh w w' ∧ ∀ k, v'.ownBlock = some k → w.heap.size ≤ k := by
  rcases h.2 with ⟨rfl, rfl⟩ | ⟨g', off, cap, cur, rfl, _⟩
  · have hx : xs = [] := List.eq_nil_of_length_eq_zero (by simpa using h.1)
    subst hx
    clear h h1
    go_enter Try.func32, Try.ntmps32
    go_wp2_with fail
    go_ret
    exact ⟨_, rfl, OwnS.nil _ _ _, Keep.refl _ _, by simp [Value.ownBlock]⟩
  have HO := Lib.hid h
  have H1 := Lib.hid h1
  clear h h1
  obtain ⟨i0, hi, hz0, hz1, hz2⟩ := info_parts info_slot
  have h04 : 0 < 3 := by omega
  have hL1 : 0 + n ≤ maxLen := one_le_maxLen (by omega)
  have hL2 : (0 + n) * 24 ≤ 140737488355328 := by omega
  have HN : Hid (OwnS (w.alloc (.cells #[] 73)) 73 3 (.slice (some ⟨w.heap.size, 0, none⟩) 0 0) 0 []) := OwnS.new_ (Blk.at_new rfl _ #[]) rfl (Nat.zero_le _)
  go_enter Try.func32, Try.ntmps32
  go_wp2_with (at_builtin; refine wpList_append_OwnS _ rfl _ _ 66 rfl 73 i0 (.agg #[.int .i64 0, .int .i64 0, .int .i64 0]) 3 24 Try.underlying66 hi hz0 hz1 hz2 rfl h04 (.slice (some ⟨w.heap.size, 0, none⟩) 0 0) 0 [] rfl HN.out (.slice (some ⟨g', off, none⟩) n cap) n xs rfl (HO.out.alloc _).src H1.out hL1 hL2 ?_; intro v' w1 ho1 hk1 hat1)
  go_ret
  refine ⟨v', rfl, by simpa using ho1, Keep.step ((Keep.refl _ w).alloc _) hk1 (fun k hk hk' => by simp [Value.ownBlock] at hk'; omega), fun k hk => ?_⟩
  have := hat1 k hk
  simp [Value.ownBlock] at this
  omega
theorem cloneI_nil (w : World) (a : Option Addr) (n c : Nat) : (binOp .eql 29 (.slice a n c) (.slice none 0 0)).run Try.prog w = .ok (.bool a.isNone) w := Lib.run_eql_slice_nil w _ _ a n c 0 0 Try.underlying29
attribute [local go_sem] cloneI_nil
theorem cloneI_any (v : Value) (n : Nat) (xs : List Value) (w : World) (h : OwnS w 3 1 v n xs) (h1 : ∀ u ∈ xs, u.oneCell' = true) (hn : n ≤ 1000000) :
    Calls Try.prog 33 #[v] w fun e w' => ∃ v', e = .returned v' ∧ OwnS w' 3 1 v' n xs ∧ Fresh w w' ∧ ∀ k, v'.ownBlock = some k → w.heap.size ≤ k := by
  rcases h.2 with ⟨rfl, rfl⟩ | ⟨g', off, cap, cur, rfl, _⟩
  · have hx : xs = [] := List.eq_nil_of_length_eq_zero (by simpa using h.1)
    subst hx
    clear h h1
    go_enter Try.func33, Try.ntmps33
    go_wp2_with fail
    go_ret
    exact ⟨_, rfl, OwnS.nil _ _ _, Keep.refl _ _, by simp [Value.ownBlock]⟩
  have HO := Lib.hid h
  have H1 := Lib.hid h1
  clear h h1
  obtain ⟨i0, hi, hz0, hz1, hz2⟩ := info_parts info_int
  have h04 : 0 < 1 := by omega
  have hL1 : 0 + n ≤ maxLen := one_le_maxLen (by omega)
  have hL2 : (0 + n) * 8 ≤ 140737488355328 := by omega
  have HN : Hid (OwnS (w.alloc (.cells #[] 3)) 3 1 (.slice (some ⟨w.heap.size, 0, none⟩) 0 0) 0 []) := OwnS.new_ (Blk.at_new rfl _ #[]) rfl (Nat.zero_le _)
  go_enter Try.func33, Try.ntmps33
  go_wp2_with (at_builtin; refine wpList_append_OwnS _ rfl _ _ 29 rfl 3 i0 (.int .i64 0) 1 8 Try.underlying29 hi hz0 hz1 hz2 rfl h04 (.slice (some ⟨w.heap.size, 0, none⟩) 0 0) 0 [] rfl HN.out (.slice (some ⟨g', off, none⟩) n cap) n xs rfl (HO.out.alloc _).src H1.out hL1 hL2 ?_; intro v' w1 ho1 hk1 hat1)
  go_ret
  refine ⟨v', rfl, by simpa using ho1, Keep.step ((Keep.refl _ w).alloc _) hk1 (fun k hk hk' => by simp [Value.ownBlock] at hk'; omega), fun k hk => ?_⟩
  have := hat1 k hk
  simp [Value.ownBlock] at this
  omega
def CopyP (s : St) (w : World) (e : Ending) (w' : World) : Prop :=
  ∃ g' vs vf, e = .returned (.pointer (some ⟨g', 0, none⟩)) ∧ SSlab w' g' vs vf s ∧ Fresh w w' ∧ ∀ k, foot g' vs vf k → w.heap.size ≤ k
theorem copy_any (g : Nat) (vs vf : Value) (s : St) (w : World) (h : SSlab w g vs vf s) (hl : s.l.length ≤ 100000) (hf : s.fr.length ≤ 100000) :
    Calls Try.prog 22 #[.pointer (some ⟨g, 0, none⟩)] w (CopyP s w) := by
  have HS := Lib.hid h
  have H1 := Lib.hid (fun (W : World) (f : Fresh w W) => cloneS_any vs s.l.length (slots s.l) W (h.os.fresh f) (slots_one _) (by omega))
  have H2 := Lib.hid (fun (W : World) (f : Fresh w W) => cloneI_any vf s.fr.length (ints s.fr) W (h.of.fresh f) (ints_one _) (by omega))
  obtain ⟨A, cap, rfl, _, _⟩ := h.os.shape
  obtain ⟨B, capf, rfl, _, _⟩ := h.of.shape
  have kb := fun (W : World) (f : Fresh w W) (i : Nat) => (HS.out.fresh f).blk.cell i
  have fw : Fresh w w := Keep.refl _ _
  have fwd : Fresh w w.drew := (Keep.refl _ _).drew
  clear h
  go_enter Try.func22, Try.ntmps22
  go_wp2_with fail
  go_region_held3 (fun W => Fresh w W)
    (first | (with_reducible assumption) | ((repeat (first | (with_reducible exact Keep.refl _ _) | (with_reducible assumption) | (with_reducible refine Keep.drew ?_) | (with_reducible refine Keep.drewN ?_ _) | (with_reducible refine Keep.alloc ?_ _) | (with_reducible refine Keep.setCell ?_ ?_ _) | (with_reducible refine fun _ => rfl)))))
    (first
      | (go_at_call 32; (with_reducible refine (H1.out _ (by (repeat (first | (with_reducible exact Keep.refl _ _) | (with_reducible assumption) | (with_reducible refine Keep.drew ?_) | (with_reducible refine Keep.drewN ?_ _) | (with_reducible refine Keep.alloc ?_ _) | (with_reducible refine Keep.setCell ?_ ?_ _) | (with_reducible refine fun _ => rfl))))).mono ?_); rintro e w4 ⟨v4, rfl, o4, f4, n4⟩; obtain ⟨A4, c4, rfl, _, _⟩ := o4.shape; have O4 := Lib.hid o4; have N4 := Lib.hid n4; have f4 := Keep.step (S := fun _ => False) (by (repeat (first | (with_reducible exact Keep.refl _ _) | (with_reducible assumption) | (with_reducible refine Keep.drew ?_) | (with_reducible refine Keep.drewN ?_ _) | (with_reducible refine Keep.alloc ?_ _) | (with_reducible refine Keep.setCell ?_ ?_ _) | (with_reducible refine fun _ => rfl))) : Fresh w _) f4 (fun _ _ h => h); clear o4 n4)
      | (go_at_call 33; (with_reducible refine (H2.out _ (by (repeat (first | (with_reducible exact Keep.refl _ _) | (with_reducible assumption) | (with_reducible refine Keep.drew ?_) | (with_reducible refine Keep.drewN ?_ _) | (with_reducible refine Keep.alloc ?_ _) | (with_reducible refine Keep.setCell ?_ ?_ _) | (with_reducible refine fun _ => rfl))))).mono ?_); rintro e w5 ⟨v5, rfl, o5, f5, n5⟩; obtain ⟨A5, c5, rfl, _, _⟩ := o5.shape; have O5 := Lib.hid o5; have N5 := Lib.hid n5; have G5 := Lib.hid f5; have f5 := Keep.step (S := fun _ => False) (by (repeat (first | (with_reducible exact Keep.refl _ _) | (with_reducible assumption) | (with_reducible refine Keep.drew ?_) | (with_reducible refine Keep.drewN ?_ _) | (with_reducible refine Keep.alloc ?_ _) | (with_reducible refine Keep.setCell ?_ ?_ _) | (with_reducible refine fun _ => rfl))) : Fresh w _) f5 (fun _ _ h => h); clear o5 n5))
  have F5 : Hid (Fresh w w5) := Lib.hid f5
  have F4 : Hid (Fresh w w4) := Lib.hid f4
  clear kb fw fwd H1 H2 f4 f5
  go_wp2_with fail
  go_ret
  refine ⟨w5.heap.size, _, _, rfl, ⟨Blk.new _ _ _, (O4.out.fresh G5.out).alloc _, O5.out.alloc _⟩, F5.out.alloc _, fun k hk => ?_⟩
  rcases hk with rfl | hk | hk
  · exact F5.out.size
  · have := N4.out k hk
    simpa using this
  · have := N5.out k hk
    have := F4.out.size
    omega
end Go.Proofs.Ytdobhicjhgdhnaa
