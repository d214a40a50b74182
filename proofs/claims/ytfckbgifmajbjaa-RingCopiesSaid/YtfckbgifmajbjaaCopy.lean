/-
  ring.Ring[int].Copy.
-/
import Derived.Test.YtfckbgifmajbjaaPlays
namespace Go.Proofs.Ytfckbgifmajbjaa
open Go.RowKit
attribute [local go_sem ↓] Go.wp_at_zero Go.wp_at_succ

theorem isNilR (w : World) (a : Option Addr) (n c : Nat) : (binOp .eql 58 (.slice a n c) (.slice none 0 0)).run Try.prog w = .ok (.bool a.isNone) w := Lib.run_eql_slice_nil w _ _ a n c 0 0 Try.underlying58
attribute [local go_sem] isNilR
theorem cloneR_any (g' off n cap : Nat) (xs : List Value) (w : World) (h : OwnS w 66 2 (.slice (some ⟨g', off, none⟩) n cap) n xs) (h1 : ∀ u ∈ xs, u.oneCell' = true) (hn : n ≤ 1000000) (hn1 : 1 ≤ n) :
    Calls Try.prog 39 #[.slice (some ⟨g', off, none⟩) n cap] w fun e w' => ∃ gn on cn, e = .returned (.slice (some ⟨gn, on, none⟩) n cn) ∧ OwnS w' 66 2 (.slice (some ⟨gn, on, none⟩) n cn) n xs ∧ Fresh w w' ∧ w.heap.size ≤ gn := by
  have HO := Lib.hid h
  have H1 := Lib.hid h1
  clear h h1
  obtain ⟨i0, hi, hz0, hz1, hz2⟩ := info_parts info_row
  have h02 : 0 < 2 := by omega
  have hL1 : 0 + n ≤ maxLen := one_le_maxLen (by omega)
  have hL2 : (0 + n) * 16 ≤ 140737488355328 := by omega
  have HN : Hid (OwnS (w.alloc (.cells #[] 66)) 66 2 (.slice (some ⟨w.heap.size, 0, none⟩) 0 0) 0 []) := OwnS.new_ (Blk.at_new rfl _ #[]) rfl (Nat.zero_le _)
  go_enter Try.func39, Try.ntmps39
  go_wp2_with (at_builtin; refine wpList_append_OwnS _ rfl _ _ 58 rfl 66 i0 (.agg #[.int .i64 0, .int .i64 0]) 2 16 Try.underlying58 hi hz0 hz1 hz2 rfl h02 (.slice (some ⟨w.heap.size, 0, none⟩) 0 0) 0 [] rfl HN.out (.slice (some ⟨g', off, none⟩) n cap) n xs rfl (HO.out.alloc _).src H1.out hL1 hL2 ?_; intro v' w1 ho1 hk1 hat1)
  go_ret
  have hsz : w.heap.size < w1.heap.size := by
    have := hk1.size
    simp at this
    omega
  have hf1 : Fresh w w1 := Keep.step ((Keep.refl _ w).alloc _) hk1 (fun k hk hk' => by simp [Value.ownBlock] at hk'; omega)
  have hnew : ∀ k, v'.ownBlock = some k → w.heap.size ≤ k := fun k hk => by
    have := hat1 k hk
    simp [Value.ownBlock] at this
    omega
  rw [Nat.zero_add, List.nil_append] at ho1
  obtain ⟨hlen, hv | ⟨gn, on, cn, cur, hv, r⟩⟩ := ho1
  · exact absurd hv.2 (by omega)
  · subst hv
    exact ⟨gn, on, cn, rfl, ⟨hlen, .inr ⟨gn, on, cn, cur, rfl, r⟩⟩, hf1, hnew gn rfl⟩

set_option maxHeartbeats 2000000 in
theorem copy_any (g gs off cap room : Nat) (L : List (Int × Int)) (w : World) (h : Held g gs off cap room L w) :
    Calls Try.prog 22 #[.pointer (some ⟨g, 0, none⟩)] w fun e w' => ∃ g' gs' off' cap', e = .returned (.pointer (some ⟨g', 0, none⟩)) ∧ Held g' gs' off' cap' room L w' ∧ Fresh w w' ∧ w.heap.size ≤ g' ∧ w.heap.size ≤ gs' := by
  obtain ⟨c, first, h⟩ := h
  have hb := h.s.blk.cell
  have hg := h.s.blk.lt
  have hl := h.r.len
  have hp := h.r.pos
  have hown := h.s.own
  rw [hl] at hown
  have HC : Hid (∀ W, Fresh w W → Calls Try.prog 39 #[.slice (some ⟨gs, off, none⟩) room cap] W fun e w' => ∃ gn on cn, e = .returned (.slice (some ⟨gn, on, none⟩) room cn) ∧ OwnS w' 66 2 (.slice (some ⟨gn, on, none⟩) room cn) room (cells c) ∧ Fresh W w' ∧ W.heap.size ≤ gn) := fun W f => cloneR_any gs off room cap (cells c) W (hown.fresh f) (cells_one c) (by omega) (by omega)
  have HB := Lib.hid h.s.blk
  have HR := Lib.hid h.r
  have HA := Lib.hid h.asc
  have kb := fun (W : World) (f : Fresh w W) (i : Nat) => (f.blk_ HB.out).cell i
  have fw : Fresh w w := Keep.refl _ _
  clear h hown
  go_enter Try.func22, Try.ntmps22
  go_wp2_with fail
  go_region_held3 (fun W => Fresh w W)
    (first | (with_reducible assumption) | ((repeat (first | (with_reducible exact Keep.refl _ _) | (with_reducible assumption) | (with_reducible refine Keep.drew ?_) | (with_reducible refine Keep.drewN ?_ _) | (with_reducible refine Keep.alloc ?_ _) | (with_reducible refine Keep.setCell ?_ ?_ _) | (with_reducible refine fun _ => rfl)))))
    ((go_at_call 39; (with_reducible refine (HC.out _ (by (repeat (first | (with_reducible exact Keep.refl _ _) | (with_reducible assumption) | (with_reducible refine Keep.drew ?_) | (with_reducible refine Keep.drewN ?_ _) | (with_reducible refine Keep.alloc ?_ _) | (with_reducible refine Keep.setCell ?_ ?_ _) | (with_reducible refine fun _ => rfl))))).mono ?_); rintro e w4 ⟨gn, on, cn, rfl, o4, f4, n4⟩; have O4 := Lib.hid o4; have N4 := Lib.hid n4; have f4 := Keep.step (S := fun _ => False) (by (repeat (first | (with_reducible exact Keep.refl _ _) | (with_reducible assumption) | (with_reducible refine Keep.drew ?_) | (with_reducible refine Keep.drewN ?_ _) | (with_reducible refine Keep.alloc ?_ _) | (with_reducible refine Keep.setCell ?_ ?_ _) | (with_reducible refine fun _ => rfl))) : Fresh w _) f4 (fun _ _ h => h)))
  have F4 := Lib.hid f4
  have SZ := Lib.hid f4.size
  clear o4 n4 f4
  go_wp2_with fail
  go_ret
  refine ⟨w4.heap.size, gn, on, cn, rfl, ⟨c, first, ⟨⟨Blk.new _ _ _, ?_⟩, HR.out, HA.out⟩⟩, F4.out.alloc _, SZ.out, N4.out⟩
  rw [hl]
  exact O4.out.alloc _
end Go.Proofs.Ytfckbgifmajbjaa
