/-
  slab.Slab[int]: find, Get, Set, Class.
-/
import Derived.Test.YtdobhicjhgdhnaaFns
namespace Go.Proofs.Ytdobhicjhgdhnaa
open Go.RowKit

/-- a handle that tells a thing: slot i -/
def St.tells (s : St) (h t : Int) (i : Nat) (x : Sl) : Prop := h = (i : Int) ∧ s.l[i]? = some x ∧ x.c ≠ 0 ∧ x.t = t

def hv (h t : Int) : Value := .agg #[.int .i64 h, .int .i64 t]
theorem find_nil (h t : Int) (w : World) : Calls Try.prog 27 #[.pointer none, .agg #[.int .i64 h, .int .i64 t]] w fun e w' => e = .returned (.tuple #[.pointer none, .int .i64 2]) ∧ Fresh w w' := by
  go_enter Try.func27, Try.ntmps27
  go_wp2
  go_ret2
  exact ⟨rfl, by (repeat (first | (with_reducible exact Keep.refl _ _) | (with_reducible assumption) | (with_reducible refine Keep.drew ?_) | (with_reducible refine Keep.drewN ?_ _) | (with_reducible refine Keep.alloc ?_ _) | (with_reducible refine Keep.setCell ?_ ?_ _) | (with_reducible refine fun _ => rfl)))⟩

theorem find_out (g : Nat) (vs vf : Value) (s : St) (h t : Int) (w : World) (hs : SSlab w g vs vf s) (ho : h < 0 ∨ s.l.length ≤ h) :
    Calls Try.prog 27 #[.pointer (some ⟨g, 0, none⟩), .agg #[.int .i64 h, .int .i64 t]] w fun e w' => e = .returned (.tuple #[.pointer none, .int .i64 12]) ∧ Fresh w w' := by
  have hb := hs.blk.cell
  have hg := hs.blk.lt
  obtain ⟨A, cap, rfl, _, _⟩ := hs.os.shape
  obtain ⟨A', cap', rfl, _, _⟩ := hs.of.shape
  clear hs
  by_cases h1 : h < 0
  · have t1 : decide (h < 0) = true := by simpa using h1
    go_enter Try.func27, Try.ntmps27
    go_wp2_with fail
    go_quiet (fail)
    go_wp2
    go_ret2
    exact ⟨rfl, ((Keep.refl _ w).alloc _).drewN _⟩
  · have t1 : decide (h < 0) = false := by simpa using h1
    have t2 : decide ((s.l.length : Int) ≤ h) = true := by simp; omega
    have h2 : (s.l.length : Int) ≤ h := by omega
    go_enter Try.func27, Try.ntmps27
    go_wp2_with fail
    go_quiet (fail)
    go_wp2
    go_ret2
    exact ⟨rfl, ((Keep.refl _ w).alloc _).drewN _⟩

theorem find_in (g gs off cap : Nat) (vf : Value) (s : St) (i : Nat) (x : Sl) (t : Int) (w : World) (hs : SSlab w g (.slice (some ⟨gs, off, none⟩) s.l.length cap) vf s) (hx : s.l[i]? = some x) (_hn : s.l.length ≤ 100000) :
    Calls Try.prog 27 #[.pointer (some ⟨g, 0, none⟩), .agg #[.int .i64 (i : Nat), .int .i64 t]] w fun e w' =>
      e = .returned (if x.c ≠ 0 ∧ x.t = t then .tuple #[.pointer (some ⟨gs, off + i * 3, none⟩), .int .i64 0] else .tuple #[.pointer none, .int .i64 12]) ∧ Fresh w w' := by
  have hb := hs.blk.cell
  have hg := hs.blk.lt
  obtain ⟨A', cap', rfl, _, _⟩ := hs.of.shape
  obtain ⟨lg, _, lc, lm, hc⟩ := hs.os.at_
  have hi := (List.getElem?_eq_some_iff.1 hx).1
  obtain ⟨c0, c1, _⟩ := slots_at _ _ _ hx
  have c0 := hc _ _ c0
  have c1 := hc _ _ c1
  rw [← Nat.add_assoc] at c1
  have lm : cap ≤ 9223372036854775807 := by unfold maxLen at lm; omega
  have t1 : decide ((i : Int) < 0) = false := by simp
  have t2 : decide ((s.l.length : Int) ≤ (i : Int)) = false := by simp; omega
  have t2' : decide (s.l.length ≤ i) = false := by simp; omega
  have i0 : (0 : Int) ≤ (i : Int) := by omega
  have i1 : (i : Int) < (s.l.length : Int) := by omega
  clear hs hc hx
  have lw : gs < (w.alloc (.cells #[.int .i64 (i : Nat), .int .i64 t] 32)).heap.size := by simp; omega
  obtain ⟨xc, xt, xv⟩ := x
  simp only at c0 c1 ⊢
  by_cases d1 : xc = 0
  · subst d1
    rw [if_neg (by simp)]
    go_enter Try.func27, Try.ntmps27
    go_wp2_with fail
    go_quiet (fail)
    go_wp2_with fail
    go_quiet (fail)
    go_wp2_with fail
    go_quiet (fail)
    go_wp2
    go_ret2
    exact ⟨rfl, by (repeat (first | (with_reducible exact Keep.refl _ _) | (with_reducible assumption) | (with_reducible refine Keep.drew ?_) | (with_reducible refine Keep.drewN ?_ _) | (with_reducible refine Keep.alloc ?_ _) | (with_reducible refine Keep.setCell ?_ ?_ _) | (with_reducible refine fun _ => rfl)))⟩
  · have t3 : (xc == 0) = false := by simpa using d1
    by_cases d2 : xt = t
    · subst d2
      rw [if_pos ⟨d1, rfl⟩]
      clear d1
      go_enter Try.func27, Try.ntmps27
      go_wp2_with fail
      go_quiet (fail)
      go_wp2_with fail
      go_quiet (fail)
      go_wp2_with fail
      go_quiet (fail)
      go_wp2
      go_ret2
      exact ⟨rfl, by (repeat (first | (with_reducible exact Keep.refl _ _) | (with_reducible assumption) | (with_reducible refine Keep.drew ?_) | (with_reducible refine Keep.drewN ?_ _) | (with_reducible refine Keep.alloc ?_ _) | (with_reducible refine Keep.setCell ?_ ?_ _) | (with_reducible refine fun _ => rfl)))⟩
    · have t4 : (xt != t) = true := by simpa using d2
      rw [if_neg (by simp [d2])]
      clear d1 d2
      go_enter Try.func27, Try.ntmps27
      go_wp2_with fail
      go_quiet (fail)
      go_wp2_with fail
      go_quiet (fail)
      go_wp2_with fail
      go_quiet (fail)
      go_wp2
      go_ret2
      exact ⟨rfl, by (repeat (first | (with_reducible exact Keep.refl _ _) | (with_reducible assumption) | (with_reducible refine Keep.drew ?_) | (with_reducible refine Keep.drewN ?_ _) | (with_reducible refine Keep.alloc ?_ _) | (with_reducible refine Keep.setCell ?_ ?_ _) | (with_reducible refine fun _ => rfl)))⟩

theorem find_any (g : Nat) (vs vf : Value) (s : St) (h t : Int) (w : World) (hs : SSlab w g vs vf s) (hn : s.l.length ≤ 100000) :
    Calls Try.prog 27 #[.pointer (some ⟨g, 0, none⟩), .agg #[.int .i64 h, .int .i64 t]] w fun e w' => Fresh w w' ∧
      ((∃ i x gs off cap, s.tells h t i x ∧ vs = .slice (some ⟨gs, off, none⟩) s.l.length cap ∧ e = .returned (.tuple #[.pointer (some ⟨gs, off + i * 3, none⟩), .int .i64 0])) ∨
       ((∀ i x, ¬ s.tells h t i x) ∧ e = .returned (.tuple #[.pointer none, .int .i64 12]))) := by
  by_cases ho : h < 0 ∨ s.l.length ≤ h
  · refine (find_out g vs vf s h t w hs ho).mono fun e w' ⟨h1, h2⟩ => ⟨h2, .inr ⟨?_, h1⟩⟩
    rintro i x ⟨rfl, hx, _⟩
    have := (List.getElem?_eq_some_iff.1 hx).1
    omega
  · obtain ⟨i, rfl⟩ := Int.eq_ofNat_of_zero_le (show 0 ≤ h by omega)
    obtain ⟨x, hx⟩ : ∃ x, s.l[i]? = some x := ⟨_, List.getElem?_eq_getElem (by omega)⟩
    obtain ⟨gs, off, cap, rfl, _, _, _, _⟩ := hs.os.form (by omega)
    refine (find_in g gs off cap vf s i x t w hs hx hn).mono fun e w' ⟨h1, h2⟩ => ⟨h2, ?_⟩
    by_cases hc : x.c ≠ 0 ∧ x.t = t
    · rw [if_pos hc] at h1
      exact .inl ⟨i, x, gs, off, cap, ⟨rfl, hx, hc⟩, rfl, h1⟩
    · rw [if_neg hc] at h1
      refine .inr ⟨?_, h1⟩
      rintro j y ⟨e1, e2, e3⟩
      have : i = j := by omega
      subst this
      rw [hx] at e2
      injection e2 with e2
      subst e2
      exact hc e3

theorem get_nil (h t : Int) (w : World) : Calls Try.prog 16 #[.pointer none, .agg #[.int .i64 h, .int .i64 t]] w fun e w' => e = .returned (.tuple #[.int .i64 0, .int .i64 2]) ∧ Fresh w w' := by
  go_enter Try.func16, Try.ntmps16
  go_wp2_with (go_at_call 27; refine (find_nil h t _).mono ?_; rintro e w1 ⟨rfl, f1⟩)
  go_ret2
  exact ⟨rfl, ((Keep.refl _ w).alloc _).step f1 (fun _ _ h => h)⟩
theorem get_any (g : Nat) (vs vf : Value) (s : St) (h t : Int) (w : World) (hs : SSlab w g vs vf s) (hn : s.l.length ≤ 100000) :
    Calls Try.prog 16 #[.pointer (some ⟨g, 0, none⟩), .agg #[.int .i64 h, .int .i64 t]] w fun e w' => Fresh w w' ∧
      ((∃ i x, s.tells h t i x ∧ e = .returned (.tuple #[.int .i64 x.v, .int .i64 0])) ∨ ((∀ i x, ¬ s.tells h t i x) ∧ e = .returned (.tuple #[.int .i64 0, .int .i64 12]))) := by
  have HS := Lib.hid hs
  clear hs
  go_enter Try.func16, Try.ntmps16
  go_wp2_with fail
  refine (find_any g vs vf s h t _ (HS.out.fresh ((Keep.refl _ _).alloc _)) hn).mono ?_
  have F0 : Fresh w (w.alloc (.cells #[.int .i64 h, .int .i64 t] 32)) := (Keep.refl _ _).alloc _
  rintro e w1 ⟨f1, ⟨i, x, gs, off, cap, ht, rfl, rfl⟩ | ⟨ht, rfl⟩⟩
  · obtain ⟨lg, _, _, _, hc⟩ := ((HS.out.fresh F0).fresh f1).os.at_
    have c2 := hc _ _ (slots_at _ _ _ ht.2.1).2.2
    rw [← Nat.add_assoc] at c2
    have HT := Lib.hid ht
    have HF := Lib.hid (F0.step f1 (fun _ _ h => h))
    clear ht f1 F0 hc HS
    go_wp2
    go_ret2
    exact ⟨HF.out, .inl ⟨i, x, HT.out, rfl⟩⟩
  · have HT := Lib.hid ht
    have HF := Lib.hid (F0.step f1 (fun _ _ h => h))
    clear ht f1 F0
    go_wp2
    go_ret2
    exact ⟨HF.out, .inr ⟨HT.out, rfl⟩⟩

theorem class_nil (h t : Int) (w : World) : Calls Try.prog 18 #[.pointer none, .agg #[.int .i64 h, .int .i64 t]] w fun e w' => e = .returned (.tuple #[.int .i64 0, .int .i64 2]) ∧ Fresh w w' := by
  go_enter Try.func18, Try.ntmps18
  go_wp2_with (go_at_call 27; refine (find_nil h t _).mono ?_; rintro e w1 ⟨rfl, f1⟩)
  go_ret2
  exact ⟨rfl, ((Keep.refl _ w).alloc _).step f1 (fun _ _ h => h)⟩
theorem class_any (g : Nat) (vs vf : Value) (s : St) (h t : Int) (w : World) (hs : SSlab w g vs vf s) (hn : s.l.length ≤ 100000) :
    Calls Try.prog 18 #[.pointer (some ⟨g, 0, none⟩), .agg #[.int .i64 h, .int .i64 t]] w fun e w' => Fresh w w' ∧
      ((∃ i x, s.tells h t i x ∧ e = .returned (.tuple #[.int .i64 x.c, .int .i64 0])) ∨ ((∀ i x, ¬ s.tells h t i x) ∧ e = .returned (.tuple #[.int .i64 0, .int .i64 12]))) := by
  have HS := Lib.hid hs
  clear hs
  go_enter Try.func18, Try.ntmps18
  go_wp2_with fail
  refine (find_any g vs vf s h t _ (HS.out.fresh ((Keep.refl _ _).alloc _)) hn).mono ?_
  have F0 : Fresh w (w.alloc (.cells #[.int .i64 h, .int .i64 t] 32)) := (Keep.refl _ _).alloc _
  rintro e w1 ⟨f1, ⟨i, x, gs, off, cap, ht, rfl, rfl⟩ | ⟨ht, rfl⟩⟩
  · obtain ⟨lg, _, _, _, hc⟩ := ((HS.out.fresh F0).fresh f1).os.at_
    have c2 := hc _ _ (slots_at _ _ _ ht.2.1).1
    have HT := Lib.hid ht
    have HF := Lib.hid (F0.step f1 (fun _ _ h => h))
    clear ht f1 F0 hc HS
    go_wp2
    go_ret2
    exact ⟨HF.out, .inl ⟨i, x, HT.out, rfl⟩⟩
  · have HT := Lib.hid ht
    have HF := Lib.hid (F0.step f1 (fun _ _ h => h))
    clear ht f1 F0
    go_wp2
    go_ret2
    exact ⟨HF.out, .inr ⟨HT.out, rfl⟩⟩

/-- a store into a slot -/
theorem SSlab.turn {w w' : World} {g gs off cap : Nat} {vf : Value} {s : St} {i : Nat} {x : Sl} (h : SSlab w g (.slice (some ⟨gs, off, none⟩) s.l.length cap) vf s) (hi : i < s.l.length)
    (hw : w' = ((w.setCell ⟨gs, off + i * 3, none⟩ (.int .i64 x.c)).setCell ⟨gs, off + i * 3 + 1, none⟩ (.int .i64 x.t)).setCell ⟨gs, off + i * 3 + 2, none⟩ (.int .i64 x.v)) :
    SSlab w' g (.slice (some ⟨gs, off, none⟩) s.l.length cap) vf { s with l := s.l.set i x } ∧ Keep (fun k => k = gs) w w' := by
  subst hw
  have hng : gs ≠ g := by
    have := h.os.ne_blk h.blk (by decide)
    simpa [Value.ownBlock] using this
  have hnf : vf.ownBlock ≠ some gs := fun e => h.os.ne_own h.of (by decide) gs rfl e
  refine ⟨⟨?_, ?_, ?_⟩, ?_⟩
  · exact ((h.blk.far (fun e => hng e.symm) _).far (fun e => hng e.symm) _).far (fun e => hng e.symm) _
  · have h1 := h.os.set_ (i * 3) (.int .i64 x.c) (by rw [slots_length]; omega)
    have h2 := h1.set_ (i * 3 + 1) (.int .i64 x.t) (by rw [List.length_set, slots_length]; omega)
    have h3 := h2.set_ (i * 3 + 2) (.int .i64 x.v) (by rw [List.length_set, List.length_set, slots_length]; omega)
    rw [← slots_set _ _ _ hi] at h3
    simp only [List.length_set]
    rw [show off + i * 3 + 1 = off + (i * 3 + 1) by omega, show off + i * 3 + 2 = off + (i * 3 + 2) by omega]
    exact h3
  · exact ((h.of.far hnf _).far hnf _).far hnf _
  · exact Keep.setCell (Keep.setCell (Keep.setCell (S := fun k => k = gs) (Keep.refl _ _) (fun _ => rfl) _) (fun _ => rfl) _) (fun _ => rfl) _
end Go.Proofs.Ytdobhicjhgdhnaa
