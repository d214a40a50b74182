/-
  The law's does: Next, and Batch.
-/
import Derived.Test.YtecobebndjnhnaaDoesD
namespace Go.Proofs.Ytecobebndjnhnaa
open Go.RowKit
attribute [local go_sem ↓] Go.wp_at_zero Go.wp_at_succ run_max

set_option maxHeartbeats 4000000 in
set_option maxRecDepth 100000 in
theorem does_next (w : World) (k g : Nat) (v1 v2 : Value) (l m : List Ev) (gr : Nat) (u1 u2 : Value) (L B : List Ev) (wr : World) (ask : Int) (x : Ev) (an : Bool) (n : Int) (h : PQ w k g v1 v2 l m gr u1 u2 L B wr) (hk : k ≤ 1000) (h0 : ask ≠ 0) (h1 : ask ≠ 1) :
    Calls Try.prog 27 #[.pointer (some ⟨g, 0, none⟩), .pointer (some ⟨gr, 0, none⟩), .agg (QOp.mk ask (x, an) n).arr] wr (DoesP w (k + 1) g gr) := by
  simp only [QOp.arr]
  have F0 : Hid (Fresh wr (wr.alloc (.cells #[.int .i64 ask, .int .i64 x.a, .int .i64 x.s, .int .i64 x.t, .int .i64 x.n, .int .i64 x.d, .int .i64 x.k, .int .i64 x.x, .bool an, .int .i64 n] 50))) := Lib.hid ((Keep.refl _ _).alloc _)
  have B0 := Lib.hid (Blk.new wr 50 #[.int .i64 ask, .int .i64 x.a, .int .i64 x.s, .int .i64 x.t, .int .i64 x.n, .int .i64 x.d, .int .i64 x.k, .int .i64 x.x, .bool an, .int .i64 n])
  have H := Lib.hid h
  have hfew := h.few
  have hL : L.length ≤ 1000 := by rw [h.pl.length_eq]; omega
  have z0 : (ask == 0) = false := by simpa using h0
  have z1 : (ask == 1) = false := by simpa using h1
  clear h h0 h1
  go_enter Try.func27, Try.ntmps27
  go_wp2_with fail
  obtain ⟨w0, hw0⟩ : ∃ w0, wr.alloc (.cells #[.int .i64 ask, .int .i64 x.a, .int .i64 x.s, .int .i64 x.t, .int .i64 x.n, .int .i64 x.d, .int .i64 x.k, .int .i64 x.x, .bool an, .int .i64 n] 50) = w0 := ⟨_, rfl⟩
  rw [hw0] at F0 B0 ⊢
  clear hw0
  have H0 := Lib.hid (H.out.fresh F0.out)
  clear H
  have OKL : Hid (∀ z ∈ L, 0 ≤ z.a) := Lib.hid fun z hz => H0.out.ok z (H0.out.pl.mem_iff.1 hz)
  have P1 := Lib.hid (next_any g v1 v2 l m n w0 H0.out.p.q.q (by omega))
  have P2 : Hid (∀ W, Fresh w0 W → Calls Try.prog 45 #[.pointer (some ⟨gr, 0, none⟩), .int .i64 n] W fun e w' => e = .returned (.int .i64 (match nextE l n with | some y => y.a | none => -1)) ∧ Fresh W w') := Lib.hid fun W f => (rnext_any gr u1 u2 L B n W (H0.out.p.r.fresh f) (by omega) OKL.out).mono fun e w' ⟨r, h1, h2, h3⟩ => ⟨by rw [h1, h2.of H0.out.pl H0.out.p.q.q.s1]; cases nextE l n <;> rfl, h3⟩
  have SB : Hid (Srt (atT l n)) := Lib.hid (List.Pairwise.sublist List.filter_sublist H0.out.p.q.q.s1)
  have hbl : (atT l n).length ≤ l.length := List.length_filter_le _ _
  have P3 : Hid (∀ W, Fresh w0 W → Calls Try.prog 25 #[.pointer (some ⟨g, 0, none⟩), .int .i64 n] W fun e w' => ∃ A c, e = .returned (.slice A (atT l n).length c) ∧ EvAt w' (.slice A (atT l n).length c) (atT l n) ∧ Fresh W w') := Lib.hid fun W f => (batch_any g v1 v2 l m n W (H0.out.p.q.q.fresh f) (by omega)).mono fun e w' ⟨v', h1, h2, h3, _⟩ => by
    change OwnS w' _ 7 v' (atT l n).length (cells (atT l n)) at h2
    obtain ⟨A, c, rfl, _, _⟩ := h2.shape
    exact ⟨A, c, h1, h2.evs, h3⟩
  have P4 : Hid (∀ W, Fresh w0 W → Calls Try.prog 46 #[.pointer (some ⟨gr, 0, none⟩), .int .i64 n] W fun e w' => ∃ A c, e = .returned (.slice A (atT l n).length c) ∧ EvAt w' (.slice A (atT l n).length c) (atT l n) ∧ Fresh W w') := Lib.hid fun W f => (rbatch_any gr u1 u2 L B n W (H0.out.p.r.fresh f) (by omega)).mono fun e w' ⟨v', out, h1, h2, h3, h4, h5, _⟩ => by
    have e1 : out = atT l n := srt_perm h2 SB.out (h3.trans (H0.out.pl.filter _))
    subst e1
    obtain ⟨A, c, rfl, _, _⟩ := h4.shape
    exact ⟨A, c, h1, h4.evs, h5⟩
  have EV : Hid (∀ (W : World) (A A' : Option Addr) (c c' : Nat), EvAt W (.slice A (atT l n).length c) (atT l n) → EvAt W (.slice A' (atT l n).length c') (atT l n) → Calls Try.prog 26 #[.slice A (atT l n).length c, .slice A' (atT l n).length c'] W fun e w' => e = .returned (.bool true) ∧ Fresh W w') := Lib.hid fun W A A' c c' ha hb => (events_any _ _ _ _ W ha hb (by omega) (by omega)).mono fun e w' ⟨h1, h2⟩ => ⟨by rw [h1]; simp, h2⟩
  have FIN : Hid (∀ w4 : World, Fresh w0 w4 → DoesP w (k + 1) g gr (.returned (.bool true)) w4) := Lib.hid fun w4 f => ⟨rfl, _, _, _, _, _, _, _, _, (H0.out.fresh f).more⟩
  have POS : Hid (∀ y, nextE l n = some y → 0 ≤ y.a) := Lib.hid fun y hy => H0.out.ok y (next_some H0.out.p.q.q.s1 hy).1
  obtain ⟨bl, hbl'⟩ : ∃ bl, atT l n = bl := ⟨_, rfl⟩
  rw [hbl'] at P3 P4 EV
  clear hbl hbl' hfew hL
  have cB := B0.out.cell
  cases hne : nextE l n with
  | none =>
    rw [hne] at P1 P2
    have hmx : max (0 : Int) (-1) = 0 := rfl
    clear hne
    go_wp2_with fail
    refine P1.out.mono ?_
    rintro e w3 ⟨rfl, f3⟩
    have F3 := Lib.hid f3
    have cB3 := (f3.blk_ B0.out).cell
    clear f3 cB
    go_wp2_with fail
    refine (P2.out _ F3.out).mono ?_
    rintro e w4 ⟨rfl, f4⟩
    have F4 := Lib.hid (F3.out.step f4 (fun _ _ h => h))
    have B4 := Lib.hid (Fresh.blk_ F4.out B0.out)
    have HX := Lib.hid (show ∀ W, Fresh w4 W → Fresh w0 W from fun W f => F4.out.step f (fun _ _ h => h))
    have kX := fun (W : World) (f : Fresh w4 W) (i : Nat) => (Fresh.blk_ f B4.out).cell i
    clear f4 cB3
    go_wp2_with fail
    go_region_held3 (fun W' => Fresh w4 W') (exact (fun (f : Fresh w4 _) => f) (by (repeat (first | (with_reducible exact Keep.refl _ _) | (with_reducible assumption) | (with_reducible refine Keep.drew ?_) | (with_reducible refine Keep.drewN ?_ _) | (with_reducible refine Keep.alloc ?_ _) | (with_reducible refine Keep.setCell ?_ ?_ _) | (with_reducible refine fun _ => rfl)))))
      ((first
        | (go_at_call 25; (with_reducible refine (P3.out _ (HX.out _ (by (repeat (first | (with_reducible exact Keep.refl _ _) | (with_reducible assumption) | (with_reducible refine Keep.drew ?_) | (with_reducible refine Keep.drewN ?_ _) | (with_reducible refine Keep.alloc ?_ _) | (with_reducible refine Keep.setCell ?_ ?_ _) | (with_reducible refine fun _ => rfl)))))).mono ?_); rintro e5 w5 ⟨A5, c5, rfl, o5, f5⟩; have f5 := Keep.step (S := fun _ => False) (by (repeat (first | (with_reducible exact Keep.refl _ _) | (with_reducible assumption) | (with_reducible refine Keep.drew ?_) | (with_reducible refine Keep.drewN ?_ _) | (with_reducible refine Keep.alloc ?_ _) | (with_reducible refine Keep.setCell ?_ ?_ _) | (with_reducible refine fun _ => rfl))) : Fresh w4 _) f5 (fun _ _ h => h))
        | (go_at_call 46; (with_reducible refine (P4.out _ (HX.out _ (by (repeat (first | (with_reducible exact Keep.refl _ _) | (with_reducible assumption) | (with_reducible refine Keep.drew ?_) | (with_reducible refine Keep.drewN ?_ _) | (with_reducible refine Keep.alloc ?_ _) | (with_reducible refine Keep.setCell ?_ ?_ _) | (with_reducible refine fun _ => rfl)))))).mono ?_); rintro e6 w6 ⟨A6, c6, rfl, o6, f6⟩; have O5 := o5.fresh f6; have f6 := Keep.step (S := fun _ => False) (by (repeat (first | (with_reducible exact Keep.refl _ _) | (with_reducible assumption) | (with_reducible refine Keep.drew ?_) | (with_reducible refine Keep.drewN ?_ _) | (with_reducible refine Keep.alloc ?_ _) | (with_reducible refine Keep.setCell ?_ ?_ _) | (with_reducible refine fun _ => rfl))) : Fresh w4 _) f6 (fun _ _ h => h))
        | (go_at_call 26; (with_reducible refine (EV.out _ _ _ _ _ O5 o6).mono ?_); rintro e7 w7 ⟨rfl, f7⟩; have f7 := Keep.step (S := fun _ => False) (by (repeat (first | (with_reducible exact Keep.refl _ _) | (with_reducible assumption) | (with_reducible refine Keep.drew ?_) | (with_reducible refine Keep.drewN ?_ _) | (with_reducible refine Keep.alloc ?_ _) | (with_reducible refine Keep.setCell ?_ ?_ _) | (with_reducible refine fun _ => rfl))) : Fresh w4 _) f7 (fun _ _ h => h))))
    have FF := Lib.hid (FIN.out _ (HX.out _ f7))
    clear o5 O5 o6 f5 f6 f7
    go_wp2_with fail
    go_ret
    exact FF.out
  | some y =>
    rw [hne] at P1 P2
    have hy := POS.out y hne
    have hmx : max (0 : Int) y.a = y.a := by omega
    have hge : decide ((0 : Int) ≤ y.a) = true := decide_eq_true hy
    clear hne
    go_wp2_with fail
    refine P1.out.mono ?_
    rintro e w3 ⟨rfl, f3⟩
    have F3 := Lib.hid f3
    have cB3 := (f3.blk_ B0.out).cell
    clear f3 cB
    go_wp2_with fail
    refine (P2.out _ F3.out).mono ?_
    rintro e w4 ⟨rfl, f4⟩
    have F4 := Lib.hid (F3.out.step f4 (fun _ _ h => h))
    have B4 := Lib.hid (Fresh.blk_ F4.out B0.out)
    have HX := Lib.hid (show ∀ W, Fresh w4 W → Fresh w0 W from fun W f => F4.out.step f (fun _ _ h => h))
    have kX := fun (W : World) (f : Fresh w4 W) (i : Nat) => (Fresh.blk_ f B4.out).cell i
    clear f4 cB3
    go_wp2_with fail
    go_region_held3 (fun W' => Fresh w4 W') (exact (fun (f : Fresh w4 _) => f) (by (repeat (first | (with_reducible exact Keep.refl _ _) | (with_reducible assumption) | (with_reducible refine Keep.drew ?_) | (with_reducible refine Keep.drewN ?_ _) | (with_reducible refine Keep.alloc ?_ _) | (with_reducible refine Keep.setCell ?_ ?_ _) | (with_reducible refine fun _ => rfl)))))
      ((first
        | (go_at_call 25; (with_reducible refine (P3.out _ (HX.out _ (by (repeat (first | (with_reducible exact Keep.refl _ _) | (with_reducible assumption) | (with_reducible refine Keep.drew ?_) | (with_reducible refine Keep.drewN ?_ _) | (with_reducible refine Keep.alloc ?_ _) | (with_reducible refine Keep.setCell ?_ ?_ _) | (with_reducible refine fun _ => rfl)))))).mono ?_); rintro e5 w5 ⟨A5, c5, rfl, o5, f5⟩; have f5 := Keep.step (S := fun _ => False) (by (repeat (first | (with_reducible exact Keep.refl _ _) | (with_reducible assumption) | (with_reducible refine Keep.drew ?_) | (with_reducible refine Keep.drewN ?_ _) | (with_reducible refine Keep.alloc ?_ _) | (with_reducible refine Keep.setCell ?_ ?_ _) | (with_reducible refine fun _ => rfl))) : Fresh w4 _) f5 (fun _ _ h => h))
        | (go_at_call 46; (with_reducible refine (P4.out _ (HX.out _ (by (repeat (first | (with_reducible exact Keep.refl _ _) | (with_reducible assumption) | (with_reducible refine Keep.drew ?_) | (with_reducible refine Keep.drewN ?_ _) | (with_reducible refine Keep.alloc ?_ _) | (with_reducible refine Keep.setCell ?_ ?_ _) | (with_reducible refine fun _ => rfl)))))).mono ?_); rintro e6 w6 ⟨A6, c6, rfl, o6, f6⟩; have O5 := o5.fresh f6; have f6 := Keep.step (S := fun _ => False) (by (repeat (first | (with_reducible exact Keep.refl _ _) | (with_reducible assumption) | (with_reducible refine Keep.drew ?_) | (with_reducible refine Keep.drewN ?_ _) | (with_reducible refine Keep.alloc ?_ _) | (with_reducible refine Keep.setCell ?_ ?_ _) | (with_reducible refine fun _ => rfl))) : Fresh w4 _) f6 (fun _ _ h => h))
        | (go_at_call 26; (with_reducible refine (EV.out _ _ _ _ _ O5 o6).mono ?_); rintro e7 w7 ⟨rfl, f7⟩; have f7 := Keep.step (S := fun _ => False) (by (repeat (first | (with_reducible exact Keep.refl _ _) | (with_reducible assumption) | (with_reducible refine Keep.drew ?_) | (with_reducible refine Keep.drewN ?_ _) | (with_reducible refine Keep.alloc ?_ _) | (with_reducible refine Keep.setCell ?_ ?_ _) | (with_reducible refine fun _ => rfl))) : Fresh w4 _) f7 (fun _ _ h => h))))
    have FF := Lib.hid (FIN.out _ (HX.out _ f7))
    clear o5 O5 o6 f5 f6 f7
    go_wp2_with fail
    go_ret
    exact FF.out
theorem does_any (w : World) (k g : Nat) (v1 v2 : Value) (l m : List Ev) (gr : Nat) (u1 u2 : Value) (L B : List Ev) (wr : World) (o : QOp) (h : PQ w k g v1 v2 l m gr u1 u2 L B wr) (hk : k ≤ 1000) :
    Calls Try.prog 27 #[.pointer (some ⟨g, 0, none⟩), .pointer (some ⟨gr, 0, none⟩), .agg o.arr] wr (DoesP w (k + 1) g gr) := by
  obtain ⟨ask, ⟨x, an⟩, n⟩ := o
  by_cases h0 : ask = 0
  · subst h0
    exact does_put w k g v1 v2 l m gr u1 u2 L B wr x an n h hk
  · by_cases h1 : ask = 1
    · subst h1
      exact does_drop w k g v1 v2 l m gr u1 u2 L B wr x an n h hk
    · exact does_next w k g v1 v2 l m gr u1 u2 L B wr ask x an n h hk h0 h1
end Go.Proofs.Ytecobebndjnhnaa
