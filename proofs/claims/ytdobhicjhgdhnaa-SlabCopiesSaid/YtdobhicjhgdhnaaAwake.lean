/-
  The chapter's example.
-/
import Derived.Test.YtdobhicjhgdhnaaTake2
import Derived.Test.YtdobhicjhgdhnaaLive
namespace Go.Proofs.Ytdobhicjhgdhnaa
open Go.RowKit

theorem small_of {l : List Sl} {fr : List Int} {fresh : Nat} {res : Int} (h1 : l.length ≤ 100000) (h2 : fr.length ≤ 100000) (h3 : fresh ≤ 100000) (h4 : -1000000 ≤ res ∧ res ≤ 1000000) (h5 : ∀ x ∈ l, 0 ≤ x.t ∧ x.t ≤ 1000000) : St.Small ⟨l, fr, fresh, res⟩ := ⟨h1, h2, h3, h4, h5⟩
/-- no block of another type is the slab's -/
theorem SSlab.off {w : World} {g : Nat} {vs vf : Value} {s : St} (h : SSlab w g vs vf s) {b : Nat} {t : TypeId} {cs : Array Value} (hb : Blk w b t cs) (h1 : 68 ≠ t) (h2 : 73 ≠ t) (h3 : 3 ≠ t) : ¬ foot g vs vf b := by
  rintro (rfl | hk | hk)
  · have e1 := h.blk
    unfold Blk at e1 hb
    rw [e1] at hb
    injection hb with hb
    injection hb with _ hb
    exact h1 hb
  · exact h.os.ne_blk hb h2 hk
  · exact h.of.ne_blk hb h3 hk
/-- the slab's blocks are new since w -/
def New (w : World) (g : Nat) (vs vf : Value) : Prop := ∀ k, foot g vs vf k → w.heap.size ≤ k
theorem New.step {w w1 : World} {g : Nat} {vs vf vs' vf' : Value} (h : New w g vs vf) (f : Fresh w w1) (l : Later w1 g vs vf vs' vf') : New w g vs' vf' := fun k hk => by
  rcases l k hk with h1 | h1
  · exact h k h1
  · have := f.size; omega
theorem Fresh.slab {w w1 w2 : World} {g : Nat} {vs vf : Value} (f : Fresh w w1) (k : Keep (foot g vs vf) w1 w2) (n : New w g vs vf) : Fresh w w2 := f.step k (fun i h hh => by have := n i hh; omega)
set_option maxHeartbeats 4000000 in
theorem awake_any (w : World) : Calls Try.prog 10 #[] w fun e w' => e = .returned (.bool true) ∧ Fresh w w' := by
  go_enter Try.func10, Try.ntmps10
  go_wp2_with fail
  refine (new_any 3 1 (by omega) (by omega) (by omega) (by omega) _).mono ?_
  rintro e w1 ⟨g, vs, vf1, rfl, s1, f1, n1⟩
  have F1 := Lib.hid f1
  have N1 : Hid (New w g vs vf1) := n1
  have S1 : Hid (SSlab w1 g vs vf1 ⟨[⟨0, 0, 0⟩, ⟨0, 0, 0⟩, ⟨0, 0, 0⟩], [], 0, 1⟩) := s1
  clear f1 n1 s1
  go_wp2_with fail
  refine (take_new g vs vf1 ⟨[⟨0, 0, 0⟩, ⟨0, 0, 0⟩, ⟨0, 0, 0⟩], [], 0, 1⟩ ⟨0, 0, 0⟩ 1 5 false _ (S1.out.fresh (Keep.refl _ _)) (small_of (by decide) (by decide) (by decide) (by decide) (by decide)) (by omega) (by omega) (by simp [St.full, St.left]) rfl rfl).mono ?_
  rintro e w2 ⟨rfl, vf2, s2, k2, l2⟩
  have F2 := Lib.hid (Fresh.slab (F1.out.step (Keep.refl _ _) (fun _ _ h => h)) k2 N1.out)
  have N2 := Lib.hid (N1.out.step (F1.out.step (Keep.refl _ _) (fun _ _ h => h)) l2)
  have S2 : Hid (SSlab w2 g vs vf2 ⟨[⟨1, 1, 5⟩, ⟨0, 0, 0⟩, ⟨0, 0, 0⟩], [], 1, 1⟩) := s2
  clear s2 k2 l2
  go_wp2_with fail
  refine (take_new g vs vf2 ⟨[⟨1, 1, 5⟩, ⟨0, 0, 0⟩, ⟨0, 0, 0⟩], [], 1, 1⟩ ⟨0, 0, 0⟩ 3 6 false _ (S2.out.fresh ((Keep.refl _ _).alloc _)) (small_of (by decide) (by decide) (by decide) (by decide) (by decide)) (by omega) (by omega) (by simp [St.full, St.left]) rfl rfl).mono ?_
  rintro e w3 ⟨rfl, vf3, s3, k3, l3⟩
  have F3 := Lib.hid (Fresh.slab (F2.out.step ((Keep.refl _ _).alloc _) (fun _ _ h => h)) k3 N2.out)
  have N3 := Lib.hid (N2.out.step (F2.out.step ((Keep.refl _ _).alloc _) (fun _ _ h => h)) l3)
  have S3 : Hid (SSlab w3 g vs vf3 ⟨[⟨1, 1, 5⟩, ⟨3, 1, 6⟩, ⟨0, 0, 0⟩], [], 2, 1⟩) := s3
  have Ap : Blk (w2.alloc (.cells #[.int .i64 0, .int .i64 1] 32)) w2.heap.size 32 #[.int .i64 0, .int .i64 1] := Blk.new w2 _ _
  have A3 := Lib.hid (Ap.keep k3 ((S2.out.fresh ((Keep.refl _ _).alloc _)).off Ap (by decide) (by decide) (by decide)))
  clear s3 k3 l3 Ap
  go_wp2_with fail
  refine (take_full g vs vf3 ⟨[⟨1, 1, 5⟩, ⟨3, 1, 6⟩, ⟨0, 0, 0⟩], [], 2, 1⟩ 1 7 false _ (S3.out.fresh ((Keep.refl _ _).alloc _)) (small_of (by decide) (by decide) (by decide) (by decide) (by decide)) (by omega) (by omega) (by simp [St.full, St.left])).mono ?_
  rintro e w4 ⟨rfl, f4⟩
  have F4 := Lib.hid (F3.out.step (Keep.step ((Keep.refl _ _).alloc _) f4 (fun _ _ h => h)) (fun _ _ h => h))
  have A4 := Lib.hid (Fresh.blk_ f4 (A3.out.alloc (.cells #[.int .i64 1, .int .i64 1] 32)))
  have Bp : Blk (w3.alloc (.cells #[.int .i64 1, .int .i64 1] 32)) w3.heap.size 32 #[.int .i64 1, .int .i64 1] := Blk.new w3 _ _
  have B4 := Lib.hid (Fresh.blk_ f4 Bp)
  have N4 := N3
  have S4 := Lib.hid ((S3.out.fresh ((Keep.refl _ _).alloc _)).fresh f4)
  clear f4 Bp
  obtain ⟨vf4, hvf⟩ : ∃ v, v = vf3 := ⟨_, rfl⟩
  rw [← hvf] at N4 S4
  clear hvf
  go_wp2_with fail
  refine (take_new g vs vf4 ⟨[⟨1, 1, 5⟩, ⟨3, 1, 6⟩, ⟨0, 0, 0⟩], [], 2, 1⟩ ⟨0, 0, 0⟩ 4 7 true _ (S4.out.fresh ((Keep.refl _ _).alloc _)) (small_of (by decide) (by decide) (by decide) (by decide) (by decide)) (by omega) (by omega) (by simp [St.full, St.left]) rfl rfl).mono ?_
  rintro e w5 ⟨rfl, vf5, s5, k5, l5⟩
  have F5 := Lib.hid (Fresh.slab (F4.out.step ((Keep.refl _ _).alloc _) (fun _ _ h => h)) k5 N4.out)
  have N5 := Lib.hid (N4.out.step (F4.out.step ((Keep.refl _ _).alloc _) (fun _ _ h => h)) l5)
  have S5 : Hid (SSlab w5 g vs vf5 ⟨[⟨1, 1, 5⟩, ⟨3, 1, 6⟩, ⟨4, 1, 7⟩], [], 3, 1⟩) := s5
  have A5 := Lib.hid ((A4.out.alloc (.cells #[.int .i64 0, .int .i64 0] 32)).keep k5 ((S4.out.fresh ((Keep.refl _ _).alloc _)).off (A4.out.alloc (.cells #[.int .i64 0, .int .i64 0] 32)) (by decide) (by decide) (by decide)))
  have B5 := Lib.hid ((B4.out.alloc (.cells #[.int .i64 0, .int .i64 0] 32)).keep k5 ((S4.out.fresh ((Keep.refl _ _).alloc _)).off (B4.out.alloc (.cells #[.int .i64 0, .int .i64 0] 32)) (by decide) (by decide) (by decide)))
  have Xp : Blk (w4.alloc (.cells #[.int .i64 0, .int .i64 0] 32)) w4.heap.size 32 #[.int .i64 0, .int .i64 0] := Blk.new w4 _ _
  have X5 := Lib.hid (Xp.keep k5 ((S4.out.fresh ((Keep.refl _ _).alloc _)).off Xp (by decide) (by decide) (by decide)))
  clear s5 k5 l5 Xp
  have cA := A5.out.cell
  have lA := A5.out.lt
  have mA := Nat.lt_succ_of_lt lA
  have cB := B5.out.cell
  have lB := B5.out.lt
  have mB := Nat.lt_succ_of_lt lB
  have cX := X5.out.cell
  have lX := X5.out.lt
  have mX := Nat.lt_succ_of_lt lX
  go_wp2_with fail
  refine (free_any g vs vf5 ⟨[⟨1, 1, 5⟩, ⟨3, 1, 6⟩, ⟨4, 1, 7⟩], [], 3, 1⟩ 0 1 _ (S5.out.fresh ((Keep.refl _ _).alloc _)) (by decide) (by decide)).mono ?_
  rintro e w6 (⟨i0, x0, vf6, ht, rfl, s6, k6, l6⟩ | ⟨hn, _, _⟩)
  rotate_left
  · exact absurd ⟨rfl, rfl, by decide, rfl⟩ (hn 0 ⟨1, 1, 5⟩)
  obtain ⟨hi0, hx0, _, _⟩ := ht
  obtain rfl : i0 = 0 := by omega
  obtain rfl : (⟨1, 1, 5⟩ : Sl) = x0 := by simpa using hx0
  clear hi0 hx0
  have F6 := Lib.hid (Fresh.slab (F5.out.step ((Keep.refl _ _).alloc _) (fun _ _ h => h)) k6 N5.out)
  have N6 := Lib.hid (N5.out.step (F5.out.step ((Keep.refl _ _).alloc _) (fun _ _ h => h)) l6)
  have S6 : Hid (SSlab w6 g vs vf6 ⟨[⟨0, 1, 0⟩, ⟨3, 1, 6⟩, ⟨4, 1, 7⟩], [0], 3, 1⟩) := s6
  have A6 := Lib.hid ((A5.out.alloc (.cells #[.int .i64 2, .int .i64 1] 32)).keep k6 ((S5.out.fresh ((Keep.refl _ _).alloc _)).off (A5.out.alloc (.cells #[.int .i64 2, .int .i64 1] 32)) (by decide) (by decide) (by decide)))
  have B6 := Lib.hid ((B5.out.alloc (.cells #[.int .i64 2, .int .i64 1] 32)).keep k6 ((S5.out.fresh ((Keep.refl _ _).alloc _)).off (B5.out.alloc (.cells #[.int .i64 2, .int .i64 1] 32)) (by decide) (by decide) (by decide)))
  have X6 := Lib.hid ((X5.out.alloc (.cells #[.int .i64 2, .int .i64 1] 32)).keep k6 ((S5.out.fresh ((Keep.refl _ _).alloc _)).off (X5.out.alloc (.cells #[.int .i64 2, .int .i64 1] 32)) (by decide) (by decide) (by decide)))
  have Cp : Blk (w5.alloc (.cells #[.int .i64 2, .int .i64 1] 32)) w5.heap.size 32 #[.int .i64 2, .int .i64 1] := Blk.new w5 _ _
  have C6 := Lib.hid (Cp.keep k6 ((S5.out.fresh ((Keep.refl _ _).alloc _)).off Cp (by decide) (by decide) (by decide)))
  clear s6 k6 l6 Cp
  go_wp2_with fail
  refine (take_freed g vs vf6 ⟨[⟨0, 1, 0⟩, ⟨3, 1, 6⟩, ⟨4, 1, 7⟩], [0], 3, 1⟩ [] 0 ⟨0, 1, 0⟩ 1 8 true _ (S6.out.fresh (Keep.refl _ _)) (small_of (by decide) (by decide) (by decide) (by decide) (by decide)) (by omega) (by omega) (by simp [St.full, St.left]) rfl rfl).mono ?_
  rintro e w7 ⟨rfl, vf7, s7, k7, l7⟩
  have F7 := Lib.hid (Fresh.slab (F6.out.step (Keep.refl _ _) (fun _ _ h => h)) k7 N6.out)
  have N7 := Lib.hid (N6.out.step (F6.out.step (Keep.refl _ _) (fun _ _ h => h)) l7)
  have S7 : Hid (SSlab w7 g vs vf7 ⟨[⟨1, 2, 8⟩, ⟨3, 1, 6⟩, ⟨4, 1, 7⟩], [], 3, 1⟩) := s7
  have A7 := Lib.hid ((A6.out).keep k7 ((S6.out.fresh (Keep.refl _ _)).off (A6.out) (by decide) (by decide) (by decide)))
  have B7 := Lib.hid ((B6.out).keep k7 ((S6.out.fresh (Keep.refl _ _)).off (B6.out) (by decide) (by decide) (by decide)))
  have X7 := Lib.hid ((X6.out).keep k7 ((S6.out.fresh (Keep.refl _ _)).off (X6.out) (by decide) (by decide) (by decide)))
  have C7 := Lib.hid ((C6.out).keep k7 ((S6.out.fresh (Keep.refl _ _)).off (C6.out) (by decide) (by decide) (by decide)))
  clear s7 k7 l7
  have cA := A7.out.cell
  have lA := A7.out.lt
  have mA := Nat.lt_succ_of_lt lA
  have cB := B7.out.cell
  have lB := B7.out.lt
  have mB := Nat.lt_succ_of_lt lB
  have cX := X7.out.cell
  have lX := X7.out.lt
  have mX := Nat.lt_succ_of_lt lX
  have cC := C7.out.cell
  have lC := C7.out.lt
  have mC := Nat.lt_succ_of_lt lC
  go_wp2_with fail
  refine (get_any g vs vf7 ⟨[⟨1, 2, 8⟩, ⟨3, 1, 6⟩, ⟨4, 1, 7⟩], [], 3, 1⟩ 0 1 _ (S7.out.fresh ((Keep.refl _ _).alloc _)) (by decide)).mono ?_
  rintro e w8 ⟨f8, ⟨i0, x0, ht, rfl⟩ | ⟨_, rfl⟩⟩
  · obtain ⟨hi0, hx0, _, ht1⟩ := ht
    obtain rfl : i0 = 0 := by omega
    obtain rfl : (⟨1, 2, 8⟩ : Sl) = x0 := by simpa using hx0
    exact absurd ht1 (by decide)
  have F8 := Lib.hid (F7.out.step (Keep.step ((Keep.refl _ _).alloc _) f8 (fun _ _ h => h)) (fun _ _ h => h))
  have A8 := Lib.hid (Fresh.blk_ f8 (A7.out.alloc (.cells #[.int .i64 0, .int .i64 2] 32)))
  have B8 := Lib.hid (Fresh.blk_ f8 (B7.out.alloc (.cells #[.int .i64 0, .int .i64 2] 32)))
  have X8 := Lib.hid (Fresh.blk_ f8 (X7.out.alloc (.cells #[.int .i64 0, .int .i64 2] 32)))
  have C8 := Lib.hid (Fresh.blk_ f8 (C7.out.alloc (.cells #[.int .i64 0, .int .i64 2] 32)))
  have Dp : Blk (w7.alloc (.cells #[.int .i64 0, .int .i64 2] 32)) w7.heap.size 32 #[.int .i64 0, .int .i64 2] := Blk.new w7 _ _
  have D8 := Lib.hid (Fresh.blk_ f8 Dp)
  have S8 := Lib.hid ((S7.out.fresh ((Keep.refl _ _).alloc _)).fresh f8)
  clear f8 Dp
  have cA := A8.out.cell
  have lA := A8.out.lt
  have mA := Nat.lt_succ_of_lt lA
  have cB := B8.out.cell
  have lB := B8.out.lt
  have mB := Nat.lt_succ_of_lt lB
  have cX := X8.out.cell
  have lX := X8.out.lt
  have mX := Nat.lt_succ_of_lt lX
  have cC := C8.out.cell
  have lC := C8.out.lt
  have mC := Nat.lt_succ_of_lt lC
  have cD := D8.out.cell
  have lD := D8.out.lt
  have mD := Nat.lt_succ_of_lt lD
  have hL := live_all g vs vf7 ⟨[⟨1, 2, 8⟩, ⟨3, 1, 6⟩, ⟨4, 1, 7⟩], [], 3, 1⟩ _ S8.out (by decide)
  rw [show List.countP isLive (St.mk [⟨1, 2, 8⟩, ⟨3, 1, 6⟩, ⟨4, 1, 7⟩] [] 3 1).l = 3 by decide] at hL
  have HL := Lib.hid hL
  clear hL
  go_wp2_with (go_at_call 14; refine HL.out.mono ?_; rintro e wz ⟨rfl, fz⟩)
  go_ret
  exact ⟨rfl, F8.out.step fz (fun _ _ h => h)⟩
end Go.Proofs.Ytdobhicjhgdhnaa
