/- Chapter 13: LqB. -/
import Derived.Test.YthbcdkeammhakaaGreatP35
set_option maxRecDepth 100000
set_option maxHeartbeats 16000000
namespace Go.Proofs.YthbcdkeammhakaaGreat
open Go.RowKit
attribute [local go_sem ↓] Go.wp_at_zero Go.wp_at_succ
section
variable {c : LC} {first : St} {y : PV} {p : LPs} {A : AM} {n : Nat} {w : World}
theorem ref_next (h : SLP w c y p) (hr : RefP c first p A n) : Calls Tryz.prog 40 #[.pointer (some ⟨y.g, 0, none⟩)] w fun e w' => e = .returned (match nx A.l A.now with | some c => .tuple #[.int .i64 c, .bool true] | none => .tuple #[.int .i64 0, .bool false]) ∧ Fresh w w' := by
 have hx := next_is hr
 refine (lnext_any c y p w h (by have := hr.good.ll; omega)).mono fun e w' hh => ?_
 unfold NextP at hh
 rw [← hx]
 cases hn : nextE p.l p.now with
 | none => rw [hn] at hh; exact hh
 | some y => rw [hn] at hh; exact hh
theorem ref_now (h : SLP w c y p) (hr : RefP c first p A n) : Calls Tryz.prog 19 #[.pointer (some ⟨y.g, 0, none⟩)] w fun e w' => e = .returned (.int .i64 A.now) ∧ Fresh w w' := by
 refine (lnow_any c y p w h).mono fun e w' hh => ?_
 rw [← hr.now]
 exact hh
theorem ref_state (h : SLP w c y p) (hr : RefP c first p A n) : Calls Tryz.prog 18 #[.pointer (some ⟨y.g, 0, none⟩)] w fun e w' => e = .returned (A.fold (cfg c first)).2.1.val ∧ Fresh w w' := by
 refine (lstate_any c y p w h).mono fun e w' hh => ?_
 rw [← hr.st]
 exact hh
theorem ref_least (h : SLP w c y p) (hr : RefP c first p A n) (hn : n ≤ 62) : Calls Tryz.prog 20 #[.pointer (some ⟨y.g, 0, none⟩)] w fun e w' => e = .returned (.int .i64 (leastA A)) ∧ Fresh w w' := by
 obtain ⟨b1, b2, b3, b4, b5⟩ := hr.bounds (by omega)
 refine (lleast_any c y p w h (by omega) (by omega)).mono fun e w' hh => ?_
 rw [← hr.least_]
 exact hh
end
structure OwnP (c : LC) (first : St) (A : AM) (n : Nat) (w0 : World) (y : PV) (w : World) : Prop where
 r : ∃ p, SLP w c y p ∧ RefP c first p A n
 f : Fresh w0 w
 x : NewP y w0
section
variable {c : LC} {first : St} {y y' : PV} {A A' : AM} {n m : Nat} {w0 w w' : World}
theorem OwnP.fresh (h : OwnP c first A n w0 y w) (f : Fresh w w') : OwnP c first A n w0 y w' := by
 obtain ⟨p, h1, h2⟩ := h.r
 exact ⟨⟨p, h1.fresh f, h2⟩, h.f.step f (fun _ _ h => h), h.x⟩
theorem OwnP.turn (h : OwnP c first A n w0 y w) (t : LTurn w w' y y') (hr : ∃ p, SLP w' c y' p ∧ RefP c first p A' m) : OwnP c first A' m w0 y' w' :=
 ⟨hr, h.f.step t.keep (fun k hk hf => by have := h.x k hf; omega), fun k hk => by
  rcases t.later k hk with h1 | h1
  ·exact h.x k h1
  ·have := h.f.size; omega⟩
end
def awL : List Ev := [⟨3, 0, 0, 0, 0, 0, 0⟩, ⟨7, 0, 0, 0, 0, 0, 0⟩]
def awC : LC := ⟨0, 0, 2, false⟩
def awS : St := ⟨0, 0, 0, 0⟩
theorem aw_made : madeE awC.id awC.every awL = 0 ∧ insAll awL = awL := by decide
theorem aw_ref : RefP awC awS (newLp awS awL) (newA awL) 0 := by
 refine new_ref ?_ ?_ (by decide) (by decide) (by decide) ?_
 ·unfold Srt awL; decide
 ·intro e he
  simp only [awL, List.mem_cons, List.not_mem_nil, or_false] at he
  unfold SmE
  rcases he with rfl | rfl <;> decide
 ·unfold OkS awS; decide
def aw1 : AM := (stpA (cfg awC awS) (newA awL)).A
def aw2 : AM := (stpA (cfg awC awS) aw1).A
def aw3 : Ans := takA (cfg awC awS) aw2 ⟨5, 0, 0, 0, 0, 0, 0⟩ false
theorem aw_e : aw3.e = 0 := by rfl
theorem awake_any (w : World) : Calls Tryz.prog 13 #[] w fun e w' => e = .returned (.bool true) ∧ Fresh w w' := by
 go_enter Tryz.func13, Tryz.ntmps13
 go_wp2_with fail
 have HV : EvAt (w.alloc (.cells #[.int .i64 3, .int .i64 0, .int .i64 0, .int .i64 0, .int .i64 0, .int .i64 0, .int .i64 0, .int .i64 7, .int .i64 0, .int .i64 0, .int .i64 0, .int .i64 0, .int .i64 0, .int .i64 0] 41)) (.slice (some ⟨w.heap.size, 0, none⟩) awL.length 2) awL :=
  OwnS.evs (OwnS.new_ (n := 2) (size := 7) (Blk.new w 41 #[.int .i64 3, .int .i64 0, .int .i64 0, .int .i64 0, .int .i64 0, .int .i64 0, .int .i64 0, .int .i64 7, .int .i64 0, .int .i64 0, .int .i64 0, .int .i64 0, .int .i64 0, .int .i64 0]) rfl (by unfold maxLen; omega))
 refine (made_any awC awS (some ⟨w.heap.size, 0, none⟩) 2 awL _ HV (by decide)).mono ?_
 rintro e w1 (⟨_, y, rfl, s1, f1, n1⟩ | ⟨h1, _, _⟩)
 rotate_left
 ·exact absurd aw_made.1 h1
 rw [aw_made.2] at s1
 have O1 : Hid (OwnP awC awS (newA awL) 0 w y w1) := Lib.hid ⟨⟨_, s1, aw_ref⟩, ((Keep.refl _ w).alloc _).step f1 (fun _ _ h => h), fun k hk => Nat.le_trans (by simp) (n1 k hk)⟩
 clear s1 f1 n1 HV
 obtain ⟨p1, sp1, rp1⟩ := O1.out.r
 have C1 := Lib.hid (ref_step sp1 rp1 (by omega))
 clear sp1 rp1
 go_wp2_with fail
 refine C1.out.mono ?_
 rintro e w2 ⟨va2, rfl, _, y2, p2, s2, t2, r2⟩
 have O2 : Hid (OwnP awC awS aw1 0 w y2 w2) := Lib.hid (O1.out.turn t2 ⟨p2, s2, r2⟩)
 have G2 : Hid (y2.g = y.g) := Lib.hid t2.g
 have C2 := ref_step s2 r2 (show 0 ≤ 62 by omega)
 rw [G2.out] at C2
 have C2 := Lib.hid C2
 clear s2 t2 r2
 go_wp2_with fail
 refine C2.out.mono ?_
 rintro e w3 ⟨va3, rfl, _, y3, p3, s3, t3, r3⟩
 have O3 : Hid (OwnP awC awS aw2 0 w y3 w3) := Lib.hid (O2.out.turn t3 ⟨p3, s3, r3⟩)
 have G3 : Hid (y3.g = y.g) := Lib.hid (t3.g.trans G2.out)
 have C3 := ref_now s3 r3
 rw [G3.out] at C3
 have C3 : Hid (Calls Tryz.prog 19 #[.pointer (some ⟨y.g, 0, none⟩)] w3 fun e w' => e = .returned (.int .i64 7) ∧ Fresh w3 w') := Lib.hid C3
 clear s3 t3 r3
 go_wp2_with fail
 refine C3.out.mono ?_
 rintro e w4 ⟨rfl, f4⟩
 have O4 := Lib.hid (O3.out.fresh f4)
 clear f4
 obtain ⟨p4, s4, r4⟩ := O4.out.r
 have C4 := ref_take s4 r4 (by omega) ⟨5, 0, 0, 0, 0, 0, 0⟩ false (by unfold SmE; decide)
 rw [G3.out] at C4
 unfold Ev.msg at C4
 have C4 := Lib.hid C4
 clear s4 r4
 go_wp2_with fail
 refine C4.out.mono ?_
 rintro e w5 ⟨va5, rfl, _, y5, p5, s5, t5, r5⟩
 have O5 : Hid (OwnP awC awS aw3.A 1 w y5 w5) := Lib.hid (O4.out.turn t5 ⟨p5, s5, r5⟩)
 have G5 : Hid (y5.g = y.g) := Lib.hid (t5.g.trans G3.out)
 have C5 := ref_next s5 r5
 rw [G5.out] at C5
 have C5 : Hid (Calls Tryz.prog 40 #[.pointer (some ⟨y.g, 0, none⟩)] w5 fun e w' => e = .returned (.tuple #[.int .i64 5, .bool true]) ∧ Fresh w5 w') := Lib.hid C5
 clear s5 t5 r5
 go_wp2_with fail
 refine C5.out.mono ?_
 rintro e w6 ⟨rfl, f6⟩
 have O6 := Lib.hid (O5.out.fresh f6)
 clear f6
 obtain ⟨p6, s6, r6⟩ := O6.out.r
 have C6 := ref_now s6 r6
 rw [G5.out] at C6
 have C6 : Hid (Calls Tryz.prog 19 #[.pointer (some ⟨y.g, 0, none⟩)] w6 fun e w' => e = .returned (.int .i64 3) ∧ Fresh w6 w') := Lib.hid C6
 clear s6 r6
 have HE : Hid ((takA (cfg awC awS) aw2 ⟨5, 0, 0, 0, 0, 0, 0⟩ false).e = 0) := Lib.hid aw_e
 rw [HE.out]
 go_wp2_with fail
 refine C6.out.mono ?_
 rintro e w7 ⟨rfl, f7⟩
 have F7 := Lib.hid (O6.out.fresh f7).f
 clear f7
 go_wp2_with fail
 go_returns
 exact ⟨rfl, F7.out⟩
end Go.Proofs.YthbcdkeammhakaaGreat
