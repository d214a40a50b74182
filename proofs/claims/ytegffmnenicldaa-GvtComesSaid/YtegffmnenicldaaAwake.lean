/-
  The chapter's examples.
-/
import Derived.Test.YtegffmnenicldaaDoes2
namespace Go.Proofs.Ytegffmnenicldaa
open Go.RowKit Go.Maps
attribute [local go_sem ↓] Go.wp_at_zero Go.wp_at_succ run_min

set_option maxHeartbeats 2000000 in
theorem awake_any (w : World) : Calls Try.prog 11 #[] w fun e w' => e = .returned (.bool true) ∧ Fresh w w' := by
  go_enter Try.func11, Try.ntmps11
  go_wp2_with fail
  refine (newW_any _).mono ?_
  rintro e w1 ⟨ga, ba, rfl, a1, f1, na, nba⟩
  have A1 := Lib.hid a1
  have F1 := Lib.hid f1
  clear a1 f1
  go_wp2_with fail
  refine (newW_any _).mono ?_
  rintro e w2 ⟨gb, bb, rfl, b2, f2, nb, nbb⟩
  have la := A1.out.blk.lt
  have lba := A1.out.map.lt
  have A2 := Lib.hid (A1.out.fresh f2)
  have B2 := Lib.hid b2
  have F2 := Lib.hid (F1.out.step f2 (fun _ _ h => h))
  have s1 := F1.out.size
  have s2 := f2.size
  clear b2 f2
  go_wp2_with fail
  refine (sent_any ga ba 0 ⟨0, [], 1073741825⟩ 0 7 _ A2.out (by omega) rfl).mono ?_
  rintro e w3 ⟨rfl, a3, k3⟩
  have A3 : Hid (SWork w3 ga ba 1 ⟨0, [(0, 7)], 1073741825⟩) := a3
  have B3 := Lib.hid (B2.out.kept k3 (by omega) (by omega))
  have F3 := Lib.hid (F2.out.step k3 (fun i hi e => by omega))
  clear a3 k3
  go_wp2_with fail
  have fx : Fresh w3 (w3.alloc (.cells #[.int .i64 9] 3)) := (Keep.refl _ _).alloc _
  refine (start_any ga ba 1 1 ⟨0, [(0, 7)], 1073741825⟩ 1 (some ⟨w3.heap.size, 0, none⟩) 1 [9] _ (A3.out.fresh fx) ⟨by simp, by simp, by simp, by simp, by simp; rfl⟩ (by omega) (IntsAt.blk (Blk.new w3 3 #[.int .i64 9]) rfl) (by simp)).mono ?_
  rintro e w4 ⟨rfl, a4, k4⟩
  have A4 : Hid (SWork w4 ga ba 2 ⟨1, [(0, 7)], 1073741825⟩) := a4
  have B4 := Lib.hid ((B3.out.fresh fx).kept k4 (by omega) (by omega))
  have F4 := Lib.hid ((F3.out.step fx (fun _ _ h => h)).step k4 (fun i hi e => by omega))
  clear a4 k4 fx
  have HGot := Lib.hid (got_any ga ba 2 _ w4 A4.out)
  go_wp2_with (go_at_call 14; refine HGot.out.mono ?_; rintro e w5 ⟨rfl, rfl⟩)
  refine (sent_any gb bb 0 ⟨0, [], 1073741825⟩ 0 5 _ B4.out (by omega) rfl).mono ?_
  rintro e w6 ⟨rfl, b6, k6⟩
  have B6 : Hid (SWork w6 gb bb 1 ⟨0, [(0, 5)], 1073741825⟩) := b6
  have F6 := Lib.hid (F4.out.step k6 (fun i hi e => by omega))
  clear b6 k6
  go_wp2_with fail
  refine (acked_any gb bb 1 1 ⟨0, [(0, 5)], 1073741825⟩ 0 1 _ B6.out ⟨by simp, by simp, by simp, by simp, by simp; rfl⟩ (by omega) rfl).mono ?_
  rintro e w7 ⟨rfl, b7, k7⟩
  have B7 : Hid (SWork w7 gb bb 2 ⟨0, [], 5⟩) := b7
  have F7 := Lib.hid (F6.out.step k7 (fun i hi e => by omega))
  clear b7 k7
  go_wp2_with fail
  refine (start_any gb bb 2 1 ⟨0, [], 5⟩ 1 none 0 [] _ B7.out ⟨by simp, by simp, by simp, by simp, by simp⟩ (by omega) IntsAt.none (by simp)).mono ?_
  rintro e w8 ⟨rfl, b8, k8⟩
  have F8 := Lib.hid (F7.out.step k8 (fun i hi e => by omega))
  clear b8 k8
  go_wp2_with fail
  go_ret
  exact ⟨rfl, F8.out⟩
end Go.Proofs.Ytegffmnenicldaa
