/-
  slab.Slab[int]: Live of some classes.
-/
import Derived.Test.YtdobhicjhgdhnaaLive
import Derived.Test.YtdobhicjhgdhnaaContains
namespace Go.Proofs.Ytdobhicjhgdhnaa
open Go.RowKit

def isOf (cs : List Int) (x : Sl) : Bool := decide (x.c ≠ 0) && cs.contains x.c
set_option maxHeartbeats 2000000 in
theorem live_some (g : Nat) (vs vf : Value) (s : St) (A : Option Addr) (c : Nat) (cs : List Int) (w : World) (hs : SSlab w g vs vf s) (hn : s.l.length ≤ 100000) (ha : IntsAt w A cs) (h1 : 1 ≤ cs.length) (h2 : cs.length ≤ 100) :
    Calls Try.prog 14 #[.pointer (some ⟨g, 0, none⟩), .slice A cs.length c] w fun e w' => e = .returned (.int .i64 (s.l.countP (isOf cs))) ∧ Fresh w w' := by
  have hb := hs.blk.cell
  have hg := hs.blk.lt
  obtain ⟨A0, cap, rfl, hca, hcm⟩ := hs.os.shape
  have hcm : cap ≤ 9223372036854775807 := by unfold maxLen at hcm; omega
  have HS := Lib.hid hs
  have HA := Lib.hid ha
  have hc0 : ((cs.length : Int) == 0) = false := by rw [beq_eq_false_iff_ne]; omega
  clear hs ha
  go_enter Try.func14, Try.ntmps14
  go_wp2_with fail
  go_loopg [5, 15] s.l.length (fun gk a u wr => ∃ k : Nat, k ≤ s.l.length ∧ gk = s.l.length - k ∧ a = .int .i64 (cnt (isOf cs) s.l k : Nat) ∧ u = .int .i64 k ∧ Fresh w wr)
  case atStart => exact ⟨0, by omega, rfl, by simp [cnt], rfl, Keep.refl _ _⟩
  case round =>
    obtain ⟨k, hk, rfl, rfl, rfl, hF⟩ := hrel
    have HF := Lib.hid hF
    clear hF
    by_cases hlt : k < s.l.length
    · obtain ⟨x, hx⟩ : ∃ x, s.l[k]? = some x := ⟨_, List.getElem?_eq_getElem hlt⟩
      have hcs := cnt_succ (isOf cs) s.l k x hx
      have hle := cnt_le (isOf cs) s.l k
      obtain ⟨gs, off, cap', hv, lg, _, _, hc⟩ := (HS.out.fresh HF.out).os.form (by omega)
      injection hv with hv1 _ hv3
      subst hv1 hv3
      obtain ⟨c0, c1, c2⟩ := slots_at _ _ _ hx
      have c0 := hc _ _ c0
      have c1 := hc _ _ c1
      have c2 := hc _ _ c2
      rw [← Nat.add_assoc] at c1 c2
      obtain ⟨N, hN⟩ : ∃ N, cnt (isOf cs) s.l k = N := ⟨_, rfl⟩
      rw [hN] at hcs hle ⊢
      have HC := Lib.hid hcs
      obtain ⟨xc, xt, xv⟩ := x
      clear hcs hx hc hN
      by_cases h0 : xc = 0
      · have t0 : (xc != 0) = false := by simpa using h0
        have H0 := Lib.hid h0
        clear h0
        go_wp2_with fail
        go_roundg (s.l.length - (k + 1))
        case measure => omega
        case rel => exact ⟨k + 1, by omega, rfl, by rw [HC.out, if_neg (by simp [isOf, H0.out])], by go_num, HF.out.alloc _⟩
      · have t0 : (xc != 0) = true := by simpa using h0
        have H0 := Lib.hid h0
        clear h0
        have HI := Lib.hid (contains_any A c cs xc (wr.alloc (.cells #[.int .i64 xc, .int .i64 xt, .int .i64 xv] 73)) (HA.out.fresh (HF.out.alloc _)) (by omega))
        cases hb0 : cs.contains xc
        · rw [hb0] at HI
          have HB := Lib.hid hb0
          clear hb0
          go_wp2_with (go_at_call 28; refine HI.out.mono ?_; rintro e w1 ⟨rfl, f1⟩)
          go_roundg (s.l.length - (k + 1))
          case measure => omega
          case rel => exact ⟨k + 1, by omega, rfl, by rw [HC.out, if_neg (by unfold isOf; simp only [HB.out]; simp)], by go_num, (HF.out.alloc _).step f1 (fun _ _ h => h)⟩
        · rw [hb0] at HI
          have HB := Lib.hid hb0
          clear hb0
          go_wp2_with (go_at_call 28; refine HI.out.mono ?_; rintro e w1 ⟨rfl, f1⟩)
          go_roundg (s.l.length - (k + 1))
          case measure => omega
          case rel => exact ⟨k + 1, by omega, rfl, by rw [HC.out, if_pos (by unfold isOf; simp only [HB.out]; simpa using H0.out)]; go_num, by go_num, (HF.out.alloc _).step f1 (fun _ _ h => h)⟩
    · obtain rfl : k = s.l.length := by omega
      have hfin : cnt (isOf cs) s.l s.l.length = s.l.countP (isOf cs) := by unfold cnt; rw [List.take_length]
      rw [hfin]
      clear hfin
      go_wp2_with fail
      go_ret
      exact ⟨rfl, HF.out⟩
end Go.Proofs.Ytdobhicjhgdhnaa
