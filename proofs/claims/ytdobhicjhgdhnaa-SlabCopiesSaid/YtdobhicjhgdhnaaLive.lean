/-
  slab.Slab[int]: Live; slices.Contains.
-/
import Derived.Test.YtdobhicjhgdhnaaFree
namespace Go.Proofs.Ytdobhicjhgdhnaa
open Go.RowKit

def cnt (p : Sl → Bool) (l : List Sl) (k : Nat) : Nat := (l.take k).countP p
theorem cnt_succ (p : Sl → Bool) (l : List Sl) (k : Nat) (x : Sl) (h : l[k]? = some x) : cnt p l (k + 1) = if p x then cnt p l k + 1 else cnt p l k := by
  unfold cnt
  rw [List.take_add_one, h, List.countP_append]
  simp only [Option.toList_some, List.countP_singleton]
  split <;> omega
theorem cnt_le (p : Sl → Bool) (l : List Sl) (k : Nat) : cnt p l k ≤ k := by
  unfold cnt
  have := List.countP_le_length (p := p) (l := l.take k)
  have := List.length_take_le k l
  omega

def isLive (x : Sl) : Bool := decide (x.c ≠ 0)
theorem live_nil (A : Option Addr) (n c : Nat) (w : World) : Calls Try.prog 14 #[.pointer none, .slice A n c] w fun e w' => e = .returned (.int .i64 0) ∧ w = w' := by
  go_enter Try.func14, Try.ntmps14
  go_wp2
  go_ret
  exact ⟨rfl, rfl⟩

set_option maxHeartbeats 1000000 in
theorem live_all (g : Nat) (vs vf : Value) (s : St) (w : World) (hs : SSlab w g vs vf s) (hn : s.l.length ≤ 100000) :
    Calls Try.prog 14 #[.pointer (some ⟨g, 0, none⟩), .slice none 0 0] w fun e w' => e = .returned (.int .i64 (s.l.countP isLive)) ∧ Fresh w w' := by
  have hb := hs.blk.cell
  have hg := hs.blk.lt
  obtain ⟨A, cap, rfl, hca, hcm⟩ := hs.os.shape
  have hcm : cap ≤ 9223372036854775807 := by unfold maxLen at hcm; omega
  have HS := Lib.hid hs
  clear hs
  go_enter Try.func14, Try.ntmps14
  go_wp2_with fail
  go_loopg [5, 15] s.l.length (fun gk a u wr => ∃ k : Nat, k ≤ s.l.length ∧ gk = s.l.length - k ∧ a = .int .i64 (cnt isLive s.l k : Nat) ∧ u = .int .i64 k ∧ Fresh w wr)
  case atStart => exact ⟨0, by omega, rfl, by simp [cnt], rfl, Keep.refl _ _⟩
  case round =>
    obtain ⟨k, hk, rfl, rfl, rfl, hF⟩ := hrel
    have HF := Lib.hid hF
    clear hF
    by_cases hlt : k < s.l.length
    · obtain ⟨x, hx⟩ : ∃ x, s.l[k]? = some x := ⟨_, List.getElem?_eq_getElem hlt⟩
      have hcs := cnt_succ isLive s.l k x hx
      have hle := cnt_le isLive s.l k
      obtain ⟨gs, off, cap', hv, lg, _, _, hc⟩ := (HS.out.fresh HF.out).os.form (by omega)
      injection hv with hv1 _ hv3
      subst hv1 hv3
      obtain ⟨c0, c1, c2⟩ := slots_at _ _ _ hx
      have c0 := hc _ _ c0
      have c1 := hc _ _ c1
      have c2 := hc _ _ c2
      rw [← Nat.add_assoc] at c1 c2
      obtain ⟨N, hN⟩ : ∃ N, cnt isLive s.l k = N := ⟨_, rfl⟩
      rw [hN] at hcs hle ⊢
      have HC := Lib.hid hcs
      obtain ⟨xc, xt, xv⟩ := x
      clear hcs hx hc hN
      by_cases h0 : xc = 0
      · have t0 : (xc != 0) = false := by simpa using h0
        have H0 := Lib.hid h0
        clear h0
        go_wp2_with fail
        go_roundg (s.l.length - (k + 1))
        case measure => omega
        case rel => exact ⟨k + 1, by omega, rfl, by rw [HC.out, if_neg (by simp [isLive, H0.out])], by go_num, HF.out.alloc _⟩
      · have t0 : (xc != 0) = true := by simpa using h0
        have H0 := Lib.hid h0
        clear h0
        go_wp2_with fail
        go_roundg (s.l.length - (k + 1))
        case measure => omega
        case rel => exact ⟨k + 1, by omega, rfl, by rw [HC.out, if_pos (by simpa [isLive] using H0.out)]; go_num, by go_num, HF.out.alloc _⟩
    · obtain rfl : k = s.l.length := by omega
      have hfin : cnt isLive s.l s.l.length = s.l.countP isLive := by unfold cnt; rw [List.take_length]
      rw [hfin]
      clear hfin
      go_wp2_with fail
      go_ret
      exact ⟨rfl, HF.out⟩
end Go.Proofs.Ytdobhicjhgdhnaa
