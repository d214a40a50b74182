/-
  The reference's Victim.
-/
import Derived.Test.YtfldnbmafbdpeaaVict
namespace Go.Proofs.Ytfldnbmafbdpeaa
open Go.RowKit

set_option maxRecDepth 100000 in
set_option maxHeartbeats 4000000 in
theorem rvictim_any (f : Int) (A : Option Addr) (n c : Nat) (l : List Ev) (w : World) (hl : l.length = n) (hn : n ≤ 9223372036854775807) (ha : EvsAt w A l) :
    Calls Try.prog 16 #[.int .i64 f, .slice A n c] w fun e w' => e = .returned (.tuple #[(vic f l).1.val, .bool (vic f l).2]) ∧ Fresh w w' := by
  have HA := Lib.hid ha
  clear ha
  go_enter Try.func16, Try.ntmps16
  go_wp2_with fail
  go_loopg [7, 8] n (fun gk b u wr => ∃ (k : Nat) (v : Ev) (is : Bool), k ≤ n ∧ gk = n - k ∧ b = .bool is ∧ u = .int .i64 k ∧ VInv w f l k v is wr)
  case atStart => exact ⟨0, ev0, false, by omega, rfl, rfl, rfl, (Blk.at_new rfl _ _).alloc _, Blk.at_new (by simp) _ _, ((Keep.refl _ _).alloc _).alloc _, rfl⟩
  case round =>
    obtain ⟨k, v, is, hk, rfl, rfl, rfl, hZ, hB, hF, hv⟩ := hrel
    unfold Ev.arr at hB hZ
    by_cases hlt : k < n
    rotate_left
    · obtain rfl : k = n := by omega
      rw [List.take_of_length_le (by omega)] at hv
      have cB := hB.cell
      have cZ := hZ.cell
      have fZ := hZ.frozen
      have lZ := hZ.lt
      have h7 := blk_set7 hZ v
      have f7 := keep_set7 hF (Nat.le_refl _) v
      obtain ⟨W7, e7⟩ : ∃ W, W = (((((((wr.setCell ⟨w.heap.size, 0, none⟩ (.int .i64 v.a)).setCell ⟨w.heap.size, 1, none⟩ (.int .i64 v.s)).setCell ⟨w.heap.size, 2, none⟩ (.int .i64 v.t)).setCell ⟨w.heap.size, 3, none⟩ (.int .i64 v.n)).setCell ⟨w.heap.size, 4, none⟩ (.int .i64 v.d)).setCell ⟨w.heap.size, 5, none⟩ (.int .i64 v.k)).setCell ⟨w.heap.size, 6, none⟩ (.int .i64 v.x)) := ⟨_, rfl⟩
      rw [← e7] at h7 f7
      unfold Ev.arr at h7
      have E7 := Lib.hid e7
      have H7 := Lib.hid h7
      have HF := Lib.hid f7
      have HV := Lib.hid hv
      clear hF hB hv hZ h7 f7 e7
      go_wp2_with fail
      rw [← E7.out]
      have c7 := H7.out.cell
      clear cB cZ
      (try simp only [Exit.inBlock, Exit.then])
      refine bodyPost_ret (by simp [results, Try.results16, go_sem, c7]; try rfl) rfl ?_
      exact ⟨by rw [HV.out]; rfl, HF.out⟩
    obtain ⟨e, he⟩ : ∃ e, l[k]? = some e := ⟨_, List.getElem?_eq_getElem (by omega)⟩
    have hs := vic_succ f l k e he
    rw [hv] at hs
    obtain ⟨b0, off, rfl, lt0, x0, x1, x2, x3, x4, x5, x6⟩ := HA.out k e he
    have x0 := hF.cell_ x0; have x1 := hF.cell_ x1; have x2 := hF.cell_ x2; have x3 := hF.cell_ x3; have x4 := hF.cell_ x4; have x5 := hF.cell_ x5; have x6 := hF.cell_ x6
    have l0 := Nat.lt_of_lt_of_le lt0 hF.size
    have cB := hB.cell
    have fB := hB.frozen
    have lB := hB.lt
    have lB1 : w.heap.size + 1 < wr.heap.size + 1 := by omega
    have HS := Lib.hid hs
    have HF := Lib.hid hF
    have HB := Lib.hid hB
    have HZ := Lib.hid hZ
    clear hs hF hB hZ hv he lt0
    by_cases h1 : e.s < 0
    · go_wp2_with fail
      go_roundg (n - (k + 1))
      case measure => omega
      case rel => exact ⟨k + 1, v, is, by omega, rfl, rfl, by go_num, HZ.out.alloc _, HB.out.alloc _, HF.out.alloc _, by rw [HS.out, vstep_skip (.inl h1)]⟩
    by_cases h2 : e.t < f
    · go_wp2_with fail
      go_roundg (n - (k + 1))
      case measure => omega
      case rel => exact ⟨k + 1, v, is, by omega, rfl, rfl, by go_num, HZ.out.alloc _, HB.out.alloc _, HF.out.alloc _, by rw [HS.out, vstep_skip (.inr h2)]⟩
    have h12 := Lib.hid (show ¬ (e.s < 0 ∨ e.t < f) by omega)
    have h1b : decide (e.s < 0) = false := by simpa using h1
    have h2b : decide (e.t < f) = false := by simpa using h2
    cases is
    · go_wp2_with fail
      go_roundg (n - (k + 1))
      case measure => omega
      case rel => exact ⟨k + 1, e, true, by omega, rfl, rfl, by go_num, (far_set7 HZ.out (by omega) e).alloc _, (blk_set7 HB.out e).alloc _, (keep_set7 HF.out (by omega) e).alloc _, by rw [HS.out, vstep_take h12.out (.inl rfl)]⟩
    by_cases h3 : v.t < e.t
    · go_wp2_with fail
      go_roundg (n - (k + 1))
      case measure => omega
      case rel => exact ⟨k + 1, e, true, by omega, rfl, rfl, by go_num, (far_set7 HZ.out (by omega) e).alloc _, (blk_set7 HB.out e).alloc _, (keep_set7 HF.out (by omega) e).alloc _, by rw [HS.out, vstep_take h12.out (.inr (.inl h3))]⟩
    have h3b : decide (v.t < e.t) = false := by simpa using h3
    by_cases h4 : e.t = v.t
    rotate_left
    · have h5 : (e.t == v.t) = false := by simpa using h4
      go_wp2_with fail
      go_roundg (n - (k + 1))
      case measure => omega
      case rel => exact ⟨k + 1, v, true, by omega, rfl, rfl, by go_num, HZ.out.alloc _, HB.out.alloc _, HF.out.alloc _, by rw [HS.out, vstep_stay h12.out (by simp; omega)]⟩
    have h5 : (e.t == v.t) = true := by simpa using h4
    have hc := ahead_any v e
    unfold Ev.val at hc
    rw [h4] at hc
    have HC := Lib.hid hc
    have H4 := Lib.hid h4
    clear hc
    cases h6 : evLt v e
    · rw [h6] at HC
      go_wp2_with (go_at_call 19; refine (HC.out _).mono ?_; rintro e1 w1 ⟨rfl, f1⟩)
      go_roundg (n - (k + 1))
      case measure => omega
      case rel => exact ⟨k + 1, v, true, by omega, rfl, rfl, by go_num, f1.blk_ (HZ.out.alloc _), f1.blk_ (HB.out.alloc _), (HF.out.alloc _).step f1 (fun _ _ h => h), by rw [HS.out, vstep_stay h12.out (by simp [h6]; omega)]⟩
    · rw [h6] at HC
      go_wp2_with (go_at_call 19; refine (HC.out _).mono ?_; rintro e1 w1 ⟨rfl, f1⟩; have b1 := f1.blk_ (HB.out.alloc _); have c1 := b1.cell; have g1 := b1.frozen; have b2 := f1.blk_ (Blk.new wr 46 #[.int .i64 e.a, .int .i64 e.s, .int .i64 v.t, .int .i64 e.n, .int .i64 e.d, .int .i64 e.k, .int .i64 e.x]); have c2 := b2.cell; have lb := b1.lt; clear b1 b2)
      go_roundg (n - (k + 1))
      case measure => omega
      case rel =>
        have z7 := far_set7 (f1.blk_ (HZ.out.alloc _)) (show w.heap.size ≠ w.heap.size + 1 by omega) e
        have b7 := blk_set7 (f1.blk_ (HB.out.alloc _)) e
        have k7 := keep_set7 ((HF.out.alloc _).step f1 (fun _ _ h => h)) (show w.heap.size ≤ w.heap.size + 1 by omega) e
        rw [H4.out] at z7 b7 k7
        exact ⟨k + 1, e, true, by omega, rfl, rfl, by go_num, z7, b7, k7, by rw [HS.out, vstep_take h12.out (.inr (.inr ⟨H4.out, h6⟩))]⟩
end Go.Proofs.Ytfldnbmafbdpeaa
