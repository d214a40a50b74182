/- BudgetFits returns true at every input: which budgets there are, what fits, and what the most was that did. No conditions. -/
import Derived.Test.YtfldnbmafbdpeaaRefFit
import Derived.Deep.LoopGhost
namespace Go.Proofs.Ytfldnbmafbdpeaa
open Go.RowKit
attribute [local go_sem ↓] run_max
attribute [local go_sem] eq5w idx0 idx1 idx2 idx3 idx4

open Classical in
noncomputable def fitR (room reserve a b c d f more : Int) (vital : Bool) : Int :=
  if Good a ∧ Good b ∧ Good c ∧ Good d ∧ Good f ∧ Good more then (if a + b + c + d + f + more ≤ roomB room reserve vital then 0 else 20) else 1

def FitPost (g : Nat) (room reserve a b c d f v0 v1 v2 v3 v4 rv : Int) (w : World) (e : Ending) (w' : World) : Prop :=
  e = .returned (.int .i64 rv) ∧ Keep (· = g) w w' ∧ ((rv = 0 ∧ Blk w' g 52 #[.int .i64 room, .int .i64 reserve, .int .i64 (max v0 a), .int .i64 (max v1 b), .int .i64 (max v2 c), .int .i64 (max v3 d), .int .i64 (max v4 f)]) ∨
    (rv ≠ 0 ∧ Blk w' g 52 #[.int .i64 room, .int .i64 reserve, .int .i64 v0, .int .i64 v1, .int .i64 v2, .int .i64 v3, .int .i64 v4]))

theorem fit_any (g : Nat) (a b c d f more room reserve v0 v1 v2 v3 v4 : Int) (vital : Bool) (w : World) (hw : Blk w g 52 #[.int .i64 room, .int .i64 reserve, .int .i64 v0, .int .i64 v1, .int .i64 v2, .int .i64 v3, .int .i64 v4])
    (hr : 0 ≤ reserve) (hr1 : reserve ≤ room) (hr2 : room ≤ 4096) :
    Calls Try.prog 11 #[.pointer (some ⟨g, 0, none⟩), .agg #[.int .i64 a, .int .i64 b, .int .i64 c, .int .i64 d, .int .i64 f], .int .i64 more, .bool vital] w (FitPost g room reserve a b c d f v0 v1 v2 v3 v4 (fitR room reserve a b c d f more vital) w) := by
  unfold fitR
  have hb : ∀ {e : Ending} {w' : World}, Below w.heap.size w w' → Keep (· = g) w w' ∧ Blk w' g 52 #[.int .i64 room, .int .i64 reserve, .int .i64 v0, .int .i64 v1, .int .i64 v2, .int .i64 v3, .int .i64 v4] := fun {e w'} h =>
    ⟨Keep.of_below h (fun k h1 h2 => by omega), hw.below h hw.lt⟩
  by_cases hg : Good a ∧ Good b ∧ Good c ∧ Good d ∧ Good f ∧ Good more
  · rw [if_pos hg]
    obtain ⟨ha, hb', hc, hd, hf, hm⟩ := hg
    by_cases hs : a + b + c + d + f + more ≤ roomB room reserve vital
    · rw [if_pos hs]
      exact (fit_ok g a b c d f more room reserve v0 v1 v2 v3 v4 vital w hw ha hb' hc hd hf hm hr hr1 hr2 hs).mono fun e w' ⟨h1, h2, h3⟩ => ⟨h1, h2, .inl ⟨rfl, h3⟩⟩
    · rw [if_neg hs]
      exact (fit_mem g a b c d f more room reserve vital w (hw.cell_ 0 rfl) (hw.cell_ 1 rfl) ha hb' hc hd hf hm hr hr1 hr2 (by omega)).mono fun e w' ⟨h1, h2⟩ => ⟨h1, (hb (e := e) h2).1, .inr ⟨by decide, (hb (e := e) h2).2⟩⟩
  · rw [if_neg hg]
    exact (fit_arg g a b c d f more vital w hw.lt hg).mono fun e w' ⟨h1, h2⟩ => ⟨h1, (hb (e := e) h2).1, .inr ⟨by decide, (hb (e := e) h2).2⟩⟩

theorem ref_any (room reserve a b c d f more : Int) (vital : Bool) (g : Nat) (w : World) (hr : 0 ≤ reserve) (hr1 : reserve ≤ room) (hr2 : room ≤ 4096)
    (c0 : w.cell? ⟨g, 0, none⟩ = some (.int .i64 a)) (c1 : w.cell? ⟨g, 1, none⟩ = some (.int .i64 b)) (c2 : w.cell? ⟨g, 2, none⟩ = some (.int .i64 c)) (c3 : w.cell? ⟨g, 3, none⟩ = some (.int .i64 d)) (c4 : w.cell? ⟨g, 4, none⟩ = some (.int .i64 f)) :
    Calls Try.prog 12 #[.int .i64 room, .int .i64 reserve, .slice (some ⟨g, 0, none⟩) 5 5, .int .i64 more, .bool vital] w fun e w' => e = .returned (.int .i64 (fitR room reserve a b c d f more vital)) ∧ w' = w := by
  unfold fitR
  by_cases hg : Good a ∧ Good b ∧ Good c ∧ Good d ∧ Good f ∧ Good more
  · rw [if_pos hg]
    obtain ⟨ha, hb', hc, hd, hf, hm⟩ := hg
    exact (ref_good room reserve a b c d f more vital g w hr hr1 hr2 c0 c1 c2 c3 c4 ha hb' hc hd hf hm _ (by split <;> simp [*])).mono fun e w' ⟨h1, h2⟩ => ⟨h1, h2.symm⟩
  · rw [if_neg hg]
    exact (ref_arg room reserve a b c d f more vital g w hr hr1 hr2 c0 c1 c2 c3 c4 hg).mono fun e w' ⟨h1, h2⟩ => ⟨h1, h2.symm⟩

theorem worst_blk (g : Nat) (r s v0 v1 v2 v3 v4 : Int) (w : World) (h : Blk w g 52 #[.int .i64 r, .int .i64 s, .int .i64 v0, .int .i64 v1, .int .i64 v2, .int .i64 v3, .int .i64 v4]) :
    Calls Try.prog 13 #[.pointer (some ⟨g, 0, none⟩)] w fun e w' => e = .returned (.agg #[.int .i64 v0, .int .i64 v1, .int .i64 v2, .int .i64 v3, .int .i64 v4]) ∧ Fresh w w' :=
  (worst_any g v0 v1 v2 v3 v4 w (fun i hi => by
    have : i = 0 ∨ i = 1 ∨ i = 2 ∨ i = 3 ∨ i = 4 := by omega
    rcases this with rfl | rfl | rfl | rfl | rfl <;> exact h.cell _)).mono fun e w' ⟨h1, h2⟩ => ⟨h1, Keep.of_below h2 (fun k q1 q2 => by omega)⟩
theorem room_blk (g : Nat) (r s v0 v1 v2 v3 v4 : Int) (w : World) (h : Blk w g 52 #[.int .i64 r, .int .i64 s, .int .i64 v0, .int .i64 v1, .int .i64 v2, .int .i64 v3, .int .i64 v4]) :
    Calls Try.prog 14 #[.pointer (some ⟨g, 0, none⟩)] w fun e w' => e = .returned (.int .i64 r) ∧ w = w' := room_any g _ w (h.cell 0)

/-- An ask, as it lies. -/
def AskRow (r : List Value) : Prop := ∃ (a b c d f m : Int) (v : Bool), r = [.int .i64 a, .int .i64 b, .int .i64 c, .int .i64 d, .int .i64 f, .int .i64 m, .bool v]
def mx (k j : Nat) (x y : Int) : Int := if j < k then max x y else x

theorem fits_arg (r s : Int) (A : Option Addr) (n cap : Nat) (w : World) (h : r < 1 ∨ 4096 < r ∨ s < 0 ∨ r < s) :
    Law Try.prog 4 #[.int .i64 r, .int .i64 s, .slice A n cap] w := by
  unfold Law
  by_cases h1 : r < 1
  rotate_left
  by_cases h2 : 4096 < r
  rotate_left
  by_cases h3 : s < 0
  rotate_left
  have h4 : r < s := by omega
  all_goals
    have H := Lib.hid h
    clear h
    go_enter Try.func4, Try.ntmps4
    go_wp2_with (first
      | (go_at_call 7; refine (new_bad _ _ _ H.out).mono ?_; rintro e w1 ⟨rfl, rfl⟩)
      | (go_at_call 8; refine (awake_any _).mono ?_; rintro e w3 ⟨rfl, h3⟩))
    go_ret
    exact ⟨rfl, Fresh.below_ (by assumption) (Nat.le_refl _)⟩

set_option maxRecDepth 100000 in
theorem fits_long (r s : Int) (A : Option Addr) (n cap : Nat) (w : World) (h1 : 1 ≤ r) (h2 : r ≤ 4096) (h3 : 0 ≤ s) (h4 : s ≤ r) (hn : 40 < n) (hm : n ≤ 9223372036854775807) :
    Law Try.prog 4 #[.int .i64 r, .int .i64 s, .slice A n cap] w := by
  unfold Law
  go_enter Try.func4, Try.ntmps4
  go_wp2_with (first
      | (go_at_call 7; refine (new_ok _ _ _ h1 h2 h3 h4).mono ?_; rintro e w1 ⟨rfl, rfl⟩)
      | (go_at_call 8; refine (awake_any _).mono ?_; rintro e w3 ⟨rfl, h3⟩))
  go_ret
  refine ⟨rfl, ?_⟩
  (refine Keep.below (S := fun _ => False) ?_ (Nat.le_refl _) (fun _ _ h => h))
  exact Keep.step ((Keep.refl _ _).alloc _) (by assumption) (fun _ _ h => h)

set_option maxRecDepth 100000 in
set_option maxHeartbeats 8000000 in
theorem fits_ok (r s : Int) (A : Option Addr) (n cap : Nat) (rows : List (List Value)) (w : World) (h1 : 1 ≤ r) (h2 : r ≤ 4096) (h3 : 0 ≤ s) (h4 : s ≤ r) (hn : n ≤ 40)
    (hlen : rows.length = n) (hrows : ∀ x ∈ rows, AskRow x) (hat : SliceAt w A 7 rows) :
    Law Try.prog 4 #[.int .i64 r, .int .i64 s, .slice A n cap] w := by
  unfold Law
  have Hl := Lib.hid hlen
  have Hr := Lib.hid hrows
  have Ha := Lib.hid hat
  clear hlen hrows hat
  have g1 : decide ((40 : Int) < (n : Int)) = false := by simp; omega
  go_enter Try.func4, Try.ntmps4
  go_wp2_with (go_at_call 7; refine (new_ok _ _ _ h1 h2 h3 h4).mono ?_; rintro e w1 ⟨rfl, rfl⟩)
  go_loopg [10] n (fun gk v wr => ∃ (k : Nat) (v0 v1 v2 v3 v4 : Int), k ≤ n ∧ gk = n - k ∧ v = .int .i64 k ∧ Blk wr w.heap.size 52 #[.int .i64 r, .int .i64 s, .int .i64 v0, .int .i64 v1, .int .i64 v2, .int .i64 v3, .int .i64 v4] ∧
      Blk wr (w.heap.size + 1) 24 #[.int .i64 v0, .int .i64 v1, .int .i64 v2, .int .i64 v3, .int .i64 v4] ∧ Fresh w wr)
  case atStart =>
    exact ⟨0, 0, 0, 0, 0, 0, by omega, rfl, rfl, (Blk.at_new rfl _ _).alloc _, Blk.at_new (by simp) _ _, ((Keep.refl _ _).alloc _).alloc _⟩
  case round =>
    obtain ⟨k, v0, v1, v2, v3, v4, hk, rfl, rfl, hB, hW, hF⟩ := hrel
    by_cases hlt : k < n
    rotate_left
    · go_wp2_with (go_at_call 8; refine (awake_any _).mono ?_; rintro e w3 ⟨rfl, h3⟩)
      go_ret
      refine ⟨rfl, ?_⟩
      (refine Keep.below (S := fun _ => False) ?_ (Nat.le_refl _) (fun _ _ h => h))
      exact Keep.step hF (by assumption) (fun _ _ h => h)
    obtain ⟨b0, off, rfl, hlt0, hc⟩ := Ha.out k (by rw [Hl.out]; exact hlt)
    obtain ⟨a, b, c, d, f, m, vt, hrow⟩ := Hr.out (rows.getD k []) (by rw [List.getD_eq_getElem?_getD, List.getElem?_eq_getElem (by rw [Hl.out]; exact hlt)]; simp)
    rw [hrow] at hc
    clear hrow
    have x0 : wr.cell? ⟨b0, off + k * 7, none⟩ = some (.int .i64 a) := (Fresh.cell_ hF (hc 0 _ rfl))
    have x1 : wr.cell? ⟨b0, off + k * 7 + 1, none⟩ = some (.int .i64 b) := (Fresh.cell_ hF (hc 1 _ rfl))
    have x2 : wr.cell? ⟨b0, off + k * 7 + 2, none⟩ = some (.int .i64 c) := (Fresh.cell_ hF (hc 2 _ rfl))
    have x3 : wr.cell? ⟨b0, off + k * 7 + 3, none⟩ = some (.int .i64 d) := (Fresh.cell_ hF (hc 3 _ rfl))
    have x4 : wr.cell? ⟨b0, off + k * 7 + 4, none⟩ = some (.int .i64 f) := (Fresh.cell_ hF (hc 4 _ rfl))
    have x5 : wr.cell? ⟨b0, off + k * 7 + 5, none⟩ = some (.int .i64 m) := (Fresh.cell_ hF (hc 5 _ rfl))
    have x6 : wr.cell? ⟨b0, off + k * 7 + 6, none⟩ = some (.bool vt) := (Fresh.cell_ hF (hc 6 _ rfl))
    have l0 : b0 < wr.heap.size := Nat.lt_of_lt_of_le hlt0 hF.size
    clear hc hlt0 Ha Hr Hl
    have H1 := Lib.hid hB
    have H2 := Lib.hid hW
    have H3 := Lib.hid hF
    clear hB hW hF
    go_wp2_with fail
    go_quiet ((go_at_call 12; refine Calls.quiet_of_same (ref_any r s a b c d f m vt _ _ h3 h4 h2 ?_ ?_ ?_ ?_ ?_) <;> simp))
    go_wp2_with fail
    refine (fit_any _ a b c d f m r s v0 v1 v2 v3 v4 vt _ ((H1.out.alloc _).drewN _) h3 h4 h2).mono ?_
    rintro e w4 ⟨rfl, hk4, hd⟩
    have W4 := ((H2.out.alloc _).drewN _).keep hk4 (by omega)
    have A4 := ((Blk.at_new rfl 26 #[.int .i64 a, .int .i64 b, .int .i64 c, .int .i64 d, .int .i64 f, .int .i64 m, .bool vt]).drewN _).keep hk4 (by have := H1.out.lt; omega)
    have F4 : Fresh w w4 := Keep.step ((H3.out.alloc _).drewN _) hk4 (by omega)
    obtain ⟨wo, hwo⟩ : ∃ wo : World, wo = wr := ⟨_, rfl⟩
    rw [← hwo] at A4 ⊢
    have lwo : w.heap.size + 1 < wo.heap.size := by rw [hwo]; exact H2.out.lt
    clear x0 x1 x2 x3 x4 x5 x6 l0 H1 H2 H3 hk4 hwo
    rcases hd with ⟨hz, hb4⟩ | ⟨hz, hb4⟩
    · have t1 : (fitR r s a b c d f m vt == 0) = true := by rw [hz]; rfl
      have HZ := Lib.hid hz
      clear hz
      go_wp2_with fail
      go_loopg [13] 5 (fun gk v wr => ∃ k' : Nat, k' ≤ 5 ∧ gk = 5 - k' ∧ v = .int .i64 k' ∧ Blk wr (w.heap.size + 1) 24 #[.int .i64 (mx k' 0 v0 a), .int .i64 (mx k' 1 v1 b), .int .i64 (mx k' 2 v2 c), .int .i64 (mx k' 3 v3 d), .int .i64 (mx k' 4 v4 f)] ∧
        Blk wr w.heap.size 52 #[.int .i64 r, .int .i64 s, .int .i64 (max v0 a), .int .i64 (max v1 b), .int .i64 (max v2 c), .int .i64 (max v3 d), .int .i64 (max v4 f)] ∧ Blk wr wo.heap.size 26 #[.int .i64 a, .int .i64 b, .int .i64 c, .int .i64 d, .int .i64 f, .int .i64 m, .bool vt] ∧ Fresh w wr)
      case atStart => exact ⟨0, by omega, rfl, rfl, by simpa [mx] using W4, hb4, A4, F4⟩
      case round =>
        clear hb4 W4 A4 F4
        obtain ⟨k', hk', rfl, rfl, hW, hB, hA, hF⟩ := hrel
        have cW := hW.cell
        have fW := hW.frozen
        have cA := hA.cell
        have lA := hA.lt
        have M1 := Lib.hid hW
        have M2 := Lib.hid hB
        have M3 := Lib.hid hA
        have M4 := Lib.hid hF
        clear hW hB hA hF
        have hk5 : k' = 0 ∨ k' = 1 ∨ k' = 2 ∨ k' = 3 ∨ k' = 4 ∨ k' = 5 := by omega
        rcases hk5 with rfl | rfl | rfl | rfl | rfl | rfl
        · go_wp2
          go_region
          go_wp2
          go_roundg 4
          case measure => omega
          case rel => exact ⟨1, by omega, rfl, rfl, (by have h := M1.out.set_ 0 (.int .i64 (max v0 a)); simp [mx] at h ⊢; exact h), M2.out.far (by simp) _, M3.out.far (by dsimp only; omega) _, (M4.out.setCell (by intro hh; dsimp only at hh; omega) _).drew⟩
        · go_wp2
          go_region
          go_wp2
          go_roundg 3
          case measure => omega
          case rel => exact ⟨2, by omega, rfl, rfl, (by have h := M1.out.set_ 1 (.int .i64 (max v1 b)); simp [mx] at h ⊢; exact h), M2.out.far (by simp) _, M3.out.far (by dsimp only; omega) _, (M4.out.setCell (by intro hh; dsimp only at hh; omega) _).drew⟩
        · go_wp2
          go_region
          go_wp2
          go_roundg 2
          case measure => omega
          case rel => exact ⟨3, by omega, rfl, rfl, (by have h := M1.out.set_ 2 (.int .i64 (max v2 c)); simp [mx] at h ⊢; exact h), M2.out.far (by simp) _, M3.out.far (by dsimp only; omega) _, (M4.out.setCell (by intro hh; dsimp only at hh; omega) _).drew⟩
        · go_wp2
          go_region
          go_wp2
          go_roundg 1
          case measure => omega
          case rel => exact ⟨4, by omega, rfl, rfl, (by have h := M1.out.set_ 3 (.int .i64 (max v3 d)); simp [mx] at h ⊢; exact h), M2.out.far (by simp) _, M3.out.far (by dsimp only; omega) _, (M4.out.setCell (by intro hh; dsimp only at hh; omega) _).drew⟩
        · go_wp2
          go_region
          go_wp2
          go_roundg 0
          case measure => omega
          case rel => exact ⟨5, by omega, rfl, rfl, (by have h := M1.out.set_ 4 (.int .i64 (max v4 f)); simp [mx] at h ⊢; exact h), M2.out.far (by simp) _, M3.out.far (by dsimp only; omega) _, (M4.out.setCell (by intro hh; dsimp only at hh; omega) _).drew⟩
        have N1 := M2
        have N2 := Lib.hid (show Blk wr (w.heap.size + 1) 24 #[.int .i64 (max v0 a), .int .i64 (max v1 b), .int .i64 (max v2 c), .int .i64 (max v3 d), .int .i64 (max v4 f)] by have h := M1.out; simp [mx] at h; exact h)
        have N3 := M4
        clear M1 M2 M3 M4 cW fW cA lA
        go_wp2_with fail
        have kW := fun (W : World) (h : Blk W (w.heap.size + 1) 24 #[.int .i64 (max v0 a), .int .i64 (max v1 b), .int .i64 (max v2 c), .int .i64 (max v3 d), .int .i64 (max v4 f)]) (i : Nat) => h.cell i
        go_region_held3 (fun w' => Blk w' w.heap.size 52 #[.int .i64 r, .int .i64 s, .int .i64 (max v0 a), .int .i64 (max v1 b), .int .i64 (max v2 c), .int .i64 (max v3 d), .int .i64 (max v4 f)] ∧ Blk w' (w.heap.size + 1) 24 #[.int .i64 (max v0 a), .int .i64 (max v1 b), .int .i64 (max v2 c), .int .i64 (max v3 d), .int .i64 (max v4 f)] ∧ Fresh w w')
          (((try dsimp only); (repeat' apply And.intro) <;> (repeat (first
            | (with_reducible exact N1.out) | (with_reducible exact N2.out) | (with_reducible exact N3.out) | (with_reducible assumption)
            | (with_reducible refine Blk.drew ?_) | (with_reducible refine Keep.drew ?_) | (with_reducible refine Fresh.blk_ hq ?_) | (with_reducible refine Keep.step ?_ hq (fun _ _ h => h))))))
          (first
            | (go_at_call 13; refine (worst_blk _ _ _ _ _ _ _ _ _ (by assumption)).mono ?_; rintro e wq ⟨rfl, hq⟩)
            | (go_at_call 14; go_split_ands; refine (room_blk _ _ _ _ _ _ _ _ _ (by assumption)).mono ?_; rintro e w' ⟨rfl, rfl⟩))
        go_split_ands
        go_wp2
        go_roundg (n - (k + 1))
        case measure => omega
        case rel => exact ⟨k + 1, _, _, _, _, _, by omega, rfl, by go_num, (by assumption), (by assumption), (by assumption)⟩
    · have t1 : (fitR r s a b c d f m vt == 0) = false := by rw [beq_eq_false_iff_ne]; exact hz
      clear hz
      have N1 := Lib.hid hb4
      have N2 := Lib.hid (show Blk w4 (w.heap.size + 1) 24 #[.int .i64 v0, .int .i64 v1, .int .i64 v2, .int .i64 v3, .int .i64 v4] from W4)
      have N3 := Lib.hid F4
      clear hb4 W4 A4 F4
      go_wp2_with fail
      go_loop [13] (fun v => ∃ k' : Nat, k' ≤ 5 ∧ v = .int .i64 k') (fun v => 5 - (intOf v).toNat)
      case atStart => exact ⟨0, by omega, rfl⟩
      case round =>
        obtain ⟨k', hk', rfl⟩ := hrel
        by_cases hlt5 : k' < 5
        · go_wp2
          go_round
          case rel => exact ⟨k' + 1, by omega, by go_num⟩
          case measure => simp [intOf]; omega
        go_wp2_with fail
        have kW := fun (W : World) (h : Blk W (w.heap.size + 1) 24 #[.int .i64 v0, .int .i64 v1, .int .i64 v2, .int .i64 v3, .int .i64 v4]) (i : Nat) => h.cell i
        go_region_held3 (fun w' => Blk w' w.heap.size 52 #[.int .i64 r, .int .i64 s, .int .i64 v0, .int .i64 v1, .int .i64 v2, .int .i64 v3, .int .i64 v4] ∧ Blk w' (w.heap.size + 1) 24 #[.int .i64 v0, .int .i64 v1, .int .i64 v2, .int .i64 v3, .int .i64 v4] ∧ Fresh w w')
          (((try dsimp only); (repeat' apply And.intro) <;> (repeat (first
            | (with_reducible exact N1.out) | (with_reducible exact N2.out) | (with_reducible exact N3.out) | (with_reducible assumption)
            | (with_reducible refine Blk.drew ?_) | (with_reducible refine Keep.drew ?_) | (with_reducible refine Fresh.blk_ hq ?_) | (with_reducible refine Keep.step ?_ hq (fun _ _ h => h))))))
          (first
            | (go_at_call 13; refine (worst_blk _ _ _ _ _ _ _ _ _ (by assumption)).mono ?_; rintro e wq ⟨rfl, hq⟩)
            | (go_at_call 14; go_split_ands; refine (room_blk _ _ _ _ _ _ _ _ _ (by assumption)).mono ?_; rintro e w' ⟨rfl, rfl⟩))
        go_split_ands
        go_wp2
        go_roundg (n - (k + 1))
        case measure => omega
        case rel => exact ⟨k + 1, _, _, _, _, _, by omega, rfl, by go_num, (by assumption), (by assumption), (by assumption)⟩
open Go.ChangeShapes Go.WideShapes Go.ChangeAt
set_option maxRecDepth 100000 in
theorem budgetFits_lifted (os : Os) (started : os.Started) (H : Type) (enc : TypeId × Value → H) :
    ReturnsInHanded {} Try.checked os 4 .any (Rows.budgetFitsSpec.pre6 enc Try.prog Try.f4 Rows.budgetFitsRow.domain false) (Rows.budgetFitsSpec.post enc Try.prog Try.f4 false true false false) := by
  refine law_lifted (C := Try.checked) (tb := 4) (by kernel_rfl) (by kernel_rfl) started (by kernel_rfl) Try.func4 rfl ?_ rfl Try.underlying4 (by kernel_rfl)
    (ChangeSpec.witness6 (enc := enc) (C := Try.checked) false ⟨#[], #[.int .i64 0, .int .i64 0, .slice none 0 0], []⟩ 12 (by kernel_rfl) (by kernel_rfl) (by kernel_rfl) (by kernel_rfl)) ?_
  · intro ds hds
    match ds, hds with
    | [e0, e1, e2], _ => rfl
  · intro W base args ds p hval hA hreach
    rw [Try.params4] at hA hval hreach
    obtain ⟨v0, vs0, d0, ds0, p0, q0, hargs, rfl, rfl, h0, r0⟩ := trodAll_cons hA
    obtain ⟨v1, vs1, d1, ds1, p1, q1, rfl, rfl, rfl, h1, r1⟩ := trodAll_cons r0
    obtain ⟨v2, vs2, d2, ds2, p2, q2, rfl, rfl, rfl, h2, r2⟩ := trodAll_cons r1
    obtain ⟨rfl, rfl, rfl⟩ := trodAll_nil r2
    obtain rfl : args = #[v0, v1, v2] := by cases args; simp_all
    obtain ⟨r, rfl, w_r⟩ := arg_int Try.underlying3 (hval 0 3 v0 rfl rfl) h0
    obtain ⟨s, rfl, w_s⟩ := arg_int Try.underlying3 (hval 1 3 v1 rfl rfl) h1
    obtain ⟨A_l, n_l, c_l, rows_l, rfl, len_l, cap_l, max_l, leaf_l, at_l⟩ := arg_slice (n := 6) Try.underlying36 (by kernel_rfl) (by kernel_rfl) (by rw [show Try.prog.cellsOf 26 = 7 by kernel_rfl]; decide) (hval 2 36 v2 rfl rfl) h2
    rw [show flat Try.prog 6 26 = [3, 3, 3, 3, 3, 3, 4] by kernel_rfl] at leaf_l
    rw [show Try.prog.cellsOf 26 = 7 by kernel_rfl] at at_l
    have hrows : ∀ x ∈ rows_l, AskRow x := by
      intro x hx
      obtain ⟨a, l0, e0, _, h0⟩ := all2_int Try.underlying3 (leaf_l x hx)
      obtain ⟨b, l1, e1, _, h1⟩ := all2_int Try.underlying3 h0
      obtain ⟨c, l2, e2, _, h2⟩ := all2_int Try.underlying3 h1
      obtain ⟨d, l3, e3, _, h3⟩ := all2_int Try.underlying3 h2
      obtain ⟨f, l4, e4, _, h4⟩ := all2_int Try.underlying3 h3
      obtain ⟨m, l5, e5, _, h5⟩ := all2_int Try.underlying3 h4
      obtain ⟨v, l6, e6, h6⟩ := all2_bool Try.underlying4 h5
      have e7 := all2_nil h6
      subst e7 e6 e5 e4 e3 e2 e1 e0
      exact ⟨a, b, c, d, f, m, v, rfl⟩
    by_cases h : r < 1 ∨ 4096 < r ∨ s < 0 ∨ r < s
    · exact fits_arg r s A_l n_l c_l W h
    by_cases hn : n_l ≤ 40
    · exact fits_ok r s A_l n_l c_l rows_l W (by omega) (by omega) (by omega) (by omega) hn len_l hrows at_l
    · exact fits_long r s A_l n_l c_l W (by omega) (by omega) (by omega) (by omega) (by omega) (by unfold maxLen at max_l; omega)

theorem budgetFits_holds : Rows.BudgetFitsSaid :=
  OpenClaim.holds_of_wide 4 Try.f4 rfl rfl rfl rfl rfl rfl rfl ⟨rfl, rfl, rfl, rfl, rfl⟩ rfl rfl rfl rfl rfl (by kernel_rfl) Try.func4 (by kernel_rfl)
    (of_decide_eq_true (by kernel_rfl)) (by unfold Func.isWrapper; first | (rw [if_pos (by decide +kernel)]; kernel_rfl) | (rw [if_neg (by decide +kernel)]; exact ⟨rfl, rfl⟩))
    (fun os started H enc _ => budgetFits_lifted os started H enc)
end Go.Proofs.Ytfldnbmafbdpeaa
