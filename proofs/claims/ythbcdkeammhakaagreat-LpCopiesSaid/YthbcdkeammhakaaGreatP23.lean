/- Chapter 13: LpN. -/
import Derived.Test.YthbcdkeammhakaaGreatP22
set_option maxRecDepth 100000
set_option maxHeartbeats 16000000
namespace Go.Proofs.YthbcdkeammhakaaGreat
open Go.RowKit
attribute [local go_sem ↓] Go.wp_at_zero Go.wp_at_succ
theorem lnext_any (c : LC) (y : PV) (p : LPs) (w : World) (h : SLP w c y p) (hl : p.l.length ≤ 100000) : Calls Tryz.prog 40 #[.pointer (some ⟨y.g, 0, none⟩)] w (NextP (nextE p.l p.now) w) := by
 have HN := Lib.hid (fun W (f : Fresh w W) => next_any y.gq y.v1 y.v2 p.l p.m p.now W (h.sq.fresh f) hl)
 have HB0 : Hid (Blk w.drew y.g 103 (lcells c y p)) := Lib.hid (h.blk.drew)
 have y0 := fun (W' : World) (h : Blk W' y.g 103 (lcells c y p)) (i : Nat) => (h.cell i).trans (lcells_at c y p i)
 have y1 := fun (W' : World) (h : Blk W' y.g 103 (lcells c y p)) => h.lt
 clear h
 obtain ⟨N, hN⟩ : ∃ N, nextE p.l p.now = N := ⟨_, rfl⟩
 rw [hN] at HN ⊢
 clear hN
 unfold NextP at HN ⊢
 go_enter Tryz.func40, Tryz.ntmps40
 go_wp2_with fail
 cases N with
 | none =>
  refine region_T (S := fun W' => Blk W' y.g 103 (lcells c y p)) (T := []) (by kernel_rfl) ?_
  refine anyT_take (i := 0) (oi := _) (v := ?va0) rfl (by kernel_rfl) (by kernel_rfl) (by kernel_rfl) (by kernel_rfl) (fun _ _ _ h => h) (Or.inl ⟨by rfl, ?hya0⟩) HB0.out ?resta0
  case hya0 => (intro W hSw; go_simp; try with_reducible rfl)
  try simp only [List.getElem_toArray, List.getElem_cons_zero, Act.put, List.setIfInBounds_toArray, List.set_cons_zero, List.set_cons_succ]
  refine anyT_take (i := 1) (oi := _) (v := ?va1) rfl (by kernel_rfl) (by kernel_rfl) (by kernel_rfl) (by kernel_rfl) (fun _ _ _ h => h) (Or.inl ⟨by rfl, ?hya1⟩) HB0.out ?resta1
  case hya1 => (intro W hSw; go_simp; try with_reducible rfl)
  try simp only [List.getElem_toArray, List.getElem_cons_zero, List.getElem_cons_succ, Act.put, List.setIfInBounds_toArray, List.set_cons_zero, List.set_cons_succ]
  refine anyT_take (i := 2) (oi := _) (v := ?va2) rfl (by kernel_rfl) (by kernel_rfl) (by kernel_rfl) (by kernel_rfl) (fun _ _ _ h => h) (Or.inl ⟨by rfl, ?hya2⟩) HB0.out ?resta2
  case hya2 => (intro W hSw; go_simp; try with_reducible rfl)
  try simp only [List.getElem_toArray, List.getElem_cons_zero, List.getElem_cons_succ, Act.put, List.setIfInBounds_toArray, List.set_cons_zero, List.set_cons_succ]
  refine anyT_take (i := 3) (oi := _) (v := ?va3) rfl (by kernel_rfl) (by kernel_rfl) (by kernel_rfl) (by kernel_rfl) (fun _ _ _ h => h) (Or.inl ⟨by rfl, ?hya3⟩) HB0.out ?resta3
  case hya3 => (intro W hSw; go_simp; try with_reducible rfl)
  try simp only [List.getElem_toArray, List.getElem_cons_zero, List.getElem_cons_succ, Act.put, List.setIfInBounds_toArray, List.set_cons_zero, List.set_cons_succ]
  refine anyT_take (i := 4) (oi := _) (v := ?va4) rfl (by kernel_rfl) (by kernel_rfl) (by kernel_rfl) (by kernel_rfl) (fun _ _ _ h => h) (Or.inl ⟨by rfl, ?hya4⟩) HB0.out ?resta4
  case hya4 => (intro W hSw; go_simp; try with_reducible rfl)
  try simp only [List.getElem_toArray, List.getElem_cons_zero, List.getElem_cons_succ, Act.put, List.setIfInBounds_toArray, List.set_cons_zero, List.set_cons_succ]
  refine anyT_take (i := 5) (oi := _) (v := ?va5) rfl (by kernel_rfl) (by kernel_rfl) (by kernel_rfl) (by kernel_rfl) (fun _ _ _ h => h) (Or.inl ⟨by rfl, ?hya5⟩) HB0.out ?resta5
  case hya5 => (intro W hSw; go_simp; try with_reducible rfl)
  try simp only [List.getElem_toArray, List.getElem_cons_zero, List.getElem_cons_succ, Act.put, List.setIfInBounds_toArray, List.set_cons_zero, List.set_cons_succ]
  refine anyT_take (i := 6) (oi := _) (v := ?va6) rfl (by kernel_rfl) (by kernel_rfl) (by kernel_rfl) (by kernel_rfl) (fun _ _ _ h => h) (Or.inl ⟨by rfl, ?hya6⟩) HB0.out ?resta6
  case hya6 => (intro W hSw; go_simp; try with_reducible rfl)
  try simp only [List.getElem_toArray, List.getElem_cons_zero, List.getElem_cons_succ, Act.put, List.setIfInBounds_toArray, List.set_cons_zero, List.set_cons_succ]
  refine anyT_take (i := 7) (oi := _) (v := ?va7) rfl (by kernel_rfl) (by kernel_rfl) (by kernel_rfl) (by kernel_rfl) (fun _ _ _ h => h) (Or.inl ⟨by rfl, ?hya7⟩) HB0.out ?resta7
  case hya7 => (intro W hSw; go_simp; try with_reducible rfl)
  try simp only [List.getElem_toArray, List.getElem_cons_zero, List.getElem_cons_succ, Act.put, List.setIfInBounds_toArray, List.set_cons_zero, List.set_cons_succ]
  refine anyT_one' (i := 8) (by kernel_rfl) rfl (by rfl) (fun KQ hK => ?_)
  go_simp
  go_at_call 82
  (with_reducible refine (HN.out _ (Keep.refl _ w).drew).mono ?_)
  rintro e w3 ⟨rfl, f3⟩
  have HB3 := Lib.hid (f3.blk_ HB0.out)
  have F3 := Lib.hid (((Keep.refl (fun _ => False) w).drew).step f3 (fun _ _ h => h))
  clear f3
  refine hK.out _ _ HB3.out ?_
  clear hK KQ
  try simp only [List.getElem_toArray, List.getElem_cons_zero, List.getElem_cons_succ, Act.put, List.setIfInBounds_toArray, List.set_cons_zero, List.set_cons_succ]
  refine anyT_take (i := 9) (oi := _) (v := ?va9) rfl (by kernel_rfl) (by kernel_rfl) (by kernel_rfl) (by kernel_rfl) (fun _ _ _ h => h) (Or.inl ⟨by rfl, ?hya9⟩) HB3.out ?resta9
  case hya9 => (intro W hSw; go_simp; try with_reducible rfl)
  try simp only [List.getElem_toArray, List.getElem_cons_zero, List.getElem_cons_succ, Act.put, List.setIfInBounds_toArray, List.set_cons_zero, List.set_cons_succ]
  refine anyT_take (i := 10) (oi := _) (v := ?va10) rfl (by kernel_rfl) (by kernel_rfl) (by kernel_rfl) (by kernel_rfl) (fun _ _ _ h => h) (Or.inl ⟨by rfl, ?hya10⟩) HB3.out ?resta10
  case hya10 => (intro W hSw; go_simp; try with_reducible rfl)
  try simp only [List.getElem_toArray, List.getElem_cons_zero, List.getElem_cons_succ, Act.put, List.setIfInBounds_toArray, List.set_cons_zero, List.set_cons_succ]
  refine anyT_take (i := 11) (oi := _) (v := ?va11) rfl (by kernel_rfl) (by kernel_rfl) (by kernel_rfl) (by kernel_rfl) (fun _ _ _ h => h) (Or.inl ⟨by rfl, ?hya11⟩) HB3.out ?resta11
  case hya11 => (intro W hSw; go_simp; try with_reducible rfl)
  try simp only [List.getElem_toArray, List.getElem_cons_zero, List.getElem_cons_succ, Act.put, List.setIfInBounds_toArray, List.set_cons_zero, List.set_cons_succ]
  refine anyT_take (i := 12) (oi := _) (v := ?va12) rfl (by kernel_rfl) (by kernel_rfl) (by kernel_rfl) (by kernel_rfl) (fun _ _ _ h => h) (Or.inl ⟨by rfl, ?hya12⟩) HB3.out ?resta12
  case hya12 => (intro W hSw; go_simp; try with_reducible rfl)
  try simp only [List.getElem_toArray, List.getElem_cons_zero, List.getElem_cons_succ, Act.put, List.setIfInBounds_toArray, List.set_cons_zero, List.set_cons_succ]
  refine anyT_done (by kernel_rfl) ?_
  go_wp2_with fail
  go_returns
  exact ⟨rfl, F3.out⟩
 | some x =>
  refine region_T (S := fun W' => Blk W' y.g 103 (lcells c y p)) (T := []) (by kernel_rfl) ?_
  refine anyT_take (i := 0) (oi := _) (v := ?vb0) rfl (by kernel_rfl) (by kernel_rfl) (by kernel_rfl) (by kernel_rfl) (fun _ _ _ h => h) (Or.inl ⟨by rfl, ?hyb0⟩) HB0.out ?restb0
  case hyb0 => (intro W hSw; go_simp; try with_reducible rfl)
  try simp only [List.getElem_toArray, List.getElem_cons_zero, Act.put, List.setIfInBounds_toArray, List.set_cons_zero, List.set_cons_succ]
  refine anyT_take (i := 1) (oi := _) (v := ?vb1) rfl (by kernel_rfl) (by kernel_rfl) (by kernel_rfl) (by kernel_rfl) (fun _ _ _ h => h) (Or.inl ⟨by rfl, ?hyb1⟩) HB0.out ?restb1
  case hyb1 => (intro W hSw; go_simp; try with_reducible rfl)
  try simp only [List.getElem_toArray, List.getElem_cons_zero, List.getElem_cons_succ, Act.put, List.setIfInBounds_toArray, List.set_cons_zero, List.set_cons_succ]
  refine anyT_take (i := 2) (oi := _) (v := ?vb2) rfl (by kernel_rfl) (by kernel_rfl) (by kernel_rfl) (by kernel_rfl) (fun _ _ _ h => h) (Or.inl ⟨by rfl, ?hyb2⟩) HB0.out ?restb2
  case hyb2 => (intro W hSw; go_simp; try with_reducible rfl)
  try simp only [List.getElem_toArray, List.getElem_cons_zero, List.getElem_cons_succ, Act.put, List.setIfInBounds_toArray, List.set_cons_zero, List.set_cons_succ]
  refine anyT_take (i := 3) (oi := _) (v := ?vb3) rfl (by kernel_rfl) (by kernel_rfl) (by kernel_rfl) (by kernel_rfl) (fun _ _ _ h => h) (Or.inl ⟨by rfl, ?hyb3⟩) HB0.out ?restb3
  case hyb3 => (intro W hSw; go_simp; try with_reducible rfl)
  try simp only [List.getElem_toArray, List.getElem_cons_zero, List.getElem_cons_succ, Act.put, List.setIfInBounds_toArray, List.set_cons_zero, List.set_cons_succ]
  refine anyT_take (i := 4) (oi := _) (v := ?vb4) rfl (by kernel_rfl) (by kernel_rfl) (by kernel_rfl) (by kernel_rfl) (fun _ _ _ h => h) (Or.inl ⟨by rfl, ?hyb4⟩) HB0.out ?restb4
  case hyb4 => (intro W hSw; go_simp; try with_reducible rfl)
  try simp only [List.getElem_toArray, List.getElem_cons_zero, List.getElem_cons_succ, Act.put, List.setIfInBounds_toArray, List.set_cons_zero, List.set_cons_succ]
  refine anyT_take (i := 5) (oi := _) (v := ?vb5) rfl (by kernel_rfl) (by kernel_rfl) (by kernel_rfl) (by kernel_rfl) (fun _ _ _ h => h) (Or.inl ⟨by rfl, ?hyb5⟩) HB0.out ?restb5
  case hyb5 => (intro W hSw; go_simp; try with_reducible rfl)
  try simp only [List.getElem_toArray, List.getElem_cons_zero, List.getElem_cons_succ, Act.put, List.setIfInBounds_toArray, List.set_cons_zero, List.set_cons_succ]
  refine anyT_take (i := 6) (oi := _) (v := ?vb6) rfl (by kernel_rfl) (by kernel_rfl) (by kernel_rfl) (by kernel_rfl) (fun _ _ _ h => h) (Or.inl ⟨by rfl, ?hyb6⟩) HB0.out ?restb6
  case hyb6 => (intro W hSw; go_simp; try with_reducible rfl)
  try simp only [List.getElem_toArray, List.getElem_cons_zero, List.getElem_cons_succ, Act.put, List.setIfInBounds_toArray, List.set_cons_zero, List.set_cons_succ]
  refine anyT_take (i := 7) (oi := _) (v := ?vb7) rfl (by kernel_rfl) (by kernel_rfl) (by kernel_rfl) (by kernel_rfl) (fun _ _ _ h => h) (Or.inl ⟨by rfl, ?hyb7⟩) HB0.out ?restb7
  case hyb7 => (intro W hSw; go_simp; try with_reducible rfl)
  try simp only [List.getElem_toArray, List.getElem_cons_zero, List.getElem_cons_succ, Act.put, List.setIfInBounds_toArray, List.set_cons_zero, List.set_cons_succ]
  refine anyT_one' (i := 8) (by kernel_rfl) rfl (by rfl) (fun KQ hK => ?_)
  go_simp
  go_at_call 82
  (with_reducible refine (HN.out _ (Keep.refl _ w).drew).mono ?_)
  rintro e w3 ⟨rfl, f3⟩
  have HB3 := Lib.hid (f3.blk_ HB0.out)
  have F3 := Lib.hid (((Keep.refl (fun _ => False) w).drew).step f3 (fun _ _ h => h))
  clear f3
  refine hK.out _ _ HB3.out ?_
  clear hK KQ
  try simp only [List.getElem_toArray, List.getElem_cons_zero, List.getElem_cons_succ, Act.put, List.setIfInBounds_toArray, List.set_cons_zero, List.set_cons_succ]
  refine anyT_take (i := 9) (oi := _) (v := ?vb9) rfl (by kernel_rfl) (by kernel_rfl) (by kernel_rfl) (by kernel_rfl) (fun _ _ _ h => h) (Or.inl ⟨by rfl, ?hyb9⟩) HB3.out ?restb9
  case hyb9 => (intro W hSw; go_simp; try with_reducible rfl)
  try simp only [List.getElem_toArray, List.getElem_cons_zero, List.getElem_cons_succ, Act.put, List.setIfInBounds_toArray, List.set_cons_zero, List.set_cons_succ]
  refine anyT_take (i := 10) (oi := _) (v := ?vb10) rfl (by kernel_rfl) (by kernel_rfl) (by kernel_rfl) (by kernel_rfl) (fun _ _ _ h => h) (Or.inl ⟨by rfl, ?hyb10⟩) HB3.out ?restb10
  case hyb10 => (intro W hSw; go_simp; try with_reducible rfl)
  try simp only [List.getElem_toArray, List.getElem_cons_zero, List.getElem_cons_succ, Act.put, List.setIfInBounds_toArray, List.set_cons_zero, List.set_cons_succ]
  refine anyT_take (i := 11) (oi := _) (v := ?vb11) rfl (by kernel_rfl) (by kernel_rfl) (by kernel_rfl) (by kernel_rfl) (fun _ _ _ h => h) (Or.inl ⟨by rfl, ?hyb11⟩) HB3.out ?restb11
  case hyb11 => (intro W hSw; go_simp; try with_reducible rfl)
  try simp only [List.getElem_toArray, List.getElem_cons_zero, List.getElem_cons_succ, Act.put, List.setIfInBounds_toArray, List.set_cons_zero, List.set_cons_succ]
  refine anyT_take (i := 12) (oi := _) (v := ?vb12) rfl (by kernel_rfl) (by kernel_rfl) (by kernel_rfl) (by kernel_rfl) (fun _ _ _ h => h) (Or.inl ⟨by rfl, ?hyb12⟩) HB3.out ?restb12
  case hyb12 => (intro W hSw; go_simp; try with_reducible rfl)
  try simp only [List.getElem_toArray, List.getElem_cons_zero, List.getElem_cons_succ, Act.put, List.setIfInBounds_toArray, List.set_cons_zero, List.set_cons_succ]
  refine anyT_done (by kernel_rfl) ?_
  go_wp2_with fail
  go_returns
  exact ⟨rfl, F3.out⟩
theorem lnow_any (c : LC) (y : PV) (p : LPs) (w : World) (h : SLP w c y p) : Calls Tryz.prog 19 #[.pointer (some ⟨y.g, 0, none⟩)] w fun e w' => e = .returned (.int .i64 p.now) ∧ Fresh w w' := by
 have c0 := fun i => (h.blk.cell i).trans (lcells_at c y p i)
 have l0 := h.blk.lt
 clear h
 go_enter Tryz.func19, Tryz.ntmps19
 go_wp2_with fail
 go_returns
 exact ⟨rfl, by (repeat (first | (with_reducible exact Keep.refl _ _) | (with_reducible assumption) | (with_reducible refine Keep.drew ?_) | (with_reducible refine Keep.drewN ?_ _) | (with_reducible refine Keep.alloc ?_ _) | (with_reducible refine Keep.setCell ?_ ?_ _) | (with_reducible refine fun _ => rfl)))⟩
theorem lstate_any (c : LC) (y : PV) (p : LPs) (w : World) (h : SLP w c y p) : Calls Tryz.prog 18 #[.pointer (some ⟨y.g, 0, none⟩)] w fun e w' => e = .returned p.st.val ∧ Fresh w w' := by
 have c0 := fun i => (h.blk.cell i).trans (lcells_at c y p i)
 have l0 := h.blk.lt
 clear h
 go_enter Tryz.func18, Tryz.ntmps18
 go_wp2_with fail
 have C := (Blk.new w 23 #[.int .i64 p.st.s0, .int .i64 p.st.s1, .int .i64 p.st.s2, .int .i64 p.st.s3]).cell
 exact bodyPost_ret (v := .agg #[.int .i64 p.st.s0, .int .i64 p.st.s1, .int .i64 p.st.s2, .int .i64 p.st.s3]) (by simp [results, Tryz.results18, go_sem, C]; try rfl) rfl ⟨rfl, by (repeat (first | (with_reducible exact Keep.refl _ _) | (with_reducible assumption) | (with_reducible refine Keep.drew ?_) | (with_reducible refine Keep.drewN ?_ _) | (with_reducible refine Keep.alloc ?_ _) | (with_reducible refine Keep.setCell ?_ ?_ _) | (with_reducible refine fun _ => rfl)))⟩
def leastP (p : LPs) : Int := match leastL p.q with
 | some r => min (match nextE p.l p.now with | some x => min 1073741825 x.a | none => 1073741825) r.1.t
 | none => match nextE p.l p.now with | some x => min 1073741825 x.a | none => 1073741825
attribute [local go_sem ↓] RS.run_max RS.run_min
theorem lleast_any (c : LC) (y : PV) (p : LPs) (w : World) (h : SLP w c y p) (hl : p.l.length ≤ 100000) (hq : p.q.length ≤ 100000) : Calls Tryz.prog 20 #[.pointer (some ⟨y.g, 0, none⟩)] w fun e w' => e = .returned (.int .i64 (leastP p)) ∧ Fresh w w' := by
 have HNX := Lib.hid (lnext_any c y p w h hl)
 have HLE : Hid (∀ W, Fresh w W → Calls Tryz.prog 45 #[.pointer (some ⟨y.go, 0, none⟩)] W (LeastP (leastL p.q) W)) := Lib.hid fun W f => least_any y.go y.v3 p.q W (h.oq.fresh f) hq
 have HB0 : Hid (Blk w y.g 103 (lcells c y p)) := Lib.hid h.blk
 have HLP : Hid (leastP p = _) := Lib.hid (show leastP p = match leastL p.q with
  | some r => min (match nextE p.l p.now with | some x => min 1073741825 x.a | none => 1073741825) r.1.t
  | none => match nextE p.l p.now with | some x => min 1073741825 x.a | none => 1073741825 from rfl)
 obtain ⟨N, hN⟩ : ∃ N, nextE p.l p.now = N := ⟨_, rfl⟩
 obtain ⟨M, hM⟩ : ∃ M, leastL p.q = M := ⟨_, rfl⟩
 obtain ⟨L, hL⟩ : ∃ L, leastP p = L := ⟨_, rfl⟩
 rw [hN] at HNX HLP
 rw [hM] at HLE HLP
 rw [hL] at HLP ⊢
 clear hN hM hL h
 unfold NextP at HNX
 unfold LeastP at HLE
 cases N with
 | none =>
  cases M with
  | none =>
   have hL : L = 1073741825 := HLP.out
   subst hL
   go_enter Tryz.func20, Tryz.ntmps20
   go_wp2_with (first
    | (go_at_call 40; (with_reducible refine HNX.out.mono ?_); rintro e w1 ⟨rfl, f1⟩; have F1 := Lib.hid f1; have b1 := f1.blk_ HB0.out; have c1 := fun i => (b1.cell i).trans (lcells_at c y p i); have l1 := b1.lt; clear f1 b1)
    | (go_at_call 45; (with_reducible refine (HLE.out _ F1.out).mono ?_); rintro e w2 ⟨rfl, f2⟩))
   go_returns
   exact ⟨rfl, F1.out.step f2 (fun _ _ h => h)⟩
  | some r =>
   have hL : L = min 1073741825 r.1.t := HLP.out
   subst hL
   go_enter Tryz.func20, Tryz.ntmps20
   go_wp2_with (first
    | (go_at_call 40; (with_reducible refine HNX.out.mono ?_); rintro e w1 ⟨rfl, f1⟩; have F1 := Lib.hid f1; have b1 := f1.blk_ HB0.out; have c1 := fun i => (b1.cell i).trans (lcells_at c y p i); have l1 := b1.lt; clear f1 b1)
    | (go_at_call 45; (with_reducible refine (HLE.out _ F1.out).mono ?_); rintro e w2 ⟨rfl, f2⟩))
   go_returns
   exact ⟨rfl, F1.out.step f2 (fun _ _ h => h)⟩
 | some x =>
  cases M with
  | none =>
   have hL : L = min 1073741825 x.a := HLP.out
   subst hL
   go_enter Tryz.func20, Tryz.ntmps20
   go_wp2_with (first
    | (go_at_call 40; (with_reducible refine HNX.out.mono ?_); rintro e w1 ⟨rfl, f1⟩; have F1 := Lib.hid f1; have b1 := f1.blk_ HB0.out; have c1 := fun i => (b1.cell i).trans (lcells_at c y p i); have l1 := b1.lt; clear f1 b1)
    | (go_at_call 45; (with_reducible refine (HLE.out _ F1.out).mono ?_); rintro e w2 ⟨rfl, f2⟩))
   go_returns
   exact ⟨rfl, F1.out.step f2 (fun _ _ h => h)⟩
  | some r =>
   have hL : L = min (min 1073741825 x.a) r.1.t := HLP.out
   subst hL
   go_enter Tryz.func20, Tryz.ntmps20
   go_wp2_with (first
    | (go_at_call 40; (with_reducible refine HNX.out.mono ?_); rintro e w1 ⟨rfl, f1⟩; have F1 := Lib.hid f1; have b1 := f1.blk_ HB0.out; have c1 := fun i => (b1.cell i).trans (lcells_at c y p i); have l1 := b1.lt; clear f1 b1)
    | (go_at_call 45; (with_reducible refine (HLE.out _ F1.out).mono ?_); rintro e w2 ⟨rfl, f2⟩))
   go_returns
   exact ⟨by rw [Int.min_assoc]; rfl, F1.out.step f2 (fun _ _ h => h)⟩
end Go.Proofs.YthbcdkeammhakaaGreat
