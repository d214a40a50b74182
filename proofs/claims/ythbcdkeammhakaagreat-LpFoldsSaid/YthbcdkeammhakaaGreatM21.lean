/- Chapter 13: LpX, LpY, SavI, LpJ. -/
import Derived.Test.YthbcdkeammhakaaGreatM20
import Derived.Test.YthbcdkeammhakaaGreatM05
import Derived.Test.YthbcdkeammhakaaGreatM01
import Derived.Test.YthbcdkeammhakaaGreatM04
import Derived.Test.YthbcdkeammhakaaGreatM18
import Derived.Test.YthbcdkeammhakaaGreatM07
import Derived.Test.YthbcdkeammhakaaGreatM19
/-
  lp.LP: Give.
-/
namespace Go.Proofs.YthbcdkeammhakaaGreat
open Go.RowKit
attribute [local go_sem ↓] Go.wp_at_zero Go.wp_at_succ
set_option maxRecDepth 100000 in
set_option maxHeartbeats 4000000 in
theorem lgive_time (c : LC) (y : PV) (p : LPs) (x : Ev) (w : World) (h : SLP w c y p) (hf : x.a < p.freed) : Calls Tryz.prog 42 #[.pointer (some ⟨y.g, 0, none⟩), x.val] w (StepP c y [] 18 p w) := by
  have c0 := fun i => (h.blk.cell i).trans (lcells_at c y p i)
  have l0 := h.blk.lt
  have H := Lib.hid h
  obtain ⟨a, s, t, n, d, k, x⟩ := x
  unfold Ev.val
  simp only at hf ⊢
  have t2 : decide (a < p.freed) = true := decide_eq_true hf
  clear h hf
  go_enter Tryz.func42, Tryz.ntmps42
  go_wp2_with fail
  go_quiet (fail)
  go_wp2
  go_returns
  exact ⟨_, rfl, msgs_nil _ _, y, H.out.fresh (by (repeat (first | (with_reducible exact Keep.refl _ _) | (with_reducible assumption) | (with_reducible refine Keep.drew ?_) | (with_reducible refine Keep.drewN ?_ _) | (with_reducible refine Keep.alloc ?_ _) | (with_reducible refine Keep.setCell ?_ ?_ _) | (with_reducible refine fun _ => rfl)))), LTurn.fresh (by (repeat (first | (with_reducible exact Keep.refl _ _) | (with_reducible assumption) | (with_reducible refine Keep.drew ?_) | (with_reducible refine Keep.drewN ?_ _) | (with_reducible refine Keep.alloc ?_ _) | (with_reducible refine Keep.setCell ?_ ?_ _) | (with_reducible refine fun _ => rfl))))⟩
set_option maxRecDepth 100000 in
set_option maxHeartbeats 8000000 in
theorem lgive_none (c : LC) (y : PV) (p : LPs) (x : Ev) (w : World) (h : SLP w c y p) (hl : p.l.length ≤ 100000) (hm : p.m.length ≤ 100000) (hf : ¬ x.a < p.freed) (hc : (cnt p.l x : Int) - (cnt p.m x : Int) ≤ 0) : Calls Tryz.prog 42 #[.pointer (some ⟨y.g, 0, none⟩), x.val] w (StepP c y [] 14 p w) := by
  have c0 := fun i => (h.blk.cell i).trans (lcells_at c y p i)
  have l0 := h.blk.lt
  have H := Lib.hid h
  have HH : Hid (∀ W, Fresh w W → Calls Tryz.prog 85 #[.pointer (some ⟨y.gq, 0, none⟩), x.val] W fun e w' => e = .returned (.int .i64 ((cnt p.l x : Int) - (cnt p.m x : Int))) ∧ Fresh W w') := Lib.hid fun W f => has_any y.gq y.v1 y.v2 p.l p.m x W (h.sq.fresh f) hl hm
  obtain ⟨cn, hcn⟩ : ∃ cn, (cnt p.l x : Int) - (cnt p.m x : Int) = cn := ⟨_, rfl⟩
  rw [hcn] at HH hc
  clear hcn
  obtain ⟨a, s, t, n, d, k, x⟩ := x
  unfold Ev.val at HH ⊢
  simp only at hf HH ⊢
  have t2 : decide (a < p.freed) = false := decide_eq_false hf
  have t3 : decide (cn ≤ 0) = true := decide_eq_true hc
  have HBA : Hid (LB (w.alloc (.cells #[.int .i64 a, .int .i64 s, .int .i64 t, .int .i64 n, .int .i64 d, .int .i64 k, .int .i64 x] 41)) y.g (lcells c y p) w.heap.size 41 #[.int .i64 a, .int .i64 s, .int .i64 t, .int .i64 n, .int .i64 d, .int .i64 k, .int .i64 x]) := Lib.hid ⟨h.blk.alloc _, Blk.new w _ _⟩
  clear h hf hc
  go_enter Tryz.func42, Tryz.ntmps42
  go_wp2_with fail
  go_quiet (fail)
  rename Nat => n11
  go_wp2_with fail
  have y0 := fun (W' : World) (h : LB W' y.g (lcells c y p) w.heap.size 41 #[.int .i64 a, .int .i64 s, .int .i64 t, .int .i64 n, .int .i64 d, .int .i64 k, .int .i64 x]) (i : Nat) => (h.l.cell i).trans (lcells_at c y p i)
  have y1 := fun (W' : World) (h : LB W' y.g (lcells c y p) w.heap.size 41 #[.int .i64 a, .int .i64 s, .int .i64 t, .int .i64 n, .int .i64 d, .int .i64 k, .int .i64 x]) => h.l.lt
  have y2 := fun (W' : World) (h : LB W' y.g (lcells c y p) w.heap.size 41 #[.int .i64 a, .int .i64 s, .int .i64 t, .int .i64 n, .int .i64 d, .int .i64 k, .int .i64 x]) (i : Nat) => h.x.cell i
  have y3 := fun (W' : World) (h : LB W' y.g (lcells c y p) w.heap.size 41 #[.int .i64 a, .int .i64 s, .int .i64 t, .int .i64 n, .int .i64 d, .int .i64 k, .int .i64 x]) => h.x.lt
  clear c0 l0
  obtain ⟨WA, hWA⟩ : ∃ WA, ((w.alloc (.cells #[.int .i64 a, .int .i64 s, .int .i64 t, .int .i64 n, .int .i64 d, .int .i64 k, .int .i64 x] 41)).drewN n11) = WA := ⟨_, rfl⟩
  have HB0 : Hid (LB WA.drew y.g (lcells c y p) w.heap.size 41 #[.int .i64 a, .int .i64 s, .int .i64 t, .int .i64 n, .int .i64 d, .int .i64 k, .int .i64 x]) := Lib.hid (hWA ▸ (HBA.out.drewN n11).drew)
  have FA : Hid (Fresh w WA.drew) := Lib.hid (hWA ▸ (((Keep.refl _ w).alloc _).drewN n11).drew)
  rw [hWA]
  clear hWA
  -- <none
  refine region_T (S := fun W' => LB W' y.g (lcells c y p) w.heap.size 41 #[.int .i64 a, .int .i64 s, .int .i64 t, .int .i64 n, .int .i64 d, .int .i64 k, .int .i64 x]) (T := []) (by kernel_rfl) ?_
  refine anyT_take (i := 0) (oi := _) (v := ?vc0) rfl (by kernel_rfl) (by kernel_rfl) (by kernel_rfl) (by kernel_rfl) (fun _ _ _ h => h) (Or.inl ⟨by rfl, ?hyc0⟩) HB0.out ?restc0
  case hyc0 => (intro W hSw; go_simp; try with_reducible rfl)
  try simp only [List.getElem_toArray, List.getElem_cons_zero, Act.put, List.setIfInBounds_toArray, List.set_cons_zero, List.set_cons_succ]
  refine anyT_take (i := 1) (oi := _) (v := ?vc1) rfl (by kernel_rfl) (by kernel_rfl) (by kernel_rfl) (by kernel_rfl) (fun _ _ _ h => h) (Or.inl ⟨by rfl, ?hyc1⟩) HB0.out ?restc1
  case hyc1 => (intro W hSw; go_simp; try with_reducible rfl)
  try simp only [List.getElem_toArray, List.getElem_cons_zero, List.getElem_cons_succ, Act.put, List.setIfInBounds_toArray, List.set_cons_zero, List.set_cons_succ]
  refine anyT_take (i := 2) (oi := _) (v := ?vc2) rfl (by kernel_rfl) (by kernel_rfl) (by kernel_rfl) (by kernel_rfl) (fun _ _ _ h => h) (Or.inl ⟨by rfl, ?hyc2⟩) HB0.out ?restc2
  case hyc2 => (intro W hSw; go_simp; try with_reducible rfl)
  try simp only [List.getElem_toArray, List.getElem_cons_zero, List.getElem_cons_succ, Act.put, List.setIfInBounds_toArray, List.set_cons_zero, List.set_cons_succ]
  refine anyT_take (i := 3) (oi := _) (v := ?vc3) rfl (by kernel_rfl) (by kernel_rfl) (by kernel_rfl) (by kernel_rfl) (fun _ _ _ h => h) (Or.inl ⟨by rfl, ?hyc3⟩) HB0.out ?restc3
  case hyc3 => (intro W hSw; go_simp; try with_reducible rfl)
  try simp only [List.getElem_toArray, List.getElem_cons_zero, List.getElem_cons_succ, Act.put, List.setIfInBounds_toArray, List.set_cons_zero, List.set_cons_succ]
  refine anyT_take (i := 4) (oi := _) (v := ?vc4) rfl (by kernel_rfl) (by kernel_rfl) (by kernel_rfl) (by kernel_rfl) (fun _ _ _ h => h) (Or.inl ⟨by rfl, ?hyc4⟩) HB0.out ?restc4
  case hyc4 => (intro W hSw; go_simp; try with_reducible rfl)
  try simp only [List.getElem_toArray, List.getElem_cons_zero, List.getElem_cons_succ, Act.put, List.setIfInBounds_toArray, List.set_cons_zero, List.set_cons_succ]
  refine anyT_one' (i := 5) (by kernel_rfl) rfl (by rfl) (fun KQ hK => ?_)
  go_simp
  go_at_call 85
  (with_reducible refine (HH.out _ FA.out).mono ?_)
  rintro e w3 ⟨rfl, f3⟩
  have HB3 := Lib.hid (HB0.out.fresh f3)
  have F3 : Hid (Fresh w w3) := Lib.hid (FA.out.step f3 (fun _ _ h => h))
  clear f3
  refine hK.out _ _ HB3.out ?_
  clear hK KQ
  try simp only [List.getElem_toArray, List.getElem_cons_zero, List.getElem_cons_succ, Act.put, List.setIfInBounds_toArray, List.set_cons_zero, List.set_cons_succ]
  refine anyT_take (i := 6) (oi := _) (v := ?vc6) rfl (by kernel_rfl) (by kernel_rfl) (by kernel_rfl) (by kernel_rfl) (fun _ _ _ h => h) (Or.inl ⟨by rfl, ?hyc6⟩) HB3.out ?restc6
  case hyc6 => (intro W hSw; go_simp; try with_reducible rfl)
  try simp only [List.getElem_toArray, List.getElem_cons_zero, List.getElem_cons_succ, Act.put, List.setIfInBounds_toArray, List.set_cons_zero, List.set_cons_succ]
  refine anyT_done (by kernel_rfl) ?_
  -- none>
  clear y0 y1 y2 y3
  go_wp2_with fail
  go_returns
  exact ⟨_, rfl, msgs_nil _ _, y, H.out.fresh F3.out, LTurn.fresh F3.out⟩
set_option maxRecDepth 100000 in
set_option maxHeartbeats 8000000 in
theorem lgive_put (c : LC) (y : PV) (p : LPs) (x : Ev) (M : List OMsg) (er : Int) (P' : LPs) (w : World) (h : SLP w c y p) (hl : p.l.length ≤ 100000) (hm : p.m.length ≤ 100000) (hf : ¬ x.a < p.freed) (hc : ¬ (cnt p.l x : Int) - (cnt p.m x : Int) ≤ 0) (hr : 0 ≤ x.a ∧ x.a ≤ 1073741824)
    (hb : ∀ W y', SLP W c y' (putLp p x true) → y'.g = y.g → Calls Tryz.prog 44 #[.pointer (some ⟨y.g, 0, none⟩), .int .i64 x.a] W (StepP c y' M er P' W)) :
    Calls Tryz.prog 42 #[.pointer (some ⟨y.g, 0, none⟩), x.val] w (StepP c y M er P' w) := by
  have c0 := fun i => (h.blk.cell i).trans (lcells_at c y p i)
  have l0 := h.blk.lt
  have HN : Hid (∀ i, foot y.gq y.v1 y.v2 i → i < w.heap.size) := Lib.hid (h.sq.lt)
  have HH : Hid (∀ W, Fresh w W → Calls Tryz.prog 85 #[.pointer (some ⟨y.gq, 0, none⟩), x.val] W fun e w' => e = .returned (.int .i64 ((cnt p.l x : Int) - (cnt p.m x : Int))) ∧ Fresh W w') := Lib.hid fun W f => has_any y.gq y.v1 y.v2 p.l p.m x W (h.sq.fresh f) hl hm
  have HP : Hid (∀ W, Fresh w W → Calls Tryz.prog 68 #[.pointer (some ⟨y.gq, 0, none⟩), x.msg true] W fun e w' => e = .returned (.tuple #[.bool (putMet p.l p.m x true), .int .i64 0]) ∧ ∃ v1' v2', SLP w' c { y with v1 := v1', v2 := v2' } (putLp p x true) ∧ LTurn W w' y { y with v1 := v1', v2 := v2' } ∧ Keep (foot y.gq y.v1 y.v2) W w') := Lib.hid fun W f => (put_any y.gq y.v1 y.v2 p.l p.m x true W (h.sq.fresh f) hl hm hr).mono fun e w' hh => by
    obtain ⟨h1, v1', v2', h2, h3⟩ := hh
    obtain ⟨a1, a2⟩ := (h.fresh f).turnQ h2 h3
    exact ⟨h1, v1', v2', a1, a2, h3.keep⟩
  obtain ⟨met, hmet⟩ : ∃ met, putMet p.l p.m x true = met := ⟨_, rfl⟩
  obtain ⟨PP, hPP⟩ : ∃ PP, putLp p x true = PP := ⟨_, rfl⟩
  obtain ⟨cn, hcn⟩ : ∃ cn, (cnt p.l x : Int) - (cnt p.m x : Int) = cn := ⟨_, rfl⟩
  have HC : Hid (∀ v1' v2', lcells c { y with v1 := v1', v2 := v2' } PP = lcells c y p) := Lib.hid (by rw [← hPP]; intro _ _; rfl)
  rw [hmet] at HP
  rw [hPP] at HP hb
  rw [hcn] at HH hc
  clear hmet hPP hcn
  have HB := Lib.hid hb
  obtain ⟨a, s, t, n, d, k, x⟩ := x
  unfold Ev.msg at HP
  unfold Ev.val at HH ⊢
  simp only at hf HP HH HB ⊢
  have t2 : decide (a < p.freed) = false := decide_eq_false hf
  have t3 : decide (cn ≤ 0) = false := decide_eq_false hc
  have HBA : Hid (LB (w.alloc (.cells #[.int .i64 a, .int .i64 s, .int .i64 t, .int .i64 n, .int .i64 d, .int .i64 k, .int .i64 x] 41)) y.g (lcells c y p) w.heap.size 41 #[.int .i64 a, .int .i64 s, .int .i64 t, .int .i64 n, .int .i64 d, .int .i64 k, .int .i64 x]) := Lib.hid ⟨h.blk.alloc _, Blk.new w _ _⟩
  clear h hf hb hr hc
  go_enter Tryz.func42, Tryz.ntmps42
  go_wp2_with fail
  go_quiet (fail)
  rename Nat => n11
  go_wp2_with fail
  have y0 := fun (W' : World) (h : LB W' y.g (lcells c y p) w.heap.size 41 #[.int .i64 a, .int .i64 s, .int .i64 t, .int .i64 n, .int .i64 d, .int .i64 k, .int .i64 x]) (i : Nat) => (h.l.cell i).trans (lcells_at c y p i)
  have y1 := fun (W' : World) (h : LB W' y.g (lcells c y p) w.heap.size 41 #[.int .i64 a, .int .i64 s, .int .i64 t, .int .i64 n, .int .i64 d, .int .i64 k, .int .i64 x]) => h.l.lt
  have y2 := fun (W' : World) (h : LB W' y.g (lcells c y p) w.heap.size 41 #[.int .i64 a, .int .i64 s, .int .i64 t, .int .i64 n, .int .i64 d, .int .i64 k, .int .i64 x]) (i : Nat) => h.x.cell i
  have y3 := fun (W' : World) (h : LB W' y.g (lcells c y p) w.heap.size 41 #[.int .i64 a, .int .i64 s, .int .i64 t, .int .i64 n, .int .i64 d, .int .i64 k, .int .i64 x]) => h.x.lt
  clear c0 l0
  obtain ⟨WA, hWA⟩ : ∃ WA, ((w.alloc (.cells #[.int .i64 a, .int .i64 s, .int .i64 t, .int .i64 n, .int .i64 d, .int .i64 k, .int .i64 x] 41)).drewN n11) = WA := ⟨_, rfl⟩
  have HB0 : Hid (LB WA.drew y.g (lcells c y p) w.heap.size 41 #[.int .i64 a, .int .i64 s, .int .i64 t, .int .i64 n, .int .i64 d, .int .i64 k, .int .i64 x]) := Lib.hid (hWA ▸ (HBA.out.drewN n11).drew)
  have FA : Hid (Fresh w WA.drew) := Lib.hid (hWA ▸ (((Keep.refl _ w).alloc _).drewN n11).drew)
  rw [hWA]
  clear hWA
  -- <has
  refine region_T (S := fun W' => LB W' y.g (lcells c y p) w.heap.size 41 #[.int .i64 a, .int .i64 s, .int .i64 t, .int .i64 n, .int .i64 d, .int .i64 k, .int .i64 x]) (T := []) (by kernel_rfl) ?_
  refine anyT_take (i := 0) (oi := _) (v := ?vd0) rfl (by kernel_rfl) (by kernel_rfl) (by kernel_rfl) (by kernel_rfl) (fun _ _ _ h => h) (Or.inl ⟨by rfl, ?hyd0⟩) HB0.out ?restd0
  case hyd0 => (intro W hSw; go_simp; try with_reducible rfl)
  try simp only [List.getElem_toArray, List.getElem_cons_zero, Act.put, List.setIfInBounds_toArray, List.set_cons_zero, List.set_cons_succ]
  refine anyT_take (i := 1) (oi := _) (v := ?vd1) rfl (by kernel_rfl) (by kernel_rfl) (by kernel_rfl) (by kernel_rfl) (fun _ _ _ h => h) (Or.inl ⟨by rfl, ?hyd1⟩) HB0.out ?restd1
  case hyd1 => (intro W hSw; go_simp; try with_reducible rfl)
  try simp only [List.getElem_toArray, List.getElem_cons_zero, List.getElem_cons_succ, Act.put, List.setIfInBounds_toArray, List.set_cons_zero, List.set_cons_succ]
  refine anyT_take (i := 2) (oi := _) (v := ?vd2) rfl (by kernel_rfl) (by kernel_rfl) (by kernel_rfl) (by kernel_rfl) (fun _ _ _ h => h) (Or.inl ⟨by rfl, ?hyd2⟩) HB0.out ?restd2
  case hyd2 => (intro W hSw; go_simp; try with_reducible rfl)
  try simp only [List.getElem_toArray, List.getElem_cons_zero, List.getElem_cons_succ, Act.put, List.setIfInBounds_toArray, List.set_cons_zero, List.set_cons_succ]
  refine anyT_take (i := 3) (oi := _) (v := ?vd3) rfl (by kernel_rfl) (by kernel_rfl) (by kernel_rfl) (by kernel_rfl) (fun _ _ _ h => h) (Or.inl ⟨by rfl, ?hyd3⟩) HB0.out ?restd3
  case hyd3 => (intro W hSw; go_simp; try with_reducible rfl)
  try simp only [List.getElem_toArray, List.getElem_cons_zero, List.getElem_cons_succ, Act.put, List.setIfInBounds_toArray, List.set_cons_zero, List.set_cons_succ]
  refine anyT_take (i := 4) (oi := _) (v := ?vd4) rfl (by kernel_rfl) (by kernel_rfl) (by kernel_rfl) (by kernel_rfl) (fun _ _ _ h => h) (Or.inl ⟨by rfl, ?hyd4⟩) HB0.out ?restd4
  case hyd4 => (intro W hSw; go_simp; try with_reducible rfl)
  try simp only [List.getElem_toArray, List.getElem_cons_zero, List.getElem_cons_succ, Act.put, List.setIfInBounds_toArray, List.set_cons_zero, List.set_cons_succ]
  refine anyT_one' (i := 5) (by kernel_rfl) rfl (by rfl) (fun KQ hK => ?_)
  go_simp
  go_at_call 85
  (with_reducible refine (HH.out _ FA.out).mono ?_)
  rintro e w3 ⟨rfl, f3⟩
  have HB3 := Lib.hid (HB0.out.fresh f3)
  have F3 : Hid (Fresh w w3) := Lib.hid (FA.out.step f3 (fun _ _ h => h))
  clear f3
  refine hK.out _ _ HB3.out ?_
  clear hK KQ
  try simp only [List.getElem_toArray, List.getElem_cons_zero, List.getElem_cons_succ, Act.put, List.setIfInBounds_toArray, List.set_cons_zero, List.set_cons_succ]
  refine anyT_take (i := 6) (oi := _) (v := ?vd6) rfl (by kernel_rfl) (by kernel_rfl) (by kernel_rfl) (by kernel_rfl) (fun _ _ _ h => h) (Or.inl ⟨by rfl, ?hyd6⟩) HB3.out ?restd6
  case hyd6 => (intro W hSw; go_simp; try with_reducible rfl)
  try simp only [List.getElem_toArray, List.getElem_cons_zero, List.getElem_cons_succ, Act.put, List.setIfInBounds_toArray, List.set_cons_zero, List.set_cons_succ]
  refine anyT_done (by kernel_rfl) ?_
  -- has>
  go_wp2_with fail
  have HB4 := Lib.hid (HB3.out.drew)
  have F4 : Hid (Fresh w w3.drew) := Lib.hid (F3.out.drew)
  -- <put
  refine region_T (S := fun W' => LB W' y.g (lcells c y p) w.heap.size 41 #[.int .i64 a, .int .i64 s, .int .i64 t, .int .i64 n, .int .i64 d, .int .i64 k, .int .i64 x]) (T := []) (by kernel_rfl) ?_
  refine anyT_take (i := 0) (oi := _) (v := ?ve0) rfl (by kernel_rfl) (by kernel_rfl) (by kernel_rfl) (by kernel_rfl) (fun _ _ _ h => h) (Or.inl ⟨by rfl, ?hye0⟩) HB4.out ?reste0
  case hye0 => (intro W hSw; go_simp; try with_reducible rfl)
  try simp only [List.getElem_toArray, List.getElem_cons_zero, Act.put, List.setIfInBounds_toArray, List.set_cons_zero, List.set_cons_succ]
  refine anyT_take (i := 1) (oi := _) (v := ?ve1) rfl (by kernel_rfl) (by kernel_rfl) (by kernel_rfl) (by kernel_rfl) (fun _ _ _ h => h) (Or.inl ⟨by rfl, ?hye1⟩) HB4.out ?reste1
  case hye1 => (intro W hSw; go_simp; try with_reducible rfl)
  try simp only [List.getElem_toArray, List.getElem_cons_zero, List.getElem_cons_succ, Act.put, List.setIfInBounds_toArray, List.set_cons_zero, List.set_cons_succ]
  refine anyT_take (i := 2) (oi := _) (v := ?ve2) rfl (by kernel_rfl) (by kernel_rfl) (by kernel_rfl) (by kernel_rfl) (fun _ _ _ h => h) (Or.inl ⟨by rfl, ?hye2⟩) HB4.out ?reste2
  case hye2 => (intro W hSw; go_simp; try with_reducible rfl)
  try simp only [List.getElem_toArray, List.getElem_cons_zero, List.getElem_cons_succ, Act.put, List.setIfInBounds_toArray, List.set_cons_zero, List.set_cons_succ]
  refine anyT_take (i := 3) (oi := _) (v := ?ve3) rfl (by kernel_rfl) (by kernel_rfl) (by kernel_rfl) (by kernel_rfl) (fun _ _ _ h => h) (Or.inl ⟨by rfl, ?hye3⟩) HB4.out ?reste3
  case hye3 => (intro W hSw; go_simp; try with_reducible rfl)
  try simp only [List.getElem_toArray, List.getElem_cons_zero, List.getElem_cons_succ, Act.put, List.setIfInBounds_toArray, List.set_cons_zero, List.set_cons_succ]
  refine anyT_take (i := 4) (oi := _) (v := ?ve4) rfl (by kernel_rfl) (by kernel_rfl) (by kernel_rfl) (by kernel_rfl) (fun _ _ _ h => h) (Or.inl ⟨by rfl, ?hye4⟩) HB4.out ?reste4
  case hye4 => (intro W hSw; go_simp; try with_reducible rfl)
  try simp only [List.getElem_toArray, List.getElem_cons_zero, List.getElem_cons_succ, Act.put, List.setIfInBounds_toArray, List.set_cons_zero, List.set_cons_succ]
  refine anyT_take (i := 5) (oi := _) (v := ?ve5) rfl (by kernel_rfl) (by kernel_rfl) (by kernel_rfl) (by kernel_rfl) (fun _ _ _ h => h) (Or.inl ⟨by rfl, ?hye5⟩) HB4.out ?reste5
  case hye5 => (intro W hSw; go_simp; try with_reducible rfl)
  try simp only [List.getElem_toArray, List.getElem_cons_zero, List.getElem_cons_succ, Act.put, List.setIfInBounds_toArray, List.set_cons_zero, List.set_cons_succ]
  refine anyT_one' (i := 6) (by kernel_rfl) rfl (by rfl) (fun KQ hK => ?_)
  go_simp
  go_at_call 68
  (with_reducible refine (HP.out _ F4.out).mono ?_)
  rintro e w5 ⟨rfl, v1', v2', s5, t5, k5⟩
  have HB5 : Hid (LB w5 y.g (lcells c y p) w.heap.size 41 #[.int .i64 a, .int .i64 s, .int .i64 t, .int .i64 n, .int .i64 d, .int .i64 k, .int .i64 x]) := Lib.hid ⟨HC.out v1' v2' ▸ s5.blk, HB4.out.x.keep k5 (fun e => by have := HN.out _ e; omega)⟩
  have S5 := Lib.hid s5
  have T5 : Hid (LTurn w w5 y { y with v1 := v1', v2 := v2' }) := Lib.hid ((LTurn.fresh (y := y) F4.out).two t5)
  have F5 : Hid (w.heap.size ≤ w5.heap.size) := Lib.hid T5.out.keep.size
  clear s5 t5 k5
  refine hK.out _ _ HB5.out ?_
  clear hK KQ
  try simp only [List.getElem_toArray, List.getElem_cons_zero, List.getElem_cons_succ, Act.put, List.setIfInBounds_toArray, List.set_cons_zero, List.set_cons_succ]
  refine anyT_take (i := 7) (oi := _) (v := ?ve7) rfl (by kernel_rfl) (by kernel_rfl) (by kernel_rfl) (by kernel_rfl) (fun _ _ _ h => h) (Or.inl ⟨by rfl, ?hye7⟩) HB5.out ?reste7
  case hye7 => (intro W hSw; go_simp; try with_reducible rfl)
  try simp only [List.getElem_toArray, List.getElem_cons_zero, List.getElem_cons_succ, Act.put, List.setIfInBounds_toArray, List.set_cons_zero, List.set_cons_succ]
  refine anyT_take (i := 8) (oi := _) (v := ?ve8) rfl (by kernel_rfl) (by kernel_rfl) (by kernel_rfl) (by kernel_rfl) (fun _ _ _ h => h) (Or.inl ⟨by rfl, ?hye8⟩) HB5.out ?reste8
  case hye8 => (intro W hSw; go_simp; try with_reducible rfl)
  try simp only [List.getElem_toArray, List.getElem_cons_zero, List.getElem_cons_succ, Act.put, List.setIfInBounds_toArray, List.set_cons_zero, List.set_cons_succ]
  refine anyT_take (i := 9) (oi := _) (v := ?ve9) rfl (by kernel_rfl) (by kernel_rfl) (by kernel_rfl) (by kernel_rfl) (fun _ _ _ h => h) (Or.inl ⟨by rfl, ?hye9⟩) HB5.out ?reste9
  case hye9 => (intro W hSw; go_simp; try with_reducible rfl)
  try simp only [List.getElem_toArray, List.getElem_cons_zero, List.getElem_cons_succ, Act.put, List.setIfInBounds_toArray, List.set_cons_zero, List.set_cons_succ]
  refine anyT_take (i := 10) (oi := _) (v := ?ve10) rfl (by kernel_rfl) (by kernel_rfl) (by kernel_rfl) (by kernel_rfl) (fun _ _ _ h => h) (Or.inl ⟨by rfl, ?hye10⟩) HB5.out ?reste10
  case hye10 => (intro W hSw; go_simp; try with_reducible rfl)
  try simp only [List.getElem_toArray, List.getElem_cons_zero, List.getElem_cons_succ, Act.put, List.setIfInBounds_toArray, List.set_cons_zero, List.set_cons_succ]
  refine anyT_take (i := 11) (oi := _) (v := ?ve11) rfl (by kernel_rfl) (by kernel_rfl) (by kernel_rfl) (by kernel_rfl) (fun _ _ _ h => h) (Or.inl ⟨by rfl, ?hye11⟩) HB5.out ?reste11
  case hye11 => (intro W hSw; go_simp; try with_reducible rfl)
  try simp only [List.getElem_toArray, List.getElem_cons_zero, List.getElem_cons_succ, Act.put, List.setIfInBounds_toArray, List.set_cons_zero, List.set_cons_succ]
  refine anyT_done (by kernel_rfl) ?_
  -- put>
  clear y0 y1 y2 y3
  have c3 := fun i => (HB5.out.l.cell i).trans (lcells_at c y p i)
  have l3 := HB5.out.l.lt
  have d3 := HB5.out.x.cell
  have m3 := HB5.out.x.lt
  have HG : Hid (∀ W, Fresh w5 W → Calls Tryz.prog 44 #[.pointer (some ⟨y.g, 0, none⟩), .int .i64 a] W (StepP c { y with v1 := v1', v2 := v2' } M er P' W)) := Lib.hid fun W f => HB.out W _ (S5.out.fresh f) rfl
  clear HB
  go_wp2_with (go_at_call 44; (with_reducible refine (HG.out _ (Keep.refl _ _)).mono ?_); rintro e w6 ⟨va, rfl, ⟨o6, n6⟩, y6, s6, t6⟩)
  go_returns
  refine ⟨va, rfl, ⟨o6, fun k hk => Nat.le_trans F5.out (n6 k hk)⟩, y6, s6, T5.out.two t6⟩
end Go.Proofs.YthbcdkeammhakaaGreat

/-
  lp.LP: Return, Settle.
-/
namespace Go.Proofs.YthbcdkeammhakaaGreat
open Go.RowKit
attribute [local go_sem ↓] Go.wp_at_zero Go.wp_at_succ
set_option maxRecDepth 100000 in
set_option maxHeartbeats 4000000 in
theorem lret_id (c : LC) (y : PV) (p : LPs) (x : Ev) (w : World) (h : SLP w c y p) (hd : x.s ≠ c.id) : Calls Tryz.prog 32 #[.pointer (some ⟨y.g, 0, none⟩), x.val] w (StepP c y [] 1 p w) := by
  have c0 := fun i => (h.blk.cell i).trans (lcells_at c y p i)
  have l0 := h.blk.lt
  have H := Lib.hid h
  obtain ⟨a, s, t, n, d, k, x⟩ := x
  unfold Ev.val
  simp only at hd ⊢
  have t1 : (s != c.id) = true := by simpa using hd
  clear h hd
  go_enter Tryz.func32, Tryz.ntmps32
  go_wp2_with fail
  go_quiet (fail)
  go_wp2
  go_returns
  exact ⟨_, rfl, msgs_nil _ _, y, H.out.fresh (by (repeat (first | (with_reducible exact Keep.refl _ _) | (with_reducible assumption) | (with_reducible refine Keep.drew ?_) | (with_reducible refine Keep.drewN ?_ _) | (with_reducible refine Keep.alloc ?_ _) | (with_reducible refine Keep.setCell ?_ ?_ _) | (with_reducible refine fun _ => rfl)))), LTurn.fresh (by (repeat (first | (with_reducible exact Keep.refl _ _) | (with_reducible assumption) | (with_reducible refine Keep.drew ?_) | (with_reducible refine Keep.drewN ?_ _) | (with_reducible refine Keep.alloc ?_ _) | (with_reducible refine Keep.setCell ?_ ?_ _) | (with_reducible refine fun _ => rfl))))⟩
set_option maxRecDepth 100000 in
set_option maxHeartbeats 4000000 in
theorem lret_time (c : LC) (y : PV) (p : LPs) (x : Ev) (w : World) (h : SLP w c y p) (hd : x.s = c.id) (hf : x.t < p.freed) : Calls Tryz.prog 32 #[.pointer (some ⟨y.g, 0, none⟩), x.val] w (StepP c y [] 18 p w) := by
  have c0 := fun i => (h.blk.cell i).trans (lcells_at c y p i)
  have l0 := h.blk.lt
  have H := Lib.hid h
  obtain ⟨a, s, t, n, d, k, x⟩ := x
  unfold Ev.val
  simp only at hd hf ⊢
  have t1 : (s != c.id) = false := by simpa using hd
  have t2 : decide (t < p.freed) = true := decide_eq_true hf
  clear h hd hf
  go_enter Tryz.func32, Tryz.ntmps32
  go_wp2_with fail
  go_quiet (fail)
  go_wp2_with fail
  go_quiet (fail)
  go_wp2
  go_returns
  exact ⟨_, rfl, msgs_nil _ _, y, H.out.fresh (by (repeat (first | (with_reducible exact Keep.refl _ _) | (with_reducible assumption) | (with_reducible refine Keep.drew ?_) | (with_reducible refine Keep.drewN ?_ _) | (with_reducible refine Keep.alloc ?_ _) | (with_reducible refine Keep.setCell ?_ ?_ _) | (with_reducible refine fun _ => rfl)))), LTurn.fresh (by (repeat (first | (with_reducible exact Keep.refl _ _) | (with_reducible assumption) | (with_reducible refine Keep.drew ?_) | (with_reducible refine Keep.drewN ?_ _) | (with_reducible refine Keep.alloc ?_ _) | (with_reducible refine Keep.setCell ?_ ?_ _) | (with_reducible refine fun _ => rfl))))⟩
set_option maxRecDepth 100000 in
set_option maxHeartbeats 8000000 in
theorem lret_no (c : LC) (y : PV) (p : LPs) (x : Ev) (w : World) (h : SLP w c y p) (hq : p.q.length ≤ 100000) (hd : x.s = c.id) (hf : ¬ x.t < p.freed) (hh : rhas p.q x = false) : Calls Tryz.prog 32 #[.pointer (some ⟨y.g, 0, none⟩), x.val] w (StepP c y [(x, false)] 0 p w) := by
  have c0 := fun i => (h.blk.cell i).trans (lcells_at c y p i)
  have l0 := h.blk.lt
  have HN : Hid (∀ i, ofoot y.go y.v3 i → i < w.heap.size) := Lib.hid (h.oq.lt)
  have HR : Hid (∀ W, Fresh w W → Calls Tryz.prog 57 #[.pointer (some ⟨y.go, 0, none⟩), x.val] W fun e w' => e = .returned (.bool false) ∧ ∃ v3', SLP w' c { y with v3 := v3' } { p with q := p.q } ∧ LTurn W w' y { y with v3 := v3' } ∧ Keep (ofoot y.go y.v3) W w') := Lib.hid fun W f => (return_any y.go y.v3 p.q x W (h.fresh f).oq hq).mono fun e w' hr => by
    obtain ⟨h1, v3', h2, h3⟩ := hr
    rw [hh] at h1 h2
    simp only [Bool.false_eq_true, if_false] at h2
    obtain ⟨a1, a2⟩ := (h.fresh f).turnO h2 h3
    exact ⟨h1, v3', a1, a2, h3.keep⟩
  have HC : Hid (∀ v3', lcells c { y with v3 := v3' } p = lcells c y p) := Lib.hid (by intro _; rfl)
  obtain ⟨a, s, t, n, d, k, x⟩ := x
  unfold Ev.val at HR ⊢
  simp only at hd hf HR ⊢
  have t1 : (s != c.id) = false := by simpa using hd
  have t2 : decide (t < p.freed) = false := decide_eq_false hf
  have HBA : Hid (LB (w.alloc (.cells #[.int .i64 a, .int .i64 s, .int .i64 t, .int .i64 n, .int .i64 d, .int .i64 k, .int .i64 x] 41)) y.g (lcells c y p) w.heap.size 41 #[.int .i64 a, .int .i64 s, .int .i64 t, .int .i64 n, .int .i64 d, .int .i64 k, .int .i64 x]) := Lib.hid ⟨h.blk.alloc _, Blk.new w _ _⟩
  clear h hd hf hh
  go_enter Tryz.func32, Tryz.ntmps32
  go_wp2_with fail
  go_quiet (fail)
  rename Nat => n11
  go_wp2_with fail
  go_quiet (fail)
  rename Nat => n12
  go_wp2_with fail
  have y0 := fun (W' : World) (h : LB W' y.g (lcells c y p) w.heap.size 41 #[.int .i64 a, .int .i64 s, .int .i64 t, .int .i64 n, .int .i64 d, .int .i64 k, .int .i64 x]) (i : Nat) => (h.l.cell i).trans (lcells_at c y p i)
  have y1 := fun (W' : World) (h : LB W' y.g (lcells c y p) w.heap.size 41 #[.int .i64 a, .int .i64 s, .int .i64 t, .int .i64 n, .int .i64 d, .int .i64 k, .int .i64 x]) => h.l.lt
  have y2 := fun (W' : World) (h : LB W' y.g (lcells c y p) w.heap.size 41 #[.int .i64 a, .int .i64 s, .int .i64 t, .int .i64 n, .int .i64 d, .int .i64 k, .int .i64 x]) (i : Nat) => h.x.cell i
  have y3 := fun (W' : World) (h : LB W' y.g (lcells c y p) w.heap.size 41 #[.int .i64 a, .int .i64 s, .int .i64 t, .int .i64 n, .int .i64 d, .int .i64 k, .int .i64 x]) => h.x.lt
  clear c0 l0
  obtain ⟨WA, hWA⟩ : ∃ WA, ((w.alloc (.cells #[.int .i64 a, .int .i64 s, .int .i64 t, .int .i64 n, .int .i64 d, .int .i64 k, .int .i64 x] 41)).drewN n11).drewN n12 = WA := ⟨_, rfl⟩
  have HB0 : Hid (LB WA.drew y.g (lcells c y p) w.heap.size 41 #[.int .i64 a, .int .i64 s, .int .i64 t, .int .i64 n, .int .i64 d, .int .i64 k, .int .i64 x]) := Lib.hid (hWA ▸ ((HBA.out.drewN n11).drewN n12).drew)
  have FA : Hid (Fresh w WA.drew) := Lib.hid (hWA ▸ ((((Keep.refl _ w).alloc _).drewN n11).drewN n12).drew)
  rw [hWA]
  clear hWA
  -- <reta
  refine region_T (S := fun W' => LB W' y.g (lcells c y p) w.heap.size 41 #[.int .i64 a, .int .i64 s, .int .i64 t, .int .i64 n, .int .i64 d, .int .i64 k, .int .i64 x]) (T := []) (by kernel_rfl) ?_
  refine anyT_take (i := 0) (oi := _) (v := ?vg0) rfl (by kernel_rfl) (by kernel_rfl) (by kernel_rfl) (by kernel_rfl) (fun _ _ _ h => h) (Or.inl ⟨by rfl, ?hyg0⟩) HB0.out ?restg0
  case hyg0 => (intro W hSw; go_simp; try with_reducible rfl)
  try simp only [List.getElem_toArray, List.getElem_cons_zero, Act.put, List.setIfInBounds_toArray, List.set_cons_zero, List.set_cons_succ]
  refine anyT_take (i := 1) (oi := _) (v := ?vg1) rfl (by kernel_rfl) (by kernel_rfl) (by kernel_rfl) (by kernel_rfl) (fun _ _ _ h => h) (Or.inl ⟨by rfl, ?hyg1⟩) HB0.out ?restg1
  case hyg1 => (intro W hSw; go_simp; try with_reducible rfl)
  try simp only [List.getElem_toArray, List.getElem_cons_zero, List.getElem_cons_succ, Act.put, List.setIfInBounds_toArray, List.set_cons_zero, List.set_cons_succ]
  refine anyT_take (i := 2) (oi := _) (v := ?vg2) rfl (by kernel_rfl) (by kernel_rfl) (by kernel_rfl) (by kernel_rfl) (fun _ _ _ h => h) (Or.inl ⟨by rfl, ?hyg2⟩) HB0.out ?restg2
  case hyg2 => (intro W hSw; go_simp; try with_reducible rfl)
  try simp only [List.getElem_toArray, List.getElem_cons_zero, List.getElem_cons_succ, Act.put, List.setIfInBounds_toArray, List.set_cons_zero, List.set_cons_succ]
  refine anyT_take (i := 3) (oi := _) (v := ?vg3) rfl (by kernel_rfl) (by kernel_rfl) (by kernel_rfl) (by kernel_rfl) (fun _ _ _ h => h) (Or.inl ⟨by rfl, ?hyg3⟩) HB0.out ?restg3
  case hyg3 => (intro W hSw; go_simp; try with_reducible rfl)
  try simp only [List.getElem_toArray, List.getElem_cons_zero, List.getElem_cons_succ, Act.put, List.setIfInBounds_toArray, List.set_cons_zero, List.set_cons_succ]
  refine anyT_take (i := 4) (oi := _) (v := ?vg4) rfl (by kernel_rfl) (by kernel_rfl) (by kernel_rfl) (by kernel_rfl) (fun _ _ _ h => h) (Or.inl ⟨by rfl, ?hyg4⟩) HB0.out ?restg4
  case hyg4 => (intro W hSw; go_simp; try with_reducible rfl)
  try simp only [List.getElem_toArray, List.getElem_cons_zero, List.getElem_cons_succ, Act.put, List.setIfInBounds_toArray, List.set_cons_zero, List.set_cons_succ]
  refine anyT_one' (i := 5) (by kernel_rfl) rfl (by rfl) (fun KQ hK => ?_)
  go_simp
  go_at_call 57
  (with_reducible refine (HR.out _ FA.out).mono ?_)
  rintro e w3 ⟨rfl, v3', s3, t3, k3⟩
  have HB3 : Hid (LB w3 y.g (lcells c y p) w.heap.size 41 #[.int .i64 a, .int .i64 s, .int .i64 t, .int .i64 n, .int .i64 d, .int .i64 k, .int .i64 x]) := Lib.hid ⟨HC.out v3' ▸ s3.blk, HB0.out.x.keep k3 (fun e => by have := HN.out _ e; omega)⟩
  have S3 := Lib.hid s3
  have T3 : Hid (LTurn w w3 y { y with v3 := v3' }) := Lib.hid ((LTurn.fresh (y := y) FA.out).two t3)
  have F3 : Hid (w.heap.size ≤ w3.heap.size) := Lib.hid T3.out.keep.size
  clear s3 t3 k3
  refine hK.out _ _ HB3.out ?_
  clear hK KQ
  try simp only [List.getElem_toArray, List.getElem_cons_zero, List.getElem_cons_succ, Act.put, List.setIfInBounds_toArray, List.set_cons_zero, List.set_cons_succ]
  refine anyT_take (i := 6) (oi := _) (v := ?vg6) rfl (by kernel_rfl) (by kernel_rfl) (by kernel_rfl) (by kernel_rfl) (fun _ _ _ h => h) (Or.inl ⟨by rfl, ?hyg6⟩) HB3.out ?restg6
  case hyg6 => (intro W hSw; go_simp; try with_reducible rfl)
  try simp only [List.getElem_toArray, List.getElem_cons_zero, List.getElem_cons_succ, Act.put, List.setIfInBounds_toArray, List.set_cons_zero, List.set_cons_succ]
  refine anyT_done (by kernel_rfl) ?_
  -- reta>
  clear y0 y1 y2 y3
  have d3 := HB3.out.x.cell
  have m3 := HB3.out.x.lt
  go_wp2_with fail
  go_returns
  refine ⟨_, rfl, ⟨OwnS.new_ (Blk.new w3 _ _) rfl (by unfold maxLen; omega), fun k hk => ?_⟩, _, S3.out.fresh (by (repeat (first | (with_reducible exact Keep.refl _ _) | (with_reducible assumption) | (with_reducible refine Keep.drew ?_) | (with_reducible refine Keep.drewN ?_ _) | (with_reducible refine Keep.alloc ?_ _) | (with_reducible refine Keep.setCell ?_ ?_ _) | (with_reducible refine fun _ => rfl)))), T3.out.two (LTurn.fresh (by (repeat (first | (with_reducible exact Keep.refl _ _) | (with_reducible assumption) | (with_reducible refine Keep.drew ?_) | (with_reducible refine Keep.drewN ?_ _) | (with_reducible refine Keep.alloc ?_ _) | (with_reducible refine Keep.setCell ?_ ?_ _) | (with_reducible refine fun _ => rfl)))))⟩
  have := F3.out
  simp [Value.ownBlock] at hk
  omega
set_option maxRecDepth 100000 in
set_option maxHeartbeats 8000000 in
theorem lret_yes (c : LC) (y : PV) (p : LPs) (x : Ev) (M : List OMsg) (er : Int) (P' : LPs) (w : World) (h : SLP w c y p) (hq : p.q.length ≤ 100000) (hd : x.s = c.id) (hf : ¬ x.t < p.freed) (hh : rhas p.q x = true)
    (hb : ∀ W y', SLP W c y' { p with q := rrem p.q x } → y'.g = y.g → Calls Tryz.prog 44 #[.pointer (some ⟨y.g, 0, none⟩), .int .i64 x.t] W (StepP c y' M er P' W)) :
    Calls Tryz.prog 32 #[.pointer (some ⟨y.g, 0, none⟩), x.val] w (StepP c y M er P' w) := by
  have c0 := fun i => (h.blk.cell i).trans (lcells_at c y p i)
  have l0 := h.blk.lt
  have HN : Hid (∀ i, ofoot y.go y.v3 i → i < w.heap.size) := Lib.hid (h.oq.lt)
  obtain ⟨PP, hPP⟩ : ∃ PP, { p with q := rrem p.q x } = PP := ⟨_, rfl⟩
  have HR : Hid (∀ W, Fresh w W → Calls Tryz.prog 57 #[.pointer (some ⟨y.go, 0, none⟩), x.val] W fun e w' => e = .returned (.bool true) ∧ ∃ v3', SLP w' c { y with v3 := v3' } PP ∧ LTurn W w' y { y with v3 := v3' } ∧ Keep (ofoot y.go y.v3) W w') := Lib.hid fun W f => (return_any y.go y.v3 p.q x W (h.fresh f).oq hq).mono fun e w' hr => by
    obtain ⟨h1, v3', h2, h3⟩ := hr
    rw [hh] at h1 h2
    simp only [if_true] at h2
    obtain ⟨a1, a2⟩ := (h.fresh f).turnO h2 h3
    exact ⟨h1, v3', hPP ▸ a1, a2, h3.keep⟩
  have HC : Hid (∀ v3', lcells c { y with v3 := v3' } PP = lcells c y p) := Lib.hid (by rw [← hPP]; intro _; rfl)
  rw [hPP] at hb
  clear hPP
  have HB := Lib.hid hb
  obtain ⟨a, s, t, n, d, k, x⟩ := x
  unfold Ev.val at HR ⊢
  simp only at hd hf HR HB ⊢
  have t1 : (s != c.id) = false := by simpa using hd
  have t2 : decide (t < p.freed) = false := decide_eq_false hf
  have HBA : Hid (LB (w.alloc (.cells #[.int .i64 a, .int .i64 s, .int .i64 t, .int .i64 n, .int .i64 d, .int .i64 k, .int .i64 x] 41)) y.g (lcells c y p) w.heap.size 41 #[.int .i64 a, .int .i64 s, .int .i64 t, .int .i64 n, .int .i64 d, .int .i64 k, .int .i64 x]) := Lib.hid ⟨h.blk.alloc _, Blk.new w _ _⟩
  clear h hd hf hh hb
  go_enter Tryz.func32, Tryz.ntmps32
  go_wp2_with fail
  go_quiet (fail)
  rename Nat => n11
  go_wp2_with fail
  go_quiet (fail)
  rename Nat => n12
  go_wp2_with fail
  have y0 := fun (W' : World) (h : LB W' y.g (lcells c y p) w.heap.size 41 #[.int .i64 a, .int .i64 s, .int .i64 t, .int .i64 n, .int .i64 d, .int .i64 k, .int .i64 x]) (i : Nat) => (h.l.cell i).trans (lcells_at c y p i)
  have y1 := fun (W' : World) (h : LB W' y.g (lcells c y p) w.heap.size 41 #[.int .i64 a, .int .i64 s, .int .i64 t, .int .i64 n, .int .i64 d, .int .i64 k, .int .i64 x]) => h.l.lt
  have y2 := fun (W' : World) (h : LB W' y.g (lcells c y p) w.heap.size 41 #[.int .i64 a, .int .i64 s, .int .i64 t, .int .i64 n, .int .i64 d, .int .i64 k, .int .i64 x]) (i : Nat) => h.x.cell i
  have y3 := fun (W' : World) (h : LB W' y.g (lcells c y p) w.heap.size 41 #[.int .i64 a, .int .i64 s, .int .i64 t, .int .i64 n, .int .i64 d, .int .i64 k, .int .i64 x]) => h.x.lt
  clear c0 l0
  obtain ⟨WA, hWA⟩ : ∃ WA, ((w.alloc (.cells #[.int .i64 a, .int .i64 s, .int .i64 t, .int .i64 n, .int .i64 d, .int .i64 k, .int .i64 x] 41)).drewN n11).drewN n12 = WA := ⟨_, rfl⟩
  have HB0 : Hid (LB WA.drew y.g (lcells c y p) w.heap.size 41 #[.int .i64 a, .int .i64 s, .int .i64 t, .int .i64 n, .int .i64 d, .int .i64 k, .int .i64 x]) := Lib.hid (hWA ▸ ((HBA.out.drewN n11).drewN n12).drew)
  have FA : Hid (Fresh w WA.drew) := Lib.hid (hWA ▸ ((((Keep.refl _ w).alloc _).drewN n11).drewN n12).drew)
  rw [hWA]
  clear hWA
  -- <retb
  refine region_T (S := fun W' => LB W' y.g (lcells c y p) w.heap.size 41 #[.int .i64 a, .int .i64 s, .int .i64 t, .int .i64 n, .int .i64 d, .int .i64 k, .int .i64 x]) (T := []) (by kernel_rfl) ?_
  refine anyT_take (i := 0) (oi := _) (v := ?vh0) rfl (by kernel_rfl) (by kernel_rfl) (by kernel_rfl) (by kernel_rfl) (fun _ _ _ h => h) (Or.inl ⟨by rfl, ?hyh0⟩) HB0.out ?resth0
  case hyh0 => (intro W hSw; go_simp; try with_reducible rfl)
  try simp only [List.getElem_toArray, List.getElem_cons_zero, Act.put, List.setIfInBounds_toArray, List.set_cons_zero, List.set_cons_succ]
  refine anyT_take (i := 1) (oi := _) (v := ?vh1) rfl (by kernel_rfl) (by kernel_rfl) (by kernel_rfl) (by kernel_rfl) (fun _ _ _ h => h) (Or.inl ⟨by rfl, ?hyh1⟩) HB0.out ?resth1
  case hyh1 => (intro W hSw; go_simp; try with_reducible rfl)
  try simp only [List.getElem_toArray, List.getElem_cons_zero, List.getElem_cons_succ, Act.put, List.setIfInBounds_toArray, List.set_cons_zero, List.set_cons_succ]
  refine anyT_take (i := 2) (oi := _) (v := ?vh2) rfl (by kernel_rfl) (by kernel_rfl) (by kernel_rfl) (by kernel_rfl) (fun _ _ _ h => h) (Or.inl ⟨by rfl, ?hyh2⟩) HB0.out ?resth2
  case hyh2 => (intro W hSw; go_simp; try with_reducible rfl)
  try simp only [List.getElem_toArray, List.getElem_cons_zero, List.getElem_cons_succ, Act.put, List.setIfInBounds_toArray, List.set_cons_zero, List.set_cons_succ]
  refine anyT_take (i := 3) (oi := _) (v := ?vh3) rfl (by kernel_rfl) (by kernel_rfl) (by kernel_rfl) (by kernel_rfl) (fun _ _ _ h => h) (Or.inl ⟨by rfl, ?hyh3⟩) HB0.out ?resth3
  case hyh3 => (intro W hSw; go_simp; try with_reducible rfl)
  try simp only [List.getElem_toArray, List.getElem_cons_zero, List.getElem_cons_succ, Act.put, List.setIfInBounds_toArray, List.set_cons_zero, List.set_cons_succ]
  refine anyT_take (i := 4) (oi := _) (v := ?vh4) rfl (by kernel_rfl) (by kernel_rfl) (by kernel_rfl) (by kernel_rfl) (fun _ _ _ h => h) (Or.inl ⟨by rfl, ?hyh4⟩) HB0.out ?resth4
  case hyh4 => (intro W hSw; go_simp; try with_reducible rfl)
  try simp only [List.getElem_toArray, List.getElem_cons_zero, List.getElem_cons_succ, Act.put, List.setIfInBounds_toArray, List.set_cons_zero, List.set_cons_succ]
  refine anyT_one' (i := 5) (by kernel_rfl) rfl (by rfl) (fun KQ hK => ?_)
  go_simp
  go_at_call 57
  (with_reducible refine (HR.out _ FA.out).mono ?_)
  rintro e w3 ⟨rfl, v3', s3, t3, k3⟩
  have HB3 : Hid (LB w3 y.g (lcells c y p) w.heap.size 41 #[.int .i64 a, .int .i64 s, .int .i64 t, .int .i64 n, .int .i64 d, .int .i64 k, .int .i64 x]) := Lib.hid ⟨HC.out v3' ▸ s3.blk, HB0.out.x.keep k3 (fun e => by have := HN.out _ e; omega)⟩
  have S3 := Lib.hid s3
  have T3 : Hid (LTurn w w3 y { y with v3 := v3' }) := Lib.hid ((LTurn.fresh (y := y) FA.out).two t3)
  have F3 : Hid (w.heap.size ≤ w3.heap.size) := Lib.hid T3.out.keep.size
  clear s3 t3 k3
  refine hK.out _ _ HB3.out ?_
  clear hK KQ
  try simp only [List.getElem_toArray, List.getElem_cons_zero, List.getElem_cons_succ, Act.put, List.setIfInBounds_toArray, List.set_cons_zero, List.set_cons_succ]
  refine anyT_take (i := 6) (oi := _) (v := ?vh6) rfl (by kernel_rfl) (by kernel_rfl) (by kernel_rfl) (by kernel_rfl) (fun _ _ _ h => h) (Or.inl ⟨by rfl, ?hyh6⟩) HB3.out ?resth6
  case hyh6 => (intro W hSw; go_simp; try with_reducible rfl)
  try simp only [List.getElem_toArray, List.getElem_cons_zero, List.getElem_cons_succ, Act.put, List.setIfInBounds_toArray, List.set_cons_zero, List.set_cons_succ]
  refine anyT_done (by kernel_rfl) ?_
  -- retb>
  clear y0 y1 y2 y3
  have d3 := HB3.out.x.cell
  have m3 := HB3.out.x.lt
  have HG : Hid (∀ W, Fresh w3 W → Calls Tryz.prog 44 #[.pointer (some ⟨y.g, 0, none⟩), .int .i64 t] W (StepP c { y with v3 := v3' } M er P' W)) := Lib.hid fun W f => HB.out W _ (S3.out.fresh f) rfl
  clear HB
  go_wp2_with (go_at_call 44; (with_reducible refine (HG.out _ (Keep.refl _ _)).mono ?_); rintro e w6 ⟨va, rfl, ⟨o6, n6⟩, y6, s6, t6⟩)
  go_returns
  exact ⟨va, rfl, ⟨o6, fun k hk => Nat.le_trans F3.out (n6 k hk)⟩, y6, s6, T3.out.two t6⟩
def nextL (p : LPs) : Int := match nextE p.l p.now with | some x => x.a | none => 1073741825
def SetP (c : LC) (y : PV) (M : List OMsg) (p' : LPs) (w : World) (e : Ending) (w' : World) : Prop := ∃ va, e = .returned va ∧ MsgsP M w w' va ∧ ∃ y', SLP w' c y' p' ∧ LTurn w w' y y'
set_option maxRecDepth 100000 in
set_option maxHeartbeats 8000000 in
theorem lsettle_any (c : LC) (y : PV) (p : LPs) (w : World) (h : SLP w c y p) (hl : p.l.length ≤ 100000) (hq : p.q.length ≤ 100000) : Calls Tryz.prog 29 #[.pointer (some ⟨y.g, 0, none⟩)] w (SetP c y (antis (flushP (nextL p)) p.q) { p with q := stay (flushP (nextL p)) p.q } w) := by
  have HN := Lib.hid (lnext_any c y p w h hl)
  have HF : Hid (∀ W, Fresh w W → Calls Tryz.prog 56 #[.pointer (some ⟨y.go, 0, none⟩), .int .i64 (nextL p)] W (SetP c y (antis (flushP (nextL p)) p.q) { p with q := stay (flushP (nextL p)) p.q } w)) := Lib.hid fun W f => (flush_any y.go y.v3 p.q (nextL p) W (h.fresh f).oq hq).mono fun e w' hh => by
    obtain ⟨va, v3', h1, h2, h3, h4, h5⟩ := hh
    obtain ⟨a1, a2⟩ := (h.fresh f).turnO h3 h4
    exact ⟨va, h1, ⟨h2, fun k hk => Nat.le_trans f.size (h5 k hk)⟩, _, a1, (LTurn.fresh f).two a2⟩
  have HB0 := Lib.hid h.blk
  obtain ⟨NL, hNL⟩ : ∃ NL, nextL p = NL := ⟨_, rfl⟩
  have HL : Hid (NL = match nextE p.l p.now with | some x => x.a | none => 1073741825) := Lib.hid hNL.symm
  rw [hNL] at HF ⊢
  clear hNL h
  obtain ⟨N, hN⟩ : ∃ N, nextE p.l p.now = N := ⟨_, rfl⟩
  rw [hN] at HN HL
  clear hN
  unfold NextP at HN
  cases N with
  | none =>
    have hL : NL = 1073741825 := HL.out
    subst hL
    go_enter Tryz.func29, Tryz.ntmps29
    go_wp2_with (first
      | (go_at_call 40; (with_reducible refine HN.out.mono ?_); rintro e w1 ⟨rfl, f1⟩; have F1 := Lib.hid f1; have b1 := f1.blk_ HB0.out; have c1 := fun i => (b1.cell i).trans (lcells_at c y p i); have l1 := b1.lt; clear f1 b1)
      | (go_at_call 56; (with_reducible refine (HF.out _ F1.out).mono ?_); rintro e w2 ⟨va, rfl, m2, y2, s2, t2⟩))
    go_returns
    exact ⟨va, rfl, m2, y2, s2, t2⟩
  | some x =>
    have hL : NL = x.a := HL.out
    subst hL
    go_enter Tryz.func29, Tryz.ntmps29
    go_wp2_with (first
      | (go_at_call 40; (with_reducible refine HN.out.mono ?_); rintro e w1 ⟨rfl, f1⟩; have F1 := Lib.hid f1; have b1 := f1.blk_ HB0.out; have c1 := fun i => (b1.cell i).trans (lcells_at c y p i); have l1 := b1.lt; clear f1 b1)
      | (go_at_call 56; (with_reducible refine (HF.out _ F1.out).mono ?_); rintro e w2 ⟨va, rfl, m2, y2, s2, t2⟩))
    go_returns
    exact ⟨va, rfl, m2, y2, s2, t2⟩
end Go.Proofs.YthbcdkeammhakaaGreat

/-
  saves.Row[api.State].All: what it hands back, and how its rounds go.
-/
namespace Go.Proofs.YthbcdkeammhakaaGreat
open Go.RowKit Go.Shelf
namespace RS
theorem all_any (g : Nat) (v : Value) (l : List (Int × St)) (w : World) (h : SRow w g v l) (h1 : 0 < l.length) (hl : l.length ≤ 100000) :
    Calls Tryz.prog 62 #[.pointer (some ⟨g, 0, none⟩)] w fun e w' => ∃ v', e = .returned (.func (.func 108) #[] #[.pointer (some ⟨w.heap.size, 0, none⟩)]) ∧ Blk w' w.heap.size 160 #[v'] ∧ OwnS w' 163 5 v' l.length (scells l) ∧ Fresh w w' ∧ (∀ k, v'.ownBlock = some k → w.heap.size ≤ k) := by
  have hb := h.blk.cell_ 0 rfl
  have hg := h.blk.lt
  obtain ⟨g', off, cap, hv, hlt, hn, hm, _⟩ := h.own.form h1
  subst hv
  have HO := Lib.hid h.own
  clear h
  have hmf : ∀ (fn : Fn) (first cap : Array Value) (w : World), (Instr.makeFunc fn first cap).run Tryz.prog w = .ok (.func fn first cap) w := fun _ _ _ _ => rfl
  go_enter Tryz.func62, Tryz.ntmps62
  go_wp2_with fail
  refine (clone_any g' off l.length cap (scells l) _ (HO.out.alloc _) (scells_one l) (by omega)).mono ?_
  rintro e w1 ⟨v1, rfl, ho1, hk1, hn1⟩
  obtain ⟨A', cap', rfl, _, _⟩ := ho1.shape
  have hb1 := hk1.blk_ (Blk.new w 160 #[.slice none 0 0])
  have hne := ho1.ne_blk hb1 (by decide)
  have hc1 := hb1.cell
  have hf1 := hb1.frozen
  have hg1 := hb1.lt
  have P1 := Lib.hid ho1
  have P2 := Lib.hid hk1
  have P3 := Lib.hid hn1
  have P4 := Lib.hid hb1
  have P5 := Lib.hid hne
  clear ho1 hk1 hn1 hb1 hne
  go_wp2
  go_ret
  refine ⟨.slice A' l.length cap', rfl, P4.out.set_ 0 _, P1.out.far P5.out (p := ⟨w.heap.size, 0, none⟩) _, (((Keep.refl _ w).alloc _).step P2.out (fun _ _ h => h)).setCell (fun h => by simp at h) _, fun k hk => ?_⟩
  have := P3.out k hk
  simp at this
  omega
attribute [local go_sem] Oper.semAt_some
set_option maxRecDepth 100000 in
set_option maxHeartbeats 2000000 in
theorem all1_in (F : Fence) (n : Nat) (hF : F.fn 108) (hro : F.round = none) (hn : 1 ≤ n) (lp bx g' off cap : Nat) (l : List (Int × St)) (hlen : l.length ≤ 100000) (J Jx : List (Int × St) → World → Prop)
    (hJ : ∀ pre W (o : Obj), J pre W → J pre (W.alloc o))
    (hY : ∀ pre (x : Int × St) W, J pre W → pre.length < l.length → YieldAt F (n - 1) Tryz.prog lp #[.int .i64 x.1, x.2.val] W fun e W' =>
      (e = .returned (.bool true) ∧ J (pre ++ [x]) W' ∧ KeepsB g' 163 W W') ∨ (e = .returned (.bool false) ∧ Jx (pre ++ [x]) W'))
    (W : World) (hb : W.cell? ⟨bx, 0, none⟩ = some (.slice (some ⟨g', off, none⟩) l.length cap)) (ho : OwnS W 163 5 (.slice (some ⟨g', off, none⟩) l.length cap) l.length (scells l)) (h0 : J [] W) :
    CallsIn F n Tryz.prog 108 #[.func (.yield lp) #[] #[], .pointer (some ⟨bx, 0, none⟩)] W fun e W' => (∃ v, e = .returned v) ∧
      ((∃ ys, ys = l ∧ J ys W') ∨ (∃ pre, pre <+: l ∧ Jx pre W')) := by
  refine callsIn_of_wp Tryz.func108 rfl hF ?_ hro
  simp only [Tryz.ntmps108, List.size_toArray, List.length_cons, List.length_nil, Nat.reduceAdd, Nat.reduceSub, Array.replicate_succ, Array.replicate_zero, List.push_toArray, List.append_toArray, List.nil_append, List.cons_append]
  have HC := Lib.hid ho
  clear ho
  gi_wp2
  gi_loopw [7] (fun i wr => ∃ k : Nat, k ≤ l.length ∧ i = .int .i64 k ∧ J (l.take k) wr ∧ KeepsB g' 163 W wr)
    (fun i _ => l.length - (intOf i).toNat)
  case atStart => exact ⟨0, Nat.zero_le _, rfl, by simpa using h0, KeepsB.refl _ _ _⟩
  case round =>
    obtain ⟨k, hk, rfl, hJs, hnx⟩ := hrel
    by_cases hlt : k < l.length
    · obtain ⟨s, hs⟩ : ∃ s, l[k]? = some s := ⟨_, List.getElem?_eq_getElem hlt⟩
      have htake : l.take k ++ [s] = l.take (k + 1) := by rw [List.take_add_one, hs]; rfl
      obtain ⟨_, _, _, hv, hgl, _, _, hc⟩ := (HC.out.keepsB hnx).form (by omega)
      injection hv with hv1 hv2 hv3
      injection hv1 with hv1
      injection hv1 with e1 e2 _
      subst e1 e2 hv3
      obtain ⟨c1, c2, c3, c4, c5⟩ := scells_at l k s hs
      have c1 := hc _ _ c1
      have c2 := hc _ _ c2
      have c3 := hc _ _ c3
      have c4 := hc _ _ c4
      have c5 := hc _ _ c5
      rw [← Nat.add_assoc] at c2 c3 c4 c5
      obtain ⟨fn, tmps, assign, body, hy, hR⟩ := hY _ s _ (hJ _ _ (.cells #[.int .i64 s.1, .int .i64 s.2.s0, .int .i64 s.2.s1, .int .i64 s.2.s2, .int .i64 s.2.s3] 163) hJs) (by rw [List.length_take]; omega)
      have hnx2 : KeepsB g' 163 W (wr.alloc (.cells #[.int .i64 s.1, .int .i64 s.2.s0, .int .i64 s.2.s1, .int .i64 s.2.s2, .int .i64 s.2.s3] 163)) := hnx.alloc _
      simp only [St.val] at hy
      have HX := Lib.hid hnx2
      have HT := Lib.hid htake
      clear hnx hnx2 htake hs hJs hc
      gi_wp2
      refine hR.mono ?_
      rintro e W3 (⟨rfl, hJ3, hk3⟩ | ⟨rfl, hJx3⟩)
      · have HJ := Lib.hid hJ3
        have HK := Lib.hid hk3
        clear hJ3 hk3
        gi_wp2
        go_roundw
        case rel => exact ⟨k + 1, by omega, by simp, by rw [← HT.out]; exact HJ.out, HX.out.trans HK.out⟩
        case measure => simp [intOf]; omega
      · have HJ := Lib.hid hJx3
        clear hJx3
        gi_wp2
        refine bodyPost_ret (results_none rfl _ _ _) rfl ?_
        exact ⟨⟨_, rfl⟩, .inr ⟨_, by rw [HT.out]; exact List.take_prefix _ _, HJ.out⟩⟩
    · obtain rfl : k = l.length := by omega
      have HJ := Lib.hid hJs
      clear hJs
      gi_wp2
      go_end0
      exact ⟨⟨_, rfl⟩, .inl ⟨_, List.take_length, HJ.out⟩⟩
/-- the value that All hands back, as a loop takes it -/
theorem all_stops (F : Fence) (n : Nat) (hF : F.fn 108) (hro : F.round = none) (hn : 1 ≤ n) (bx g' off cap : Nat) (l : List (Int × St)) (hlen : l.length ≤ 100000) (w : World)
    (hb : Blk w bx 160 #[.slice (some ⟨g', off, none⟩) l.length cap]) (ho : OwnS w 163 5 (.slice (some ⟨g', off, none⟩) l.length cap) l.length (scells l)) :
    SeqStopsK F n Tryz.prog 108 #[.pointer (some ⟨bx, 0, none⟩)] (fun x : Int × St => #[Value.int .i64 x.1, x.2.val]) (KeepsB g' 163) (fun ys => ys = l) (fun pre => pre <+: l) l.length w := fun lp J Jx W hW hJ hJx hY h0 => by
  have hbW := hb.below hW hb.lt
  have hoW : OwnS W 163 5 (.slice (some ⟨g', off, none⟩) l.length cap) l.length (scells l) := ho.kept (Keep.of_below (S := fun _ => False) hW (fun k h1 h2 => by omega)) (fun _ _ h => h)
  exact all1_in F n hF hro hn lp bx g' off cap l hlen J Jx (fun pre X o hs => hJ pre X _ none hs (World.grownBy_alloc X o none) (fun r e => by cases e)) hY W (hbW.cell_ 0 rfl) hoW h0
end RS
end Go.Proofs.YthbcdkeammhakaaGreat

/-
  lp.LP: Free.
-/
namespace Go.Proofs.YthbcdkeammhakaaGreat
open Go.RowKit Go.Shelf
attribute [local go_sem ↓] Go.wp_at_zero Go.wp_at_succ
/-- what Free answers -/
def FreeP (c : LC) (y : PV) (E : List Ev) (er : Int) (p' : LPs) (w : World) (e : Ending) (w' : World) : Prop := ∃ va, e = .returned (.tuple #[va, .int .i64 er]) ∧ (OwnS w' 41 7 va E.length (cells E) ∧ ∀ k, va.ownBlock = some k → w.heap.size ≤ k) ∧ ∃ y', SLP w' c y' p' ∧ LTurn w w' y y' ∧ ∀ k, va.ownBlock = some k → ¬ lfoot y' k
set_option maxRecDepth 100000 in
set_option maxHeartbeats 4000000 in
theorem lfree_late (c : LC) (y : PV) (p : LPs) (below : Int) (w : World) (h : SLP w c y p) (hl : p.l.length ≤ 100000) (hq : p.q.length ≤ 100000) (hb : leastP p < below) : Calls Tryz.prog 34 #[.pointer (some ⟨y.g, 0, none⟩), .int .i64 below] w (FreeP c y [] 18 p w) := by
  have HLE : Hid (∀ W, Fresh w W → Calls Tryz.prog 20 #[.pointer (some ⟨y.g, 0, none⟩)] W fun e w' => e = .returned (.int .i64 (leastP p)) ∧ Fresh W w') := Lib.hid fun W f => lleast_any c y p W (h.fresh f) hl hq
  have H := Lib.hid h
  have HB := Lib.hid h.blk
  obtain ⟨L, hL⟩ : ∃ L, leastP p = L := ⟨_, rfl⟩
  rw [hL] at HLE hb
  have t1 : decide (L < below) = true := decide_eq_true hb
  clear hL h
  go_enter Tryz.func34, Tryz.ntmps34
  go_wp2_with fail
  obtain ⟨WA, hWA⟩ : ∃ WA, ((w.alloc (.cells #[.pointer (some ⟨y.g, 0, none⟩)] 31)).alloc (.cells #[.int .i64 below] 3)) = WA := ⟨_, rfl⟩
  have HB0 : Hid (Blk WA.drew w.heap.size 31 #[.pointer (some ⟨y.g, 0, none⟩)] ∧ Blk WA.drew (w.heap.size + 1) 3 #[.int .i64 below]) := Lib.hid (hWA ▸ ⟨((Blk.new w _ _).alloc _).drew, (Blk.at_new (by simp) _ _).drew⟩)
  have FA : Hid (Fresh w WA.drew) := Lib.hid (hWA ▸ (((Keep.refl _ w).alloc _).alloc _).drew)
  rw [hWA]
  clear hWA
  have y0 := fun (W' : World) (h : Blk W' w.heap.size 31 #[.pointer (some ⟨y.g, 0, none⟩)] ∧ Blk W' (w.heap.size + 1) 3 #[.int .i64 below]) (i : Nat) => h.1.cell i
  have y1 := fun (W' : World) (h : Blk W' w.heap.size 31 #[.pointer (some ⟨y.g, 0, none⟩)] ∧ Blk W' (w.heap.size + 1) 3 #[.int .i64 below]) (i : Nat) => h.2.cell i
  have y2 := fun (W' : World) (h : Blk W' w.heap.size 31 #[.pointer (some ⟨y.g, 0, none⟩)] ∧ Blk W' (w.heap.size + 1) 3 #[.int .i64 below]) => h.1.lt
  have y3 := fun (W' : World) (h : Blk W' w.heap.size 31 #[.pointer (some ⟨y.g, 0, none⟩)] ∧ Blk W' (w.heap.size + 1) 3 #[.int .i64 below]) => h.2.lt
  -- <late
  refine region_T (S := fun W' => Blk W' w.heap.size 31 #[.pointer (some ⟨y.g, 0, none⟩)] ∧ Blk W' (w.heap.size + 1) 3 #[.int .i64 below]) (T := []) (by kernel_rfl) ?_
  refine anyT_take (i := 0) (oi := _) (v := ?va0) rfl (by kernel_rfl) (by kernel_rfl) (by kernel_rfl) (by kernel_rfl) (fun _ _ _ h => h) (Or.inl ⟨by rfl, ?hya0⟩) HB0.out ?resta0
  case hya0 => (intro W hSw; go_simp; try with_reducible rfl)
  try simp only [List.getElem_toArray, List.getElem_cons_zero, Act.put, List.setIfInBounds_toArray, List.set_cons_zero, List.set_cons_succ]
  refine anyT_take (i := 1) (oi := _) (v := ?va1) rfl (by kernel_rfl) (by kernel_rfl) (by kernel_rfl) (by kernel_rfl) (fun _ _ _ h => h) (Or.inl ⟨by rfl, ?hya1⟩) HB0.out ?resta1
  case hya1 => (intro W hSw; go_simp; try with_reducible rfl)
  try simp only [List.getElem_toArray, List.getElem_cons_zero, List.getElem_cons_succ, Act.put, List.setIfInBounds_toArray, List.set_cons_zero, List.set_cons_succ]
  refine anyT_one' (i := 2) (by kernel_rfl) rfl (by rfl) (fun KQ hK => ?_)
  go_simp
  go_at_call 20
  (with_reducible refine (HLE.out _ FA.out).mono ?_)
  rintro e w3 ⟨rfl, f3⟩
  have HB3 : Hid (Blk w3 w.heap.size 31 #[.pointer (some ⟨y.g, 0, none⟩)] ∧ Blk w3 (w.heap.size + 1) 3 #[.int .i64 below]) := Lib.hid ⟨f3.blk_ HB0.out.1, f3.blk_ HB0.out.2⟩
  have F3 : Hid (Fresh w w3) := Lib.hid (FA.out.step f3 (fun _ _ h => h))
  clear f3
  refine hK.out _ _ HB3.out ?_
  clear hK KQ
  try simp only [List.getElem_toArray, List.getElem_cons_zero, List.getElem_cons_succ, Act.put, List.setIfInBounds_toArray, List.set_cons_zero, List.set_cons_succ]
  refine anyT_take (i := 3) (oi := _) (v := ?va3) rfl (by kernel_rfl) (by kernel_rfl) (by kernel_rfl) (by kernel_rfl) (fun _ _ _ h => h) (Or.inl ⟨by rfl, ?hya3⟩) HB3.out ?resta3
  case hya3 => (intro W hSw; go_simp; try with_reducible rfl)
  try simp only [List.getElem_toArray, List.getElem_cons_zero, List.getElem_cons_succ, Act.put, List.setIfInBounds_toArray, List.set_cons_zero, List.set_cons_succ]
  refine anyT_done (by kernel_rfl) ?_
  -- late>
  clear y0 y1 y2 y3
  go_wp2_with fail
  go_returns
  exact ⟨_, rfl, ⟨OwnS.nil _ _ _, fun k hk => by simp [Value.ownBlock] at hk⟩, y, H.out.fresh F3.out, LTurn.fresh F3.out, fun k hk => by simp [Value.ownBlock] at hk⟩
set_option maxRecDepth 100000 in
set_option maxHeartbeats 4000000 in
theorem lfree_none (c : LC) (y : PV) (p : LPs) (below : Int) (w : World) (h : SLP w c y p) (hl : p.l.length ≤ 100000) (hq : p.q.length ≤ 100000) (hb : ¬ leastP p < below) (hf : below ≤ p.freed) : Calls Tryz.prog 34 #[.pointer (some ⟨y.g, 0, none⟩), .int .i64 below] w (FreeP c y [] 0 p w) := by
  have HLE : Hid (∀ W, Fresh w W → Calls Tryz.prog 20 #[.pointer (some ⟨y.g, 0, none⟩)] W fun e w' => e = .returned (.int .i64 (leastP p)) ∧ Fresh W w') := Lib.hid fun W f => lleast_any c y p W (h.fresh f) hl hq
  have H := Lib.hid h
  have HB := Lib.hid h.blk
  obtain ⟨L, hL⟩ : ∃ L, leastP p = L := ⟨_, rfl⟩
  rw [hL] at HLE hb
  have t1 : decide (L < below) = false := decide_eq_false hb
  have t2 : decide (below ≤ p.freed) = true := decide_eq_true hf
  clear hL h
  go_enter Tryz.func34, Tryz.ntmps34
  go_wp2_with fail
  obtain ⟨WA, hWA⟩ : ∃ WA, ((w.alloc (.cells #[.pointer (some ⟨y.g, 0, none⟩)] 31)).alloc (.cells #[.int .i64 below] 3)) = WA := ⟨_, rfl⟩
  have HB0 : Hid (Blk WA.drew w.heap.size 31 #[.pointer (some ⟨y.g, 0, none⟩)] ∧ Blk WA.drew (w.heap.size + 1) 3 #[.int .i64 below]) := Lib.hid (hWA ▸ ⟨((Blk.new w _ _).alloc _).drew, (Blk.at_new (by simp) _ _).drew⟩)
  have FA : Hid (Fresh w WA.drew) := Lib.hid (hWA ▸ (((Keep.refl _ w).alloc _).alloc _).drew)
  rw [hWA]
  clear hWA
  have y0 := fun (W' : World) (h : Blk W' w.heap.size 31 #[.pointer (some ⟨y.g, 0, none⟩)] ∧ Blk W' (w.heap.size + 1) 3 #[.int .i64 below]) (i : Nat) => h.1.cell i
  have y1 := fun (W' : World) (h : Blk W' w.heap.size 31 #[.pointer (some ⟨y.g, 0, none⟩)] ∧ Blk W' (w.heap.size + 1) 3 #[.int .i64 below]) (i : Nat) => h.2.cell i
  have y2 := fun (W' : World) (h : Blk W' w.heap.size 31 #[.pointer (some ⟨y.g, 0, none⟩)] ∧ Blk W' (w.heap.size + 1) 3 #[.int .i64 below]) => h.1.lt
  have y3 := fun (W' : World) (h : Blk W' w.heap.size 31 #[.pointer (some ⟨y.g, 0, none⟩)] ∧ Blk W' (w.heap.size + 1) 3 #[.int .i64 below]) => h.2.lt
  -- <none
  refine region_T (S := fun W' => Blk W' w.heap.size 31 #[.pointer (some ⟨y.g, 0, none⟩)] ∧ Blk W' (w.heap.size + 1) 3 #[.int .i64 below]) (T := []) (by kernel_rfl) ?_
  refine anyT_take (i := 0) (oi := _) (v := ?vb0) rfl (by kernel_rfl) (by kernel_rfl) (by kernel_rfl) (by kernel_rfl) (fun _ _ _ h => h) (Or.inl ⟨by rfl, ?hyb0⟩) HB0.out ?restb0
  case hyb0 => (intro W hSw; go_simp; try with_reducible rfl)
  try simp only [List.getElem_toArray, List.getElem_cons_zero, Act.put, List.setIfInBounds_toArray, List.set_cons_zero, List.set_cons_succ]
  refine anyT_take (i := 1) (oi := _) (v := ?vb1) rfl (by kernel_rfl) (by kernel_rfl) (by kernel_rfl) (by kernel_rfl) (fun _ _ _ h => h) (Or.inl ⟨by rfl, ?hyb1⟩) HB0.out ?restb1
  case hyb1 => (intro W hSw; go_simp; try with_reducible rfl)
  try simp only [List.getElem_toArray, List.getElem_cons_zero, List.getElem_cons_succ, Act.put, List.setIfInBounds_toArray, List.set_cons_zero, List.set_cons_succ]
  refine anyT_one' (i := 2) (by kernel_rfl) rfl (by rfl) (fun KQ hK => ?_)
  go_simp
  go_at_call 20
  (with_reducible refine (HLE.out _ FA.out).mono ?_)
  rintro e w3 ⟨rfl, f3⟩
  have HB3 : Hid (Blk w3 w.heap.size 31 #[.pointer (some ⟨y.g, 0, none⟩)] ∧ Blk w3 (w.heap.size + 1) 3 #[.int .i64 below]) := Lib.hid ⟨f3.blk_ HB0.out.1, f3.blk_ HB0.out.2⟩
  have F3 : Hid (Fresh w w3) := Lib.hid (FA.out.step f3 (fun _ _ h => h))
  clear f3
  refine hK.out _ _ HB3.out ?_
  clear hK KQ
  try simp only [List.getElem_toArray, List.getElem_cons_zero, List.getElem_cons_succ, Act.put, List.setIfInBounds_toArray, List.set_cons_zero, List.set_cons_succ]
  refine anyT_take (i := 3) (oi := _) (v := ?vb3) rfl (by kernel_rfl) (by kernel_rfl) (by kernel_rfl) (by kernel_rfl) (fun _ _ _ h => h) (Or.inl ⟨by rfl, ?hyb3⟩) HB3.out ?restb3
  case hyb3 => (intro W hSw; go_simp; try with_reducible rfl)
  try simp only [List.getElem_toArray, List.getElem_cons_zero, List.getElem_cons_succ, Act.put, List.setIfInBounds_toArray, List.set_cons_zero, List.set_cons_succ]
  refine anyT_done (by kernel_rfl) ?_
  -- none>
  clear y0 y1 y2 y3
  have c3 := HB3.out.1.cell
  have d3 := HB3.out.2.cell
  have l3 := HB3.out.1.lt
  have m3 := HB3.out.2.lt
  have bl3 := F3.out.blk_ HB.out
  have e3 := fun i => (bl3.cell i).trans (lcells_at c y p i)
  have g3 := bl3.lt
  clear bl3
  go_wp2_with fail
  go_quiet (fail)
  go_wp2
  go_returns
  exact ⟨_, rfl, ⟨OwnS.nil _ _ _, fun k hk => by simp [Value.ownBlock] at hk⟩, y, H.out.fresh (F3.out.drewN _), LTurn.fresh (F3.out.drewN _), fun k hk => by simp [Value.ownBlock] at hk⟩
end Go.Proofs.YthbcdkeammhakaaGreat
