/- Chapter 13: LpU, LpW, LpV, LpX, LpY. -/
import Derived.Test.YthbcdkeammhakaaGreatP29
import Derived.Test.YthbcdkeammhakaaGreatP28
set_option maxRecDepth 100000
set_option maxHeartbeats 16000000
namespace Go.Proofs.YthbcdkeammhakaaGreat
open Go.RowKit
attribute [local go_sem ↓] Go.wp_at_zero Go.wp_at_succ
theorem msgs_nil (w w' : World) : MsgsP [] w w' (.slice none 0 0) := ⟨OwnS.nil _ _ _, fun k hk => by simp [Value.ownBlock] at hk⟩
theorem MsgsP.after {M : List OMsg} {w W w' : World} {va : Value} (f : Fresh w W) (h : MsgsP M W w' va) : MsgsP M w w' va := ⟨h.1, fun k hk => Nat.le_trans f.size (h.2 k hk)⟩
structure SvAt (p : LPs) (b0 : Int) (pre post : List (Int × St)) (s : Int × St) : Prop where
 sv : p.sv = pre ++ s :: post
 lo : ∀ z ∈ pre ++ [s], z.1 < b0
 hi : ∀ z, post.head? = some z → ¬ z.1 < b0
theorem lback_late (c : LC) (y : PV) (p : LPs) (from_ : Int) (w : World) (h : SLP w c y p) (hf : from_ < p.freed) : Calls Tryz.prog 44 #[.pointer (some ⟨y.g, 0, none⟩), .int .i64 from_] w (StepP c y [] 18 p w) := by
 have c0 := fun i => (h.blk.cell i).trans (lcells_at c y p i)
 have l0 := h.blk.lt
 have H := Lib.hid h
 have t1 : decide (from_ < p.freed) = true := decide_eq_true hf
 clear h
 go_enter Tryz.func44, Tryz.ntmps44
 go_wp2_with fail
 go_returns
 exact ⟨_, rfl, msgs_nil _ _, y, H.out, LTurn.fresh (Keep.refl _ _)⟩
theorem lback_none (c : LC) (y : PV) (p : LPs) (from_ : Int) (w : World) (h : SLP w c y p) (hf : ¬ from_ < p.freed) (hn : p.now < from_) : Calls Tryz.prog 44 #[.pointer (some ⟨y.g, 0, none⟩), .int .i64 from_] w (StepP c y [] 0 p w) := by
 have c0 := fun i => (h.blk.cell i).trans (lcells_at c y p i)
 have l0 := h.blk.lt
 have H := Lib.hid h
 have t1 : decide (from_ < p.freed) = false := decide_eq_false hf
 have t2 : decide (p.now < from_) = true := decide_eq_true hn
 clear h
 go_enter Tryz.func44, Tryz.ntmps44
 go_wp2_with fail
 go_returns
 exact ⟨_, rfl, msgs_nil _ _, y, H.out, LTurn.fresh (Keep.refl _ _)⟩
theorem lback_go (c : LC) (y : PV) (p : LPs) (N : Nat) (from_ : Int) (pre post : List (Int × St)) (s : Int × St) (w : World) (h : SLP w c y p) (hg : GoodP c p N) (hN : N ≤ 90000) (hq : p.q.length ≤ 50000) (hs : SvAt p from_ pre post s) (hf : ¬ from_ < p.freed) (hn : ¬ p.now < from_) : Calls Tryz.prog 44 #[.pointer (some ⟨y.g, 0, none⟩), .int .i64 from_] w (StepP c y (backMs c p from_) 0 (backL c p from_ pre s) w) := by
 have c0 := fun i => (h.blk.cell i).trans (lcells_at c y p i)
 have l0 := h.blk.lt
 have HG := Lib.hid (goback_any c y p N from_ pre post s w h hg hN hq hs.sv hs.lo hs.hi)
 have t1 : decide (from_ < p.freed) = false := decide_eq_false hf
 have t2 : decide (p.now < from_) = false := decide_eq_false hn
 clear h hg hs
 go_enter Tryz.func44, Tryz.ntmps44
 go_wp2_with (go_at_call 69; (with_reducible refine HG.out.mono ?_); rintro e w1 ⟨va, y1, rfl, o1, s1, t1, _, n1⟩)
 go_returns
 exact ⟨va, rfl, ⟨o1, n1⟩, y1, s1, t1⟩
structure LB (W : World) (g : Nat) (cs : Array Value) (b : Nat) (t : TypeId) (bs : Array Value) : Prop where
 l : Blk W g 103 cs
 x : Blk W b t bs
theorem LB.fresh {W W' : World} {g : Nat} {cs : Array Value} {b : Nat} {t : TypeId} {bs : Array Value} (h : LB W g cs b t bs) (f : Fresh W W') : LB W' g cs b t bs := ⟨f.blk_ h.l, f.blk_ h.x⟩
theorem LB.drew {W : World} {g : Nat} {cs : Array Value} {b : Nat} {t : TypeId} {bs : Array Value} (h : LB W g cs b t bs) : LB W.drew g cs b t bs := ⟨h.l.drew, h.x.drew⟩
theorem LB.drewN {W : World} {g : Nat} {cs : Array Value} {b : Nat} {t : TypeId} {bs : Array Value} (h : LB W g cs b t bs) (n : Nat) : LB (W.drewN n) g cs b t bs := ⟨h.l.drewN n, h.x.drewN n⟩
theorem ltake_id (c : LC) (y : PV) (p : LPs) (x : Ev) (an : Bool) (w : World) (h : SLP w c y p) (hd : x.d ≠ c.id) : Calls Tryz.prog 36 #[.pointer (some ⟨y.g, 0, none⟩), x.msg an] w (StepP c y [] 1 p w) := by
 have c0 := fun i => (h.blk.cell i).trans (lcells_at c y p i)
 have l0 := h.blk.lt
 have H := Lib.hid h
 obtain ⟨a, s, t, n, d, k, x⟩ := x
 unfold Ev.msg
 simp only at hd ⊢
 have t1 : (d != c.id) = true := by simpa using hd
 clear h hd
 go_enter Tryz.func36, Tryz.ntmps36
 go_wp2_with fail
 go_quiet (fail)
 go_wp2
 go_returns
 exact ⟨_, rfl, msgs_nil _ _, y, H.out.fresh (by (repeat (first | (with_reducible exact Keep.refl _ _) | (with_reducible assumption) | (with_reducible refine Keep.drew ?_) | (with_reducible refine Keep.drewN ?_ _) | (with_reducible refine Keep.alloc ?_ _) | (with_reducible refine Keep.setCell ?_ ?_ _) | (with_reducible refine fun _ => rfl)))), LTurn.fresh (by (repeat (first | (with_reducible exact Keep.refl _ _) | (with_reducible assumption) | (with_reducible refine Keep.drew ?_) | (with_reducible refine Keep.drewN ?_ _) | (with_reducible refine Keep.alloc ?_ _) | (with_reducible refine Keep.setCell ?_ ?_ _) | (with_reducible refine fun _ => rfl))))⟩
theorem ltake_time (c : LC) (y : PV) (p : LPs) (x : Ev) (an : Bool) (w : World) (h : SLP w c y p) (hd : x.d = c.id) (hf : x.a < p.freed) : Calls Tryz.prog 36 #[.pointer (some ⟨y.g, 0, none⟩), x.msg an] w (StepP c y [] 18 p w) := by
 have c0 := fun i => (h.blk.cell i).trans (lcells_at c y p i)
 have l0 := h.blk.lt
 have H := Lib.hid h
 obtain ⟨a, s, t, n, d, k, x⟩ := x
 unfold Ev.msg
 simp only at hd hf ⊢
 have t1 : (d != c.id) = false := by simpa using hd
 have t2 : decide (a < p.freed) = true := decide_eq_true hf
 clear h hd hf
 go_enter Tryz.func36, Tryz.ntmps36
 go_wp2_with fail
 go_quiet (fail)
 go_wp2_with fail
 go_quiet (fail)
 go_wp2
 go_returns
 exact ⟨_, rfl, msgs_nil _ _, y, H.out.fresh (by (repeat (first | (with_reducible exact Keep.refl _ _) | (with_reducible assumption) | (with_reducible refine Keep.drew ?_) | (with_reducible refine Keep.drewN ?_ _) | (with_reducible refine Keep.alloc ?_ _) | (with_reducible refine Keep.setCell ?_ ?_ _) | (with_reducible refine fun _ => rfl)))), LTurn.fresh (by (repeat (first | (with_reducible exact Keep.refl _ _) | (with_reducible assumption) | (with_reducible refine Keep.drew ?_) | (with_reducible refine Keep.drewN ?_ _) | (with_reducible refine Keep.alloc ?_ _) | (with_reducible refine Keep.setCell ?_ ?_ _) | (with_reducible refine fun _ => rfl))))⟩
end Go.Proofs.YthbcdkeammhakaaGreat
namespace Go.Proofs.YthbcdkeammhakaaGreat
open Go.RowKit
attribute [local go_sem ↓] Go.wp_at_zero Go.wp_at_succ
def StaysB (p : LPs) (x : Ev) (an : Bool) : Bool := decide (p.now < x.a) || (putMet p.l p.m x an != an)
theorem ltake_put (c : LC) (y : PV) (p : LPs) (x : Ev) (an : Bool) (M : List OMsg) (P' : LPs) (N' : Nat) (w : World) (h : SLP w c y p) (hl : p.l.length ≤ 100000) (hm : p.m.length ≤ 100000) (hd : x.d = c.id) (hf : ¬ x.a < p.freed) (hr : 0 ≤ x.a ∧ x.a ≤ 1073741824)
  (hs : StaysB p x an = true → M = [] ∧ P' = putLp p x an)
  (hb : StaysB p x an = false → ∀ W y', SLP W c y' (putLp p x an) → y'.g = y.g → Calls Tryz.prog 69 #[.pointer (some ⟨y.g, 0, none⟩), .int .i64 x.a] W (GoBackP c y' N' M P' W)) :
  Calls Tryz.prog 36 #[.pointer (some ⟨y.g, 0, none⟩), x.msg an] w (StepP c y M 0 P' w) := by
 have c0 := fun i => (h.blk.cell i).trans (lcells_at c y p i)
 have l0 := h.blk.lt
 have HN : Hid (∀ i, foot y.gq y.v1 y.v2 i → i < w.heap.size) := Lib.hid (h.sq.lt)
 have HP : Hid (∀ W, Fresh w W → Calls Tryz.prog 68 #[.pointer (some ⟨y.gq, 0, none⟩), x.msg an] W fun e w' => e = .returned (.tuple #[.bool (putMet p.l p.m x an), .int .i64 0]) ∧ ∃ v1' v2', SLP w' c { y with v1 := v1', v2 := v2' } (putLp p x an) ∧ LTurn W w' y { y with v1 := v1', v2 := v2' } ∧ Keep (foot y.gq y.v1 y.v2) W w') := Lib.hid fun W f => (put_any y.gq y.v1 y.v2 p.l p.m x an W (h.sq.fresh f) hl hm hr).mono fun e w' hh => by
  obtain ⟨h1, v1', v2', h2, h3⟩ := hh
  obtain ⟨a1, a2⟩ := (h.fresh f).turnQ h2 h3
  exact ⟨h1, v1', v2', a1, a2, h3.keep⟩
 unfold StaysB at hs hb
 obtain ⟨met, hmet⟩ : ∃ met, putMet p.l p.m x an = met := ⟨_, rfl⟩
 obtain ⟨PP, hPP⟩ : ∃ PP, putLp p x an = PP := ⟨_, rfl⟩
 have HC : Hid (∀ v1' v2', lcells c { y with v1 := v1', v2 := v2' } PP = lcells c y p) := Lib.hid (by rw [← hPP]; intro _ _; rfl)
 rw [hmet] at HP hs hb
 rw [hPP] at HP hs hb
 clear hmet hPP
 have HS := Lib.hid hs
 have HB := Lib.hid hb
 obtain ⟨a, s, t, n, d, k, x⟩ := x
 unfold Ev.msg at HP ⊢
 simp only at hd hf HP HS HB ⊢
 have t1 : (d != c.id) = false := by simpa using hd
 have t2 : decide (a < p.freed) = false := decide_eq_false hf
 have HBA : Hid (LB (w.alloc (.cells #[.int .i64 a, .int .i64 s, .int .i64 t, .int .i64 n, .int .i64 d, .int .i64 k, .int .i64 x, .bool an] 43)) y.g (lcells c y p) w.heap.size 43 #[.int .i64 a, .int .i64 s, .int .i64 t, .int .i64 n, .int .i64 d, .int .i64 k, .int .i64 x, .bool an]) := Lib.hid ⟨h.blk.alloc _, Blk.new w _ _⟩
 clear h hd hf hs hb hr
 go_enter Tryz.func36, Tryz.ntmps36
 go_wp2_with fail
 go_quiet (fail)
 rename Nat => n11
 go_wp2_with fail
 go_quiet (fail)
 rename Nat => n12
 go_wp2_with fail
 have y0 := fun (W' : World) (h : LB W' y.g (lcells c y p) w.heap.size 43 #[.int .i64 a, .int .i64 s, .int .i64 t, .int .i64 n, .int .i64 d, .int .i64 k, .int .i64 x, .bool an]) (i : Nat) => (h.l.cell i).trans (lcells_at c y p i)
 have y1 := fun (W' : World) (h : LB W' y.g (lcells c y p) w.heap.size 43 #[.int .i64 a, .int .i64 s, .int .i64 t, .int .i64 n, .int .i64 d, .int .i64 k, .int .i64 x, .bool an]) => h.l.lt
 have y2 := fun (W' : World) (h : LB W' y.g (lcells c y p) w.heap.size 43 #[.int .i64 a, .int .i64 s, .int .i64 t, .int .i64 n, .int .i64 d, .int .i64 k, .int .i64 x, .bool an]) (i : Nat) => h.x.cell i
 have y3 := fun (W' : World) (h : LB W' y.g (lcells c y p) w.heap.size 43 #[.int .i64 a, .int .i64 s, .int .i64 t, .int .i64 n, .int .i64 d, .int .i64 k, .int .i64 x, .bool an]) => h.x.lt
 clear c0 l0
 obtain ⟨WA, hWA⟩ : ∃ WA, ((w.alloc (.cells #[.int .i64 a, .int .i64 s, .int .i64 t, .int .i64 n, .int .i64 d, .int .i64 k, .int .i64 x, .bool an] 43)).drewN n11).drewN n12 = WA := ⟨_, rfl⟩
 have HB0 : Hid (LB WA.drew y.g (lcells c y p) w.heap.size 43 #[.int .i64 a, .int .i64 s, .int .i64 t, .int .i64 n, .int .i64 d, .int .i64 k, .int .i64 x, .bool an]) := Lib.hid (hWA ▸ ((HBA.out.drewN n11).drewN n12).drew)
 have FA : Hid (Fresh w WA.drew) := Lib.hid (hWA ▸ ((((Keep.refl _ w).alloc _).drewN n11).drewN n12).drew)
 rw [hWA]
 clear hWA
 refine region_T (S := fun W' => LB W' y.g (lcells c y p) w.heap.size 43 #[.int .i64 a, .int .i64 s, .int .i64 t, .int .i64 n, .int .i64 d, .int .i64 k, .int .i64 x, .bool an]) (T := []) (by kernel_rfl) ?_
 refine anyT_take (i := 0) (oi := _) (v := ?vb0) rfl (by kernel_rfl) (by kernel_rfl) (by kernel_rfl) (by kernel_rfl) (fun _ _ _ h => h) (Or.inl ⟨by rfl, ?hyb0⟩) HB0.out ?restb0
 case hyb0 => (intro W hSw; go_simp; try with_reducible rfl)
 try simp only [List.getElem_toArray, List.getElem_cons_zero, Act.put, List.setIfInBounds_toArray, List.set_cons_zero, List.set_cons_succ]
 refine anyT_take (i := 1) (oi := _) (v := ?vb1) rfl (by kernel_rfl) (by kernel_rfl) (by kernel_rfl) (by kernel_rfl) (fun _ _ _ h => h) (Or.inl ⟨by rfl, ?hyb1⟩) HB0.out ?restb1
 case hyb1 => (intro W hSw; go_simp; try with_reducible rfl)
 try simp only [List.getElem_toArray, List.getElem_cons_zero, List.getElem_cons_succ, Act.put, List.setIfInBounds_toArray, List.set_cons_zero, List.set_cons_succ]
 refine anyT_take (i := 2) (oi := _) (v := ?vb2) rfl (by kernel_rfl) (by kernel_rfl) (by kernel_rfl) (by kernel_rfl) (fun _ _ _ h => h) (Or.inl ⟨by rfl, ?hyb2⟩) HB0.out ?restb2
 case hyb2 => (intro W hSw; go_simp; try with_reducible rfl)
 try simp only [List.getElem_toArray, List.getElem_cons_zero, List.getElem_cons_succ, Act.put, List.setIfInBounds_toArray, List.set_cons_zero, List.set_cons_succ]
 refine anyT_take (i := 3) (oi := _) (v := ?vb3) rfl (by kernel_rfl) (by kernel_rfl) (by kernel_rfl) (by kernel_rfl) (fun _ _ _ h => h) (Or.inl ⟨by rfl, ?hyb3⟩) HB0.out ?restb3
 case hyb3 => (intro W hSw; go_simp; try with_reducible rfl)
 try simp only [List.getElem_toArray, List.getElem_cons_zero, List.getElem_cons_succ, Act.put, List.setIfInBounds_toArray, List.set_cons_zero, List.set_cons_succ]
 refine anyT_take (i := 4) (oi := _) (v := ?vb4) rfl (by kernel_rfl) (by kernel_rfl) (by kernel_rfl) (by kernel_rfl) (fun _ _ _ h => h) (Or.inl ⟨by rfl, ?hyb4⟩) HB0.out ?restb4
 case hyb4 => (intro W hSw; go_simp; try with_reducible rfl)
 try simp only [List.getElem_toArray, List.getElem_cons_zero, List.getElem_cons_succ, Act.put, List.setIfInBounds_toArray, List.set_cons_zero, List.set_cons_succ]
 refine anyT_one' (i := 5) (by kernel_rfl) rfl (by rfl) (fun KQ hK => ?_)
 go_simp
 go_at_call 68
 (with_reducible refine (HP.out _ FA.out).mono ?_)
 rintro e w3 ⟨rfl, v1', v2', s3, t3, k3⟩
 have HB3 : Hid (LB w3 y.g (lcells c y p) w.heap.size 43 #[.int .i64 a, .int .i64 s, .int .i64 t, .int .i64 n, .int .i64 d, .int .i64 k, .int .i64 x, .bool an]) := Lib.hid ⟨HC.out v1' v2' ▸ s3.blk, HB0.out.x.keep k3 (fun e => by have := HN.out _ e; omega)⟩
 have S3 := Lib.hid s3
 have T3 : Hid (LTurn w w3 y { y with v1 := v1', v2 := v2' }) := Lib.hid ((LTurn.fresh (y := y) FA.out).two t3)
 have F3 : Hid (w.heap.size ≤ w3.heap.size) := Lib.hid T3.out.keep.size
 clear s3 t3 k3
 refine hK.out _ _ HB3.out ?_
 clear hK KQ
 try simp only [List.getElem_toArray, List.getElem_cons_zero, List.getElem_cons_succ, Act.put, List.setIfInBounds_toArray, List.set_cons_zero, List.set_cons_succ]
 refine anyT_take (i := 6) (oi := _) (v := ?vb6) rfl (by kernel_rfl) (by kernel_rfl) (by kernel_rfl) (by kernel_rfl) (fun _ _ _ h => h) (Or.inl ⟨by rfl, ?hyb6⟩) HB3.out ?restb6
 case hyb6 => (intro W hSw; go_simp; try with_reducible rfl)
 try simp only [List.getElem_toArray, List.getElem_cons_zero, List.getElem_cons_succ, Act.put, List.setIfInBounds_toArray, List.set_cons_zero, List.set_cons_succ]
 refine anyT_take (i := 7) (oi := _) (v := ?vb7) rfl (by kernel_rfl) (by kernel_rfl) (by kernel_rfl) (by kernel_rfl) (fun _ _ _ h => h) (Or.inl ⟨by rfl, ?hyb7⟩) HB3.out ?restb7
 case hyb7 => (intro W hSw; go_simp; try with_reducible rfl)
 try simp only [List.getElem_toArray, List.getElem_cons_zero, List.getElem_cons_succ, Act.put, List.setIfInBounds_toArray, List.set_cons_zero, List.set_cons_succ]
 refine anyT_take (i := 8) (oi := _) (v := ?vb8) rfl (by kernel_rfl) (by kernel_rfl) (by kernel_rfl) (by kernel_rfl) (fun _ _ _ h => h) (Or.inl ⟨by rfl, ?hyb8⟩) HB3.out ?restb8
 case hyb8 => (intro W hSw; go_simp; try with_reducible rfl)
 try simp only [List.getElem_toArray, List.getElem_cons_zero, List.getElem_cons_succ, Act.put, List.setIfInBounds_toArray, List.set_cons_zero, List.set_cons_succ]
 refine anyT_take (i := 9) (oi := _) (v := ?vb9) rfl (by kernel_rfl) (by kernel_rfl) (by kernel_rfl) (by kernel_rfl) (fun _ _ _ h => h) (Or.inl ⟨by rfl, ?hyb9⟩) HB3.out ?restb9
 case hyb9 => (intro W hSw; go_simp; try with_reducible rfl)
 try simp only [List.getElem_toArray, List.getElem_cons_zero, List.getElem_cons_succ, Act.put, List.setIfInBounds_toArray, List.set_cons_zero, List.set_cons_succ]
 refine anyT_take (i := 10) (oi := _) (v := ?vb10) rfl (by kernel_rfl) (by kernel_rfl) (by kernel_rfl) (by kernel_rfl) (fun _ _ _ h => h) (Or.inl ⟨by rfl, ?hyb10⟩) HB3.out ?restb10
 case hyb10 => (intro W hSw; go_simp; try with_reducible rfl)
 try simp only [List.getElem_toArray, List.getElem_cons_zero, List.getElem_cons_succ, Act.put, List.setIfInBounds_toArray, List.set_cons_zero, List.set_cons_succ]
 refine anyT_done (by kernel_rfl) ?_
 clear y0 y1 y2 y3
 have c3 := fun i => (HB3.out.l.cell i).trans (lcells_at c y p i)
 have l3 := HB3.out.l.lt
 have d3 := HB3.out.x.cell
 have m3 := HB3.out.x.lt
 by_cases hnow : p.now < a
 ·have t3 : decide (p.now < a) = true := decide_eq_true hnow
  rw [t3] at HS
  obtain ⟨rfl, rfl⟩ := HS.out rfl
  clear hnow HS HB
  go_wp2_with fail
  go_quiet (fail)
  go_wp2
  go_returns
  exact ⟨_, rfl, msgs_nil _ _, _, S3.out.fresh (by (repeat (first | (with_reducible exact Keep.refl _ _) | (with_reducible assumption) | (with_reducible refine Keep.drew ?_) | (with_reducible refine Keep.drewN ?_ _) | (with_reducible refine Keep.alloc ?_ _) | (with_reducible refine Keep.setCell ?_ ?_ _) | (with_reducible refine fun _ => rfl)))), T3.out.two (LTurn.fresh (by (repeat (first | (with_reducible exact Keep.refl _ _) | (with_reducible assumption) | (with_reducible refine Keep.drew ?_) | (with_reducible refine Keep.drewN ?_ _) | (with_reducible refine Keep.alloc ?_ _) | (with_reducible refine Keep.setCell ?_ ?_ _) | (with_reducible refine fun _ => rfl)))))⟩
 ·have t3 : decide (p.now < a) = false := decide_eq_false hnow
  rw [t3] at HS HB
  cases met <;> cases an
  case false.true | true.false =>
   obtain ⟨rfl, rfl⟩ := HS.out rfl
   clear hnow HS HB
   go_wp2_with fail
   go_quiet (fail)
   go_wp2
   go_returns
   exact ⟨_, rfl, msgs_nil _ _, _, S3.out.fresh (by (repeat (first | (with_reducible exact Keep.refl _ _) | (with_reducible assumption) | (with_reducible refine Keep.drew ?_) | (with_reducible refine Keep.drewN ?_ _) | (with_reducible refine Keep.alloc ?_ _) | (with_reducible refine Keep.setCell ?_ ?_ _) | (with_reducible refine fun _ => rfl)))), T3.out.two (LTurn.fresh (by (repeat (first | (with_reducible exact Keep.refl _ _) | (with_reducible assumption) | (with_reducible refine Keep.drew ?_) | (with_reducible refine Keep.drewN ?_ _) | (with_reducible refine Keep.alloc ?_ _) | (with_reducible refine Keep.setCell ?_ ?_ _) | (with_reducible refine fun _ => rfl)))))⟩
  all_goals
   have HG : Hid (∀ W, Fresh w3 W → Calls Tryz.prog 69 #[.pointer (some ⟨y.g, 0, none⟩), .int .i64 a] W (GoBackP c { y with v1 := v1', v2 := v2' } N' M P' W)) := Lib.hid fun W f => HB.out rfl W _ (S3.out.fresh f) rfl
   clear hnow HS HB
   go_wp2_with fail
   go_quiet (fail)
   rename Nat => n13
   go_wp2_with (go_at_call 69; (with_reducible refine (HG.out _ ((Keep.refl _ w3).drewN n13)).mono ?_); rintro e w5 ⟨va, y5, rfl, o5, s5, t5, _, n5⟩)
   go_returns
   exact ⟨va, rfl, ⟨o5, fun k hk => Nat.le_trans F3.out (n5 k hk)⟩, y5, s5, T3.out.two ((LTurn.fresh ((Keep.refl _ w3).drewN n13)).two t5)⟩
end Go.Proofs.YthbcdkeammhakaaGreat
namespace Go.Proofs.YthbcdkeammhakaaGreat
open Go.RowKit
attribute [local go_sem ↓] Go.wp_at_zero Go.wp_at_succ
theorem ltake_out (c : LC) (y : PV) (p : LPs) (x : Ev) (an : Bool) (w : World) (h : SLP w c y p) (hd : x.d = c.id) (hf : ¬ x.a < p.freed) (ho : x.a < 0 ∨ 1073741824 < x.a) : Calls Tryz.prog 36 #[.pointer (some ⟨y.g, 0, none⟩), x.msg an] w (StepP c y [] 10 p w) := by
 have c0 := fun i => (h.blk.cell i).trans (lcells_at c y p i)
 have l0 := h.blk.lt
 have H := Lib.hid h
 have HP : Hid (∀ W, Calls Tryz.prog 68 #[.pointer (some ⟨y.gq, 0, none⟩), x.msg an] W fun e w' => e = .returned (.tuple #[.bool false, .int .i64 10]) ∧ Fresh W w') := Lib.hid fun W => put_out y.gq x an W ho
 obtain ⟨a, s, t, n, d, k, x⟩ := x
 unfold Ev.msg at HP ⊢
 simp only at hd hf HP ⊢
 have t1 : (d != c.id) = false := by simpa using hd
 have t2 : decide (a < p.freed) = false := decide_eq_false hf
 have HBA : Hid (LB (w.alloc (.cells #[.int .i64 a, .int .i64 s, .int .i64 t, .int .i64 n, .int .i64 d, .int .i64 k, .int .i64 x, .bool an] 43)) y.g (lcells c y p) w.heap.size 43 #[.int .i64 a, .int .i64 s, .int .i64 t, .int .i64 n, .int .i64 d, .int .i64 k, .int .i64 x, .bool an]) := Lib.hid ⟨h.blk.alloc _, Blk.new w _ _⟩
 clear h hd hf ho
 go_enter Tryz.func36, Tryz.ntmps36
 go_wp2_with fail
 go_quiet (fail)
 rename Nat => n11
 go_wp2_with fail
 go_quiet (fail)
 rename Nat => n12
 go_wp2_with fail
 have y0 := fun (W' : World) (h : LB W' y.g (lcells c y p) w.heap.size 43 #[.int .i64 a, .int .i64 s, .int .i64 t, .int .i64 n, .int .i64 d, .int .i64 k, .int .i64 x, .bool an]) (i : Nat) => (h.l.cell i).trans (lcells_at c y p i)
 have y1 := fun (W' : World) (h : LB W' y.g (lcells c y p) w.heap.size 43 #[.int .i64 a, .int .i64 s, .int .i64 t, .int .i64 n, .int .i64 d, .int .i64 k, .int .i64 x, .bool an]) => h.l.lt
 have y2 := fun (W' : World) (h : LB W' y.g (lcells c y p) w.heap.size 43 #[.int .i64 a, .int .i64 s, .int .i64 t, .int .i64 n, .int .i64 d, .int .i64 k, .int .i64 x, .bool an]) (i : Nat) => h.x.cell i
 have y3 := fun (W' : World) (h : LB W' y.g (lcells c y p) w.heap.size 43 #[.int .i64 a, .int .i64 s, .int .i64 t, .int .i64 n, .int .i64 d, .int .i64 k, .int .i64 x, .bool an]) => h.x.lt
 clear c0 l0
 obtain ⟨WA, hWA⟩ : ∃ WA, ((w.alloc (.cells #[.int .i64 a, .int .i64 s, .int .i64 t, .int .i64 n, .int .i64 d, .int .i64 k, .int .i64 x, .bool an] 43)).drewN n11).drewN n12 = WA := ⟨_, rfl⟩
 have HB0 : Hid (LB WA.drew y.g (lcells c y p) w.heap.size 43 #[.int .i64 a, .int .i64 s, .int .i64 t, .int .i64 n, .int .i64 d, .int .i64 k, .int .i64 x, .bool an]) := Lib.hid (hWA ▸ ((HBA.out.drewN n11).drewN n12).drew)
 have FA : Hid (Fresh w WA.drew) := Lib.hid (hWA ▸ ((((Keep.refl _ w).alloc _).drewN n11).drewN n12).drew)
 rw [hWA]
 clear hWA
 refine region_T (S := fun W' => LB W' y.g (lcells c y p) w.heap.size 43 #[.int .i64 a, .int .i64 s, .int .i64 t, .int .i64 n, .int .i64 d, .int .i64 k, .int .i64 x, .bool an]) (T := []) (by kernel_rfl) ?_
 refine anyT_take (i := 0) (oi := _) (v := ?va0) rfl (by kernel_rfl) (by kernel_rfl) (by kernel_rfl) (by kernel_rfl) (fun _ _ _ h => h) (Or.inl ⟨by rfl, ?hya0⟩) HB0.out ?resta0
 case hya0 => (intro W hSw; go_simp; try with_reducible rfl)
 try simp only [List.getElem_toArray, List.getElem_cons_zero, Act.put, List.setIfInBounds_toArray, List.set_cons_zero, List.set_cons_succ]
 refine anyT_take (i := 1) (oi := _) (v := ?va1) rfl (by kernel_rfl) (by kernel_rfl) (by kernel_rfl) (by kernel_rfl) (fun _ _ _ h => h) (Or.inl ⟨by rfl, ?hya1⟩) HB0.out ?resta1
 case hya1 => (intro W hSw; go_simp; try with_reducible rfl)
 try simp only [List.getElem_toArray, List.getElem_cons_zero, List.getElem_cons_succ, Act.put, List.setIfInBounds_toArray, List.set_cons_zero, List.set_cons_succ]
 refine anyT_take (i := 2) (oi := _) (v := ?va2) rfl (by kernel_rfl) (by kernel_rfl) (by kernel_rfl) (by kernel_rfl) (fun _ _ _ h => h) (Or.inl ⟨by rfl, ?hya2⟩) HB0.out ?resta2
 case hya2 => (intro W hSw; go_simp; try with_reducible rfl)
 try simp only [List.getElem_toArray, List.getElem_cons_zero, List.getElem_cons_succ, Act.put, List.setIfInBounds_toArray, List.set_cons_zero, List.set_cons_succ]
 refine anyT_take (i := 3) (oi := _) (v := ?va3) rfl (by kernel_rfl) (by kernel_rfl) (by kernel_rfl) (by kernel_rfl) (fun _ _ _ h => h) (Or.inl ⟨by rfl, ?hya3⟩) HB0.out ?resta3
 case hya3 => (intro W hSw; go_simp; try with_reducible rfl)
 try simp only [List.getElem_toArray, List.getElem_cons_zero, List.getElem_cons_succ, Act.put, List.setIfInBounds_toArray, List.set_cons_zero, List.set_cons_succ]
 refine anyT_take (i := 4) (oi := _) (v := ?va4) rfl (by kernel_rfl) (by kernel_rfl) (by kernel_rfl) (by kernel_rfl) (fun _ _ _ h => h) (Or.inl ⟨by rfl, ?hya4⟩) HB0.out ?resta4
 case hya4 => (intro W hSw; go_simp; try with_reducible rfl)
 try simp only [List.getElem_toArray, List.getElem_cons_zero, List.getElem_cons_succ, Act.put, List.setIfInBounds_toArray, List.set_cons_zero, List.set_cons_succ]
 refine anyT_one' (i := 5) (by kernel_rfl) rfl (by rfl) (fun KQ hK => ?_)
 go_simp
 go_at_call 68
 (with_reducible refine (HP.out _).mono ?_)
 rintro e w3 ⟨rfl, f3⟩
 have HB3 := Lib.hid (HB0.out.fresh f3)
 have F3 : Hid (Fresh w w3) := Lib.hid (FA.out.step f3 (fun _ _ h => h))
 clear f3
 refine hK.out _ _ HB3.out ?_
 clear hK KQ
 try simp only [List.getElem_toArray, List.getElem_cons_zero, List.getElem_cons_succ, Act.put, List.setIfInBounds_toArray, List.set_cons_zero, List.set_cons_succ]
 refine anyT_take (i := 6) (oi := _) (v := ?va6) rfl (by kernel_rfl) (by kernel_rfl) (by kernel_rfl) (by kernel_rfl) (fun _ _ _ h => h) (Or.inl ⟨by rfl, ?hya6⟩) HB3.out ?resta6
 case hya6 => (intro W hSw; go_simp; try with_reducible rfl)
 try simp only [List.getElem_toArray, List.getElem_cons_zero, List.getElem_cons_succ, Act.put, List.setIfInBounds_toArray, List.set_cons_zero, List.set_cons_succ]
 refine anyT_take (i := 7) (oi := _) (v := ?va7) rfl (by kernel_rfl) (by kernel_rfl) (by kernel_rfl) (by kernel_rfl) (fun _ _ _ h => h) (Or.inl ⟨by rfl, ?hya7⟩) HB3.out ?resta7
 case hya7 => (intro W hSw; go_simp; try with_reducible rfl)
 try simp only [List.getElem_toArray, List.getElem_cons_zero, List.getElem_cons_succ, Act.put, List.setIfInBounds_toArray, List.set_cons_zero, List.set_cons_succ]
 refine anyT_take (i := 8) (oi := _) (v := ?va8) rfl (by kernel_rfl) (by kernel_rfl) (by kernel_rfl) (by kernel_rfl) (fun _ _ _ h => h) (Or.inl ⟨by rfl, ?hya8⟩) HB3.out ?resta8
 case hya8 => (intro W hSw; go_simp; try with_reducible rfl)
 try simp only [List.getElem_toArray, List.getElem_cons_zero, List.getElem_cons_succ, Act.put, List.setIfInBounds_toArray, List.set_cons_zero, List.set_cons_succ]
 refine anyT_take (i := 9) (oi := _) (v := ?va9) rfl (by kernel_rfl) (by kernel_rfl) (by kernel_rfl) (by kernel_rfl) (fun _ _ _ h => h) (Or.inl ⟨by rfl, ?hya9⟩) HB3.out ?resta9
 case hya9 => (intro W hSw; go_simp; try with_reducible rfl)
 try simp only [List.getElem_toArray, List.getElem_cons_zero, List.getElem_cons_succ, Act.put, List.setIfInBounds_toArray, List.set_cons_zero, List.set_cons_succ]
 refine anyT_take (i := 10) (oi := _) (v := ?va10) rfl (by kernel_rfl) (by kernel_rfl) (by kernel_rfl) (by kernel_rfl) (fun _ _ _ h => h) (Or.inl ⟨by rfl, ?hya10⟩) HB3.out ?resta10
 case hya10 => (intro W hSw; go_simp; try with_reducible rfl)
 try simp only [List.getElem_toArray, List.getElem_cons_zero, List.getElem_cons_succ, Act.put, List.setIfInBounds_toArray, List.set_cons_zero, List.set_cons_succ]
 refine anyT_done (by kernel_rfl) ?_
 clear y0 y1 y2 y3
 go_wp2_with fail
 go_returns
 exact ⟨_, rfl, msgs_nil _ _, y, H.out.fresh F3.out, LTurn.fresh F3.out⟩
end Go.Proofs.YthbcdkeammhakaaGreat
namespace Go.Proofs.YthbcdkeammhakaaGreat
open Go.RowKit
attribute [local go_sem ↓] Go.wp_at_zero Go.wp_at_succ
theorem lgive_time (c : LC) (y : PV) (p : LPs) (x : Ev) (w : World) (h : SLP w c y p) (hf : x.a < p.freed) : Calls Tryz.prog 42 #[.pointer (some ⟨y.g, 0, none⟩), x.val] w (StepP c y [] 18 p w) := by
 have c0 := fun i => (h.blk.cell i).trans (lcells_at c y p i)
 have l0 := h.blk.lt
 have H := Lib.hid h
 obtain ⟨a, s, t, n, d, k, x⟩ := x
 unfold Ev.val
 simp only at hf ⊢
 have t2 : decide (a < p.freed) = true := decide_eq_true hf
 clear h hf
 go_enter Tryz.func42, Tryz.ntmps42
 go_wp2_with fail
 go_quiet (fail)
 go_wp2
 go_returns
 exact ⟨_, rfl, msgs_nil _ _, y, H.out.fresh (by (repeat (first | (with_reducible exact Keep.refl _ _) | (with_reducible assumption) | (with_reducible refine Keep.drew ?_) | (with_reducible refine Keep.drewN ?_ _) | (with_reducible refine Keep.alloc ?_ _) | (with_reducible refine Keep.setCell ?_ ?_ _) | (with_reducible refine fun _ => rfl)))), LTurn.fresh (by (repeat (first | (with_reducible exact Keep.refl _ _) | (with_reducible assumption) | (with_reducible refine Keep.drew ?_) | (with_reducible refine Keep.drewN ?_ _) | (with_reducible refine Keep.alloc ?_ _) | (with_reducible refine Keep.setCell ?_ ?_ _) | (with_reducible refine fun _ => rfl))))⟩
theorem lgive_none (c : LC) (y : PV) (p : LPs) (x : Ev) (w : World) (h : SLP w c y p) (hl : p.l.length ≤ 100000) (hm : p.m.length ≤ 100000) (hf : ¬ x.a < p.freed) (hc : (cnt p.l x : Int) - (cnt p.m x : Int) ≤ 0) : Calls Tryz.prog 42 #[.pointer (some ⟨y.g, 0, none⟩), x.val] w (StepP c y [] 14 p w) := by
 have c0 := fun i => (h.blk.cell i).trans (lcells_at c y p i)
 have l0 := h.blk.lt
 have H := Lib.hid h
 have HH : Hid (∀ W, Fresh w W → Calls Tryz.prog 85 #[.pointer (some ⟨y.gq, 0, none⟩), x.val] W fun e w' => e = .returned (.int .i64 ((cnt p.l x : Int) - (cnt p.m x : Int))) ∧ Fresh W w') := Lib.hid fun W f => has_any y.gq y.v1 y.v2 p.l p.m x W (h.sq.fresh f) hl hm
 obtain ⟨cn, hcn⟩ : ∃ cn, (cnt p.l x : Int) - (cnt p.m x : Int) = cn := ⟨_, rfl⟩
 rw [hcn] at HH hc
 clear hcn
 obtain ⟨a, s, t, n, d, k, x⟩ := x
 unfold Ev.val at HH ⊢
 simp only at hf HH ⊢
 have t2 : decide (a < p.freed) = false := decide_eq_false hf
 have t3 : decide (cn ≤ 0) = true := decide_eq_true hc
 have HBA : Hid (LB (w.alloc (.cells #[.int .i64 a, .int .i64 s, .int .i64 t, .int .i64 n, .int .i64 d, .int .i64 k, .int .i64 x] 41)) y.g (lcells c y p) w.heap.size 41 #[.int .i64 a, .int .i64 s, .int .i64 t, .int .i64 n, .int .i64 d, .int .i64 k, .int .i64 x]) := Lib.hid ⟨h.blk.alloc _, Blk.new w _ _⟩
 clear h hf hc
 go_enter Tryz.func42, Tryz.ntmps42
 go_wp2_with fail
 go_quiet (fail)
 rename Nat => n11
 go_wp2_with fail
 have y0 := fun (W' : World) (h : LB W' y.g (lcells c y p) w.heap.size 41 #[.int .i64 a, .int .i64 s, .int .i64 t, .int .i64 n, .int .i64 d, .int .i64 k, .int .i64 x]) (i : Nat) => (h.l.cell i).trans (lcells_at c y p i)
 have y1 := fun (W' : World) (h : LB W' y.g (lcells c y p) w.heap.size 41 #[.int .i64 a, .int .i64 s, .int .i64 t, .int .i64 n, .int .i64 d, .int .i64 k, .int .i64 x]) => h.l.lt
 have y2 := fun (W' : World) (h : LB W' y.g (lcells c y p) w.heap.size 41 #[.int .i64 a, .int .i64 s, .int .i64 t, .int .i64 n, .int .i64 d, .int .i64 k, .int .i64 x]) (i : Nat) => h.x.cell i
 have y3 := fun (W' : World) (h : LB W' y.g (lcells c y p) w.heap.size 41 #[.int .i64 a, .int .i64 s, .int .i64 t, .int .i64 n, .int .i64 d, .int .i64 k, .int .i64 x]) => h.x.lt
 clear c0 l0
 obtain ⟨WA, hWA⟩ : ∃ WA, ((w.alloc (.cells #[.int .i64 a, .int .i64 s, .int .i64 t, .int .i64 n, .int .i64 d, .int .i64 k, .int .i64 x] 41)).drewN n11) = WA := ⟨_, rfl⟩
 have HB0 : Hid (LB WA.drew y.g (lcells c y p) w.heap.size 41 #[.int .i64 a, .int .i64 s, .int .i64 t, .int .i64 n, .int .i64 d, .int .i64 k, .int .i64 x]) := Lib.hid (hWA ▸ (HBA.out.drewN n11).drew)
 have FA : Hid (Fresh w WA.drew) := Lib.hid (hWA ▸ (((Keep.refl _ w).alloc _).drewN n11).drew)
 rw [hWA]
 clear hWA
 refine region_T (S := fun W' => LB W' y.g (lcells c y p) w.heap.size 41 #[.int .i64 a, .int .i64 s, .int .i64 t, .int .i64 n, .int .i64 d, .int .i64 k, .int .i64 x]) (T := []) (by kernel_rfl) ?_
 refine anyT_take (i := 0) (oi := _) (v := ?vc0) rfl (by kernel_rfl) (by kernel_rfl) (by kernel_rfl) (by kernel_rfl) (fun _ _ _ h => h) (Or.inl ⟨by rfl, ?hyc0⟩) HB0.out ?restc0
 case hyc0 => (intro W hSw; go_simp; try with_reducible rfl)
 try simp only [List.getElem_toArray, List.getElem_cons_zero, Act.put, List.setIfInBounds_toArray, List.set_cons_zero, List.set_cons_succ]
 refine anyT_take (i := 1) (oi := _) (v := ?vc1) rfl (by kernel_rfl) (by kernel_rfl) (by kernel_rfl) (by kernel_rfl) (fun _ _ _ h => h) (Or.inl ⟨by rfl, ?hyc1⟩) HB0.out ?restc1
 case hyc1 => (intro W hSw; go_simp; try with_reducible rfl)
 try simp only [List.getElem_toArray, List.getElem_cons_zero, List.getElem_cons_succ, Act.put, List.setIfInBounds_toArray, List.set_cons_zero, List.set_cons_succ]
 refine anyT_take (i := 2) (oi := _) (v := ?vc2) rfl (by kernel_rfl) (by kernel_rfl) (by kernel_rfl) (by kernel_rfl) (fun _ _ _ h => h) (Or.inl ⟨by rfl, ?hyc2⟩) HB0.out ?restc2
 case hyc2 => (intro W hSw; go_simp; try with_reducible rfl)
 try simp only [List.getElem_toArray, List.getElem_cons_zero, List.getElem_cons_succ, Act.put, List.setIfInBounds_toArray, List.set_cons_zero, List.set_cons_succ]
 refine anyT_take (i := 3) (oi := _) (v := ?vc3) rfl (by kernel_rfl) (by kernel_rfl) (by kernel_rfl) (by kernel_rfl) (fun _ _ _ h => h) (Or.inl ⟨by rfl, ?hyc3⟩) HB0.out ?restc3
 case hyc3 => (intro W hSw; go_simp; try with_reducible rfl)
 try simp only [List.getElem_toArray, List.getElem_cons_zero, List.getElem_cons_succ, Act.put, List.setIfInBounds_toArray, List.set_cons_zero, List.set_cons_succ]
 refine anyT_take (i := 4) (oi := _) (v := ?vc4) rfl (by kernel_rfl) (by kernel_rfl) (by kernel_rfl) (by kernel_rfl) (fun _ _ _ h => h) (Or.inl ⟨by rfl, ?hyc4⟩) HB0.out ?restc4
 case hyc4 => (intro W hSw; go_simp; try with_reducible rfl)
 try simp only [List.getElem_toArray, List.getElem_cons_zero, List.getElem_cons_succ, Act.put, List.setIfInBounds_toArray, List.set_cons_zero, List.set_cons_succ]
 refine anyT_one' (i := 5) (by kernel_rfl) rfl (by rfl) (fun KQ hK => ?_)
 go_simp
 go_at_call 85
 (with_reducible refine (HH.out _ FA.out).mono ?_)
 rintro e w3 ⟨rfl, f3⟩
 have HB3 := Lib.hid (HB0.out.fresh f3)
 have F3 : Hid (Fresh w w3) := Lib.hid (FA.out.step f3 (fun _ _ h => h))
 clear f3
 refine hK.out _ _ HB3.out ?_
 clear hK KQ
 try simp only [List.getElem_toArray, List.getElem_cons_zero, List.getElem_cons_succ, Act.put, List.setIfInBounds_toArray, List.set_cons_zero, List.set_cons_succ]
 refine anyT_take (i := 6) (oi := _) (v := ?vc6) rfl (by kernel_rfl) (by kernel_rfl) (by kernel_rfl) (by kernel_rfl) (fun _ _ _ h => h) (Or.inl ⟨by rfl, ?hyc6⟩) HB3.out ?restc6
 case hyc6 => (intro W hSw; go_simp; try with_reducible rfl)
 try simp only [List.getElem_toArray, List.getElem_cons_zero, List.getElem_cons_succ, Act.put, List.setIfInBounds_toArray, List.set_cons_zero, List.set_cons_succ]
 refine anyT_done (by kernel_rfl) ?_
 clear y0 y1 y2 y3
 go_wp2_with fail
 go_returns
 exact ⟨_, rfl, msgs_nil _ _, y, H.out.fresh F3.out, LTurn.fresh F3.out⟩
theorem lgive_put (c : LC) (y : PV) (p : LPs) (x : Ev) (M : List OMsg) (er : Int) (P' : LPs) (w : World) (h : SLP w c y p) (hl : p.l.length ≤ 100000) (hm : p.m.length ≤ 100000) (hf : ¬ x.a < p.freed) (hc : ¬ (cnt p.l x : Int) - (cnt p.m x : Int) ≤ 0) (hr : 0 ≤ x.a ∧ x.a ≤ 1073741824)
  (hb : ∀ W y', SLP W c y' (putLp p x true) → y'.g = y.g → Calls Tryz.prog 44 #[.pointer (some ⟨y.g, 0, none⟩), .int .i64 x.a] W (StepP c y' M er P' W)) :
  Calls Tryz.prog 42 #[.pointer (some ⟨y.g, 0, none⟩), x.val] w (StepP c y M er P' w) := by
 have c0 := fun i => (h.blk.cell i).trans (lcells_at c y p i)
 have l0 := h.blk.lt
 have HN : Hid (∀ i, foot y.gq y.v1 y.v2 i → i < w.heap.size) := Lib.hid (h.sq.lt)
 have HH : Hid (∀ W, Fresh w W → Calls Tryz.prog 85 #[.pointer (some ⟨y.gq, 0, none⟩), x.val] W fun e w' => e = .returned (.int .i64 ((cnt p.l x : Int) - (cnt p.m x : Int))) ∧ Fresh W w') := Lib.hid fun W f => has_any y.gq y.v1 y.v2 p.l p.m x W (h.sq.fresh f) hl hm
 have HP : Hid (∀ W, Fresh w W → Calls Tryz.prog 68 #[.pointer (some ⟨y.gq, 0, none⟩), x.msg true] W fun e w' => e = .returned (.tuple #[.bool (putMet p.l p.m x true), .int .i64 0]) ∧ ∃ v1' v2', SLP w' c { y with v1 := v1', v2 := v2' } (putLp p x true) ∧ LTurn W w' y { y with v1 := v1', v2 := v2' } ∧ Keep (foot y.gq y.v1 y.v2) W w') := Lib.hid fun W f => (put_any y.gq y.v1 y.v2 p.l p.m x true W (h.sq.fresh f) hl hm hr).mono fun e w' hh => by
  obtain ⟨h1, v1', v2', h2, h3⟩ := hh
  obtain ⟨a1, a2⟩ := (h.fresh f).turnQ h2 h3
  exact ⟨h1, v1', v2', a1, a2, h3.keep⟩
 obtain ⟨met, hmet⟩ : ∃ met, putMet p.l p.m x true = met := ⟨_, rfl⟩
 obtain ⟨PP, hPP⟩ : ∃ PP, putLp p x true = PP := ⟨_, rfl⟩
 obtain ⟨cn, hcn⟩ : ∃ cn, (cnt p.l x : Int) - (cnt p.m x : Int) = cn := ⟨_, rfl⟩
 have HC : Hid (∀ v1' v2', lcells c { y with v1 := v1', v2 := v2' } PP = lcells c y p) := Lib.hid (by rw [← hPP]; intro _ _; rfl)
 rw [hmet] at HP
 rw [hPP] at HP hb
 rw [hcn] at HH hc
 clear hmet hPP hcn
 have HB := Lib.hid hb
 obtain ⟨a, s, t, n, d, k, x⟩ := x
 unfold Ev.msg at HP
 unfold Ev.val at HH ⊢
 simp only at hf HP HH HB ⊢
 have t2 : decide (a < p.freed) = false := decide_eq_false hf
 have t3 : decide (cn ≤ 0) = false := decide_eq_false hc
 have HBA : Hid (LB (w.alloc (.cells #[.int .i64 a, .int .i64 s, .int .i64 t, .int .i64 n, .int .i64 d, .int .i64 k, .int .i64 x] 41)) y.g (lcells c y p) w.heap.size 41 #[.int .i64 a, .int .i64 s, .int .i64 t, .int .i64 n, .int .i64 d, .int .i64 k, .int .i64 x]) := Lib.hid ⟨h.blk.alloc _, Blk.new w _ _⟩
 clear h hf hb hr hc
 go_enter Tryz.func42, Tryz.ntmps42
 go_wp2_with fail
 go_quiet (fail)
 rename Nat => n11
 go_wp2_with fail
 have y0 := fun (W' : World) (h : LB W' y.g (lcells c y p) w.heap.size 41 #[.int .i64 a, .int .i64 s, .int .i64 t, .int .i64 n, .int .i64 d, .int .i64 k, .int .i64 x]) (i : Nat) => (h.l.cell i).trans (lcells_at c y p i)
 have y1 := fun (W' : World) (h : LB W' y.g (lcells c y p) w.heap.size 41 #[.int .i64 a, .int .i64 s, .int .i64 t, .int .i64 n, .int .i64 d, .int .i64 k, .int .i64 x]) => h.l.lt
 have y2 := fun (W' : World) (h : LB W' y.g (lcells c y p) w.heap.size 41 #[.int .i64 a, .int .i64 s, .int .i64 t, .int .i64 n, .int .i64 d, .int .i64 k, .int .i64 x]) (i : Nat) => h.x.cell i
 have y3 := fun (W' : World) (h : LB W' y.g (lcells c y p) w.heap.size 41 #[.int .i64 a, .int .i64 s, .int .i64 t, .int .i64 n, .int .i64 d, .int .i64 k, .int .i64 x]) => h.x.lt
 clear c0 l0
 obtain ⟨WA, hWA⟩ : ∃ WA, ((w.alloc (.cells #[.int .i64 a, .int .i64 s, .int .i64 t, .int .i64 n, .int .i64 d, .int .i64 k, .int .i64 x] 41)).drewN n11) = WA := ⟨_, rfl⟩
 have HB0 : Hid (LB WA.drew y.g (lcells c y p) w.heap.size 41 #[.int .i64 a, .int .i64 s, .int .i64 t, .int .i64 n, .int .i64 d, .int .i64 k, .int .i64 x]) := Lib.hid (hWA ▸ (HBA.out.drewN n11).drew)
 have FA : Hid (Fresh w WA.drew) := Lib.hid (hWA ▸ (((Keep.refl _ w).alloc _).drewN n11).drew)
 rw [hWA]
 clear hWA
 refine region_T (S := fun W' => LB W' y.g (lcells c y p) w.heap.size 41 #[.int .i64 a, .int .i64 s, .int .i64 t, .int .i64 n, .int .i64 d, .int .i64 k, .int .i64 x]) (T := []) (by kernel_rfl) ?_
 refine anyT_take (i := 0) (oi := _) (v := ?vd0) rfl (by kernel_rfl) (by kernel_rfl) (by kernel_rfl) (by kernel_rfl) (fun _ _ _ h => h) (Or.inl ⟨by rfl, ?hyd0⟩) HB0.out ?restd0
 case hyd0 => (intro W hSw; go_simp; try with_reducible rfl)
 try simp only [List.getElem_toArray, List.getElem_cons_zero, Act.put, List.setIfInBounds_toArray, List.set_cons_zero, List.set_cons_succ]
 refine anyT_take (i := 1) (oi := _) (v := ?vd1) rfl (by kernel_rfl) (by kernel_rfl) (by kernel_rfl) (by kernel_rfl) (fun _ _ _ h => h) (Or.inl ⟨by rfl, ?hyd1⟩) HB0.out ?restd1
 case hyd1 => (intro W hSw; go_simp; try with_reducible rfl)
 try simp only [List.getElem_toArray, List.getElem_cons_zero, List.getElem_cons_succ, Act.put, List.setIfInBounds_toArray, List.set_cons_zero, List.set_cons_succ]
 refine anyT_take (i := 2) (oi := _) (v := ?vd2) rfl (by kernel_rfl) (by kernel_rfl) (by kernel_rfl) (by kernel_rfl) (fun _ _ _ h => h) (Or.inl ⟨by rfl, ?hyd2⟩) HB0.out ?restd2
 case hyd2 => (intro W hSw; go_simp; try with_reducible rfl)
 try simp only [List.getElem_toArray, List.getElem_cons_zero, List.getElem_cons_succ, Act.put, List.setIfInBounds_toArray, List.set_cons_zero, List.set_cons_succ]
 refine anyT_take (i := 3) (oi := _) (v := ?vd3) rfl (by kernel_rfl) (by kernel_rfl) (by kernel_rfl) (by kernel_rfl) (fun _ _ _ h => h) (Or.inl ⟨by rfl, ?hyd3⟩) HB0.out ?restd3
 case hyd3 => (intro W hSw; go_simp; try with_reducible rfl)
 try simp only [List.getElem_toArray, List.getElem_cons_zero, List.getElem_cons_succ, Act.put, List.setIfInBounds_toArray, List.set_cons_zero, List.set_cons_succ]
 refine anyT_take (i := 4) (oi := _) (v := ?vd4) rfl (by kernel_rfl) (by kernel_rfl) (by kernel_rfl) (by kernel_rfl) (fun _ _ _ h => h) (Or.inl ⟨by rfl, ?hyd4⟩) HB0.out ?restd4
 case hyd4 => (intro W hSw; go_simp; try with_reducible rfl)
 try simp only [List.getElem_toArray, List.getElem_cons_zero, List.getElem_cons_succ, Act.put, List.setIfInBounds_toArray, List.set_cons_zero, List.set_cons_succ]
 refine anyT_one' (i := 5) (by kernel_rfl) rfl (by rfl) (fun KQ hK => ?_)
 go_simp
 go_at_call 85
 (with_reducible refine (HH.out _ FA.out).mono ?_)
 rintro e w3 ⟨rfl, f3⟩
 have HB3 := Lib.hid (HB0.out.fresh f3)
 have F3 : Hid (Fresh w w3) := Lib.hid (FA.out.step f3 (fun _ _ h => h))
 clear f3
 refine hK.out _ _ HB3.out ?_
 clear hK KQ
 try simp only [List.getElem_toArray, List.getElem_cons_zero, List.getElem_cons_succ, Act.put, List.setIfInBounds_toArray, List.set_cons_zero, List.set_cons_succ]
 refine anyT_take (i := 6) (oi := _) (v := ?vd6) rfl (by kernel_rfl) (by kernel_rfl) (by kernel_rfl) (by kernel_rfl) (fun _ _ _ h => h) (Or.inl ⟨by rfl, ?hyd6⟩) HB3.out ?restd6
 case hyd6 => (intro W hSw; go_simp; try with_reducible rfl)
 try simp only [List.getElem_toArray, List.getElem_cons_zero, List.getElem_cons_succ, Act.put, List.setIfInBounds_toArray, List.set_cons_zero, List.set_cons_succ]
 refine anyT_done (by kernel_rfl) ?_
 go_wp2_with fail
 have HB4 := Lib.hid (HB3.out.drew)
 have F4 : Hid (Fresh w w3.drew) := Lib.hid (F3.out.drew)
 refine region_T (S := fun W' => LB W' y.g (lcells c y p) w.heap.size 41 #[.int .i64 a, .int .i64 s, .int .i64 t, .int .i64 n, .int .i64 d, .int .i64 k, .int .i64 x]) (T := []) (by kernel_rfl) ?_
 refine anyT_take (i := 0) (oi := _) (v := ?ve0) rfl (by kernel_rfl) (by kernel_rfl) (by kernel_rfl) (by kernel_rfl) (fun _ _ _ h => h) (Or.inl ⟨by rfl, ?hye0⟩) HB4.out ?reste0
 case hye0 => (intro W hSw; go_simp; try with_reducible rfl)
 try simp only [List.getElem_toArray, List.getElem_cons_zero, Act.put, List.setIfInBounds_toArray, List.set_cons_zero, List.set_cons_succ]
 refine anyT_take (i := 1) (oi := _) (v := ?ve1) rfl (by kernel_rfl) (by kernel_rfl) (by kernel_rfl) (by kernel_rfl) (fun _ _ _ h => h) (Or.inl ⟨by rfl, ?hye1⟩) HB4.out ?reste1
 case hye1 => (intro W hSw; go_simp; try with_reducible rfl)
 try simp only [List.getElem_toArray, List.getElem_cons_zero, List.getElem_cons_succ, Act.put, List.setIfInBounds_toArray, List.set_cons_zero, List.set_cons_succ]
 refine anyT_take (i := 2) (oi := _) (v := ?ve2) rfl (by kernel_rfl) (by kernel_rfl) (by kernel_rfl) (by kernel_rfl) (fun _ _ _ h => h) (Or.inl ⟨by rfl, ?hye2⟩) HB4.out ?reste2
 case hye2 => (intro W hSw; go_simp; try with_reducible rfl)
 try simp only [List.getElem_toArray, List.getElem_cons_zero, List.getElem_cons_succ, Act.put, List.setIfInBounds_toArray, List.set_cons_zero, List.set_cons_succ]
 refine anyT_take (i := 3) (oi := _) (v := ?ve3) rfl (by kernel_rfl) (by kernel_rfl) (by kernel_rfl) (by kernel_rfl) (fun _ _ _ h => h) (Or.inl ⟨by rfl, ?hye3⟩) HB4.out ?reste3
 case hye3 => (intro W hSw; go_simp; try with_reducible rfl)
 try simp only [List.getElem_toArray, List.getElem_cons_zero, List.getElem_cons_succ, Act.put, List.setIfInBounds_toArray, List.set_cons_zero, List.set_cons_succ]
 refine anyT_take (i := 4) (oi := _) (v := ?ve4) rfl (by kernel_rfl) (by kernel_rfl) (by kernel_rfl) (by kernel_rfl) (fun _ _ _ h => h) (Or.inl ⟨by rfl, ?hye4⟩) HB4.out ?reste4
 case hye4 => (intro W hSw; go_simp; try with_reducible rfl)
 try simp only [List.getElem_toArray, List.getElem_cons_zero, List.getElem_cons_succ, Act.put, List.setIfInBounds_toArray, List.set_cons_zero, List.set_cons_succ]
 refine anyT_take (i := 5) (oi := _) (v := ?ve5) rfl (by kernel_rfl) (by kernel_rfl) (by kernel_rfl) (by kernel_rfl) (fun _ _ _ h => h) (Or.inl ⟨by rfl, ?hye5⟩) HB4.out ?reste5
 case hye5 => (intro W hSw; go_simp; try with_reducible rfl)
 try simp only [List.getElem_toArray, List.getElem_cons_zero, List.getElem_cons_succ, Act.put, List.setIfInBounds_toArray, List.set_cons_zero, List.set_cons_succ]
 refine anyT_one' (i := 6) (by kernel_rfl) rfl (by rfl) (fun KQ hK => ?_)
 go_simp
 go_at_call 68
 (with_reducible refine (HP.out _ F4.out).mono ?_)
 rintro e w5 ⟨rfl, v1', v2', s5, t5, k5⟩
 have HB5 : Hid (LB w5 y.g (lcells c y p) w.heap.size 41 #[.int .i64 a, .int .i64 s, .int .i64 t, .int .i64 n, .int .i64 d, .int .i64 k, .int .i64 x]) := Lib.hid ⟨HC.out v1' v2' ▸ s5.blk, HB4.out.x.keep k5 (fun e => by have := HN.out _ e; omega)⟩
 have S5 := Lib.hid s5
 have T5 : Hid (LTurn w w5 y { y with v1 := v1', v2 := v2' }) := Lib.hid ((LTurn.fresh (y := y) F4.out).two t5)
 have F5 : Hid (w.heap.size ≤ w5.heap.size) := Lib.hid T5.out.keep.size
 clear s5 t5 k5
 refine hK.out _ _ HB5.out ?_
 clear hK KQ
 try simp only [List.getElem_toArray, List.getElem_cons_zero, List.getElem_cons_succ, Act.put, List.setIfInBounds_toArray, List.set_cons_zero, List.set_cons_succ]
 refine anyT_take (i := 7) (oi := _) (v := ?ve7) rfl (by kernel_rfl) (by kernel_rfl) (by kernel_rfl) (by kernel_rfl) (fun _ _ _ h => h) (Or.inl ⟨by rfl, ?hye7⟩) HB5.out ?reste7
 case hye7 => (intro W hSw; go_simp; try with_reducible rfl)
 try simp only [List.getElem_toArray, List.getElem_cons_zero, List.getElem_cons_succ, Act.put, List.setIfInBounds_toArray, List.set_cons_zero, List.set_cons_succ]
 refine anyT_take (i := 8) (oi := _) (v := ?ve8) rfl (by kernel_rfl) (by kernel_rfl) (by kernel_rfl) (by kernel_rfl) (fun _ _ _ h => h) (Or.inl ⟨by rfl, ?hye8⟩) HB5.out ?reste8
 case hye8 => (intro W hSw; go_simp; try with_reducible rfl)
 try simp only [List.getElem_toArray, List.getElem_cons_zero, List.getElem_cons_succ, Act.put, List.setIfInBounds_toArray, List.set_cons_zero, List.set_cons_succ]
 refine anyT_take (i := 9) (oi := _) (v := ?ve9) rfl (by kernel_rfl) (by kernel_rfl) (by kernel_rfl) (by kernel_rfl) (fun _ _ _ h => h) (Or.inl ⟨by rfl, ?hye9⟩) HB5.out ?reste9
 case hye9 => (intro W hSw; go_simp; try with_reducible rfl)
 try simp only [List.getElem_toArray, List.getElem_cons_zero, List.getElem_cons_succ, Act.put, List.setIfInBounds_toArray, List.set_cons_zero, List.set_cons_succ]
 refine anyT_take (i := 10) (oi := _) (v := ?ve10) rfl (by kernel_rfl) (by kernel_rfl) (by kernel_rfl) (by kernel_rfl) (fun _ _ _ h => h) (Or.inl ⟨by rfl, ?hye10⟩) HB5.out ?reste10
 case hye10 => (intro W hSw; go_simp; try with_reducible rfl)
 try simp only [List.getElem_toArray, List.getElem_cons_zero, List.getElem_cons_succ, Act.put, List.setIfInBounds_toArray, List.set_cons_zero, List.set_cons_succ]
 refine anyT_take (i := 11) (oi := _) (v := ?ve11) rfl (by kernel_rfl) (by kernel_rfl) (by kernel_rfl) (by kernel_rfl) (fun _ _ _ h => h) (Or.inl ⟨by rfl, ?hye11⟩) HB5.out ?reste11
 case hye11 => (intro W hSw; go_simp; try with_reducible rfl)
 try simp only [List.getElem_toArray, List.getElem_cons_zero, List.getElem_cons_succ, Act.put, List.setIfInBounds_toArray, List.set_cons_zero, List.set_cons_succ]
 refine anyT_done (by kernel_rfl) ?_
 clear y0 y1 y2 y3
 have c3 := fun i => (HB5.out.l.cell i).trans (lcells_at c y p i)
 have l3 := HB5.out.l.lt
 have d3 := HB5.out.x.cell
 have m3 := HB5.out.x.lt
 have HG : Hid (∀ W, Fresh w5 W → Calls Tryz.prog 44 #[.pointer (some ⟨y.g, 0, none⟩), .int .i64 a] W (StepP c { y with v1 := v1', v2 := v2' } M er P' W)) := Lib.hid fun W f => HB.out W _ (S5.out.fresh f) rfl
 clear HB
 go_wp2_with (go_at_call 44; (with_reducible refine (HG.out _ (Keep.refl _ _)).mono ?_); rintro e w6 ⟨va, rfl, ⟨o6, n6⟩, y6, s6, t6⟩)
 go_returns
 refine ⟨va, rfl, ⟨o6, fun k hk => Nat.le_trans F5.out (n6 k hk)⟩, y6, s6, T5.out.two t6⟩
end Go.Proofs.YthbcdkeammhakaaGreat
namespace Go.Proofs.YthbcdkeammhakaaGreat
open Go.RowKit
attribute [local go_sem ↓] Go.wp_at_zero Go.wp_at_succ
theorem lret_id (c : LC) (y : PV) (p : LPs) (x : Ev) (w : World) (h : SLP w c y p) (hd : x.s ≠ c.id) : Calls Tryz.prog 32 #[.pointer (some ⟨y.g, 0, none⟩), x.val] w (StepP c y [] 1 p w) := by
 have c0 := fun i => (h.blk.cell i).trans (lcells_at c y p i)
 have l0 := h.blk.lt
 have H := Lib.hid h
 obtain ⟨a, s, t, n, d, k, x⟩ := x
 unfold Ev.val
 simp only at hd ⊢
 have t1 : (s != c.id) = true := by simpa using hd
 clear h hd
 go_enter Tryz.func32, Tryz.ntmps32
 go_wp2_with fail
 go_quiet (fail)
 go_wp2
 go_returns
 exact ⟨_, rfl, msgs_nil _ _, y, H.out.fresh (by (repeat (first | (with_reducible exact Keep.refl _ _) | (with_reducible assumption) | (with_reducible refine Keep.drew ?_) | (with_reducible refine Keep.drewN ?_ _) | (with_reducible refine Keep.alloc ?_ _) | (with_reducible refine Keep.setCell ?_ ?_ _) | (with_reducible refine fun _ => rfl)))), LTurn.fresh (by (repeat (first | (with_reducible exact Keep.refl _ _) | (with_reducible assumption) | (with_reducible refine Keep.drew ?_) | (with_reducible refine Keep.drewN ?_ _) | (with_reducible refine Keep.alloc ?_ _) | (with_reducible refine Keep.setCell ?_ ?_ _) | (with_reducible refine fun _ => rfl))))⟩
theorem lret_time (c : LC) (y : PV) (p : LPs) (x : Ev) (w : World) (h : SLP w c y p) (hd : x.s = c.id) (hf : x.t < p.freed) : Calls Tryz.prog 32 #[.pointer (some ⟨y.g, 0, none⟩), x.val] w (StepP c y [] 18 p w) := by
 have c0 := fun i => (h.blk.cell i).trans (lcells_at c y p i)
 have l0 := h.blk.lt
 have H := Lib.hid h
 obtain ⟨a, s, t, n, d, k, x⟩ := x
 unfold Ev.val
 simp only at hd hf ⊢
 have t1 : (s != c.id) = false := by simpa using hd
 have t2 : decide (t < p.freed) = true := decide_eq_true hf
 clear h hd hf
 go_enter Tryz.func32, Tryz.ntmps32
 go_wp2_with fail
 go_quiet (fail)
 go_wp2_with fail
 go_quiet (fail)
 go_wp2
 go_returns
 exact ⟨_, rfl, msgs_nil _ _, y, H.out.fresh (by (repeat (first | (with_reducible exact Keep.refl _ _) | (with_reducible assumption) | (with_reducible refine Keep.drew ?_) | (with_reducible refine Keep.drewN ?_ _) | (with_reducible refine Keep.alloc ?_ _) | (with_reducible refine Keep.setCell ?_ ?_ _) | (with_reducible refine fun _ => rfl)))), LTurn.fresh (by (repeat (first | (with_reducible exact Keep.refl _ _) | (with_reducible assumption) | (with_reducible refine Keep.drew ?_) | (with_reducible refine Keep.drewN ?_ _) | (with_reducible refine Keep.alloc ?_ _) | (with_reducible refine Keep.setCell ?_ ?_ _) | (with_reducible refine fun _ => rfl))))⟩
theorem lret_no (c : LC) (y : PV) (p : LPs) (x : Ev) (w : World) (h : SLP w c y p) (hq : p.q.length ≤ 100000) (hd : x.s = c.id) (hf : ¬ x.t < p.freed) (hh : rhas p.q x = false) : Calls Tryz.prog 32 #[.pointer (some ⟨y.g, 0, none⟩), x.val] w (StepP c y [(x, false)] 0 p w) := by
 have c0 := fun i => (h.blk.cell i).trans (lcells_at c y p i)
 have l0 := h.blk.lt
 have HN : Hid (∀ i, ofoot y.go y.v3 i → i < w.heap.size) := Lib.hid (h.oq.lt)
 have HR : Hid (∀ W, Fresh w W → Calls Tryz.prog 57 #[.pointer (some ⟨y.go, 0, none⟩), x.val] W fun e w' => e = .returned (.bool false) ∧ ∃ v3', SLP w' c { y with v3 := v3' } { p with q := p.q } ∧ LTurn W w' y { y with v3 := v3' } ∧ Keep (ofoot y.go y.v3) W w') := Lib.hid fun W f => (return_any y.go y.v3 p.q x W (h.fresh f).oq hq).mono fun e w' hr => by
  obtain ⟨h1, v3', h2, h3⟩ := hr
  rw [hh] at h1 h2
  simp only [Bool.false_eq_true, if_false] at h2
  obtain ⟨a1, a2⟩ := (h.fresh f).turnO h2 h3
  exact ⟨h1, v3', a1, a2, h3.keep⟩
 have HC : Hid (∀ v3', lcells c { y with v3 := v3' } p = lcells c y p) := Lib.hid (by intro _; rfl)
 obtain ⟨a, s, t, n, d, k, x⟩ := x
 unfold Ev.val at HR ⊢
 simp only at hd hf HR ⊢
 have t1 : (s != c.id) = false := by simpa using hd
 have t2 : decide (t < p.freed) = false := decide_eq_false hf
 have HBA : Hid (LB (w.alloc (.cells #[.int .i64 a, .int .i64 s, .int .i64 t, .int .i64 n, .int .i64 d, .int .i64 k, .int .i64 x] 41)) y.g (lcells c y p) w.heap.size 41 #[.int .i64 a, .int .i64 s, .int .i64 t, .int .i64 n, .int .i64 d, .int .i64 k, .int .i64 x]) := Lib.hid ⟨h.blk.alloc _, Blk.new w _ _⟩
 clear h hd hf hh
 go_enter Tryz.func32, Tryz.ntmps32
 go_wp2_with fail
 go_quiet (fail)
 rename Nat => n11
 go_wp2_with fail
 go_quiet (fail)
 rename Nat => n12
 go_wp2_with fail
 have y0 := fun (W' : World) (h : LB W' y.g (lcells c y p) w.heap.size 41 #[.int .i64 a, .int .i64 s, .int .i64 t, .int .i64 n, .int .i64 d, .int .i64 k, .int .i64 x]) (i : Nat) => (h.l.cell i).trans (lcells_at c y p i)
 have y1 := fun (W' : World) (h : LB W' y.g (lcells c y p) w.heap.size 41 #[.int .i64 a, .int .i64 s, .int .i64 t, .int .i64 n, .int .i64 d, .int .i64 k, .int .i64 x]) => h.l.lt
 have y2 := fun (W' : World) (h : LB W' y.g (lcells c y p) w.heap.size 41 #[.int .i64 a, .int .i64 s, .int .i64 t, .int .i64 n, .int .i64 d, .int .i64 k, .int .i64 x]) (i : Nat) => h.x.cell i
 have y3 := fun (W' : World) (h : LB W' y.g (lcells c y p) w.heap.size 41 #[.int .i64 a, .int .i64 s, .int .i64 t, .int .i64 n, .int .i64 d, .int .i64 k, .int .i64 x]) => h.x.lt
 clear c0 l0
 obtain ⟨WA, hWA⟩ : ∃ WA, ((w.alloc (.cells #[.int .i64 a, .int .i64 s, .int .i64 t, .int .i64 n, .int .i64 d, .int .i64 k, .int .i64 x] 41)).drewN n11).drewN n12 = WA := ⟨_, rfl⟩
 have HB0 : Hid (LB WA.drew y.g (lcells c y p) w.heap.size 41 #[.int .i64 a, .int .i64 s, .int .i64 t, .int .i64 n, .int .i64 d, .int .i64 k, .int .i64 x]) := Lib.hid (hWA ▸ ((HBA.out.drewN n11).drewN n12).drew)
 have FA : Hid (Fresh w WA.drew) := Lib.hid (hWA ▸ ((((Keep.refl _ w).alloc _).drewN n11).drewN n12).drew)
 rw [hWA]
 clear hWA
 refine region_T (S := fun W' => LB W' y.g (lcells c y p) w.heap.size 41 #[.int .i64 a, .int .i64 s, .int .i64 t, .int .i64 n, .int .i64 d, .int .i64 k, .int .i64 x]) (T := []) (by kernel_rfl) ?_
 refine anyT_take (i := 0) (oi := _) (v := ?vg0) rfl (by kernel_rfl) (by kernel_rfl) (by kernel_rfl) (by kernel_rfl) (fun _ _ _ h => h) (Or.inl ⟨by rfl, ?hyg0⟩) HB0.out ?restg0
 case hyg0 => (intro W hSw; go_simp; try with_reducible rfl)
 try simp only [List.getElem_toArray, List.getElem_cons_zero, Act.put, List.setIfInBounds_toArray, List.set_cons_zero, List.set_cons_succ]
 refine anyT_take (i := 1) (oi := _) (v := ?vg1) rfl (by kernel_rfl) (by kernel_rfl) (by kernel_rfl) (by kernel_rfl) (fun _ _ _ h => h) (Or.inl ⟨by rfl, ?hyg1⟩) HB0.out ?restg1
 case hyg1 => (intro W hSw; go_simp; try with_reducible rfl)
 try simp only [List.getElem_toArray, List.getElem_cons_zero, List.getElem_cons_succ, Act.put, List.setIfInBounds_toArray, List.set_cons_zero, List.set_cons_succ]
 refine anyT_take (i := 2) (oi := _) (v := ?vg2) rfl (by kernel_rfl) (by kernel_rfl) (by kernel_rfl) (by kernel_rfl) (fun _ _ _ h => h) (Or.inl ⟨by rfl, ?hyg2⟩) HB0.out ?restg2
 case hyg2 => (intro W hSw; go_simp; try with_reducible rfl)
 try simp only [List.getElem_toArray, List.getElem_cons_zero, List.getElem_cons_succ, Act.put, List.setIfInBounds_toArray, List.set_cons_zero, List.set_cons_succ]
 refine anyT_take (i := 3) (oi := _) (v := ?vg3) rfl (by kernel_rfl) (by kernel_rfl) (by kernel_rfl) (by kernel_rfl) (fun _ _ _ h => h) (Or.inl ⟨by rfl, ?hyg3⟩) HB0.out ?restg3
 case hyg3 => (intro W hSw; go_simp; try with_reducible rfl)
 try simp only [List.getElem_toArray, List.getElem_cons_zero, List.getElem_cons_succ, Act.put, List.setIfInBounds_toArray, List.set_cons_zero, List.set_cons_succ]
 refine anyT_take (i := 4) (oi := _) (v := ?vg4) rfl (by kernel_rfl) (by kernel_rfl) (by kernel_rfl) (by kernel_rfl) (fun _ _ _ h => h) (Or.inl ⟨by rfl, ?hyg4⟩) HB0.out ?restg4
 case hyg4 => (intro W hSw; go_simp; try with_reducible rfl)
 try simp only [List.getElem_toArray, List.getElem_cons_zero, List.getElem_cons_succ, Act.put, List.setIfInBounds_toArray, List.set_cons_zero, List.set_cons_succ]
 refine anyT_one' (i := 5) (by kernel_rfl) rfl (by rfl) (fun KQ hK => ?_)
 go_simp
 go_at_call 57
 (with_reducible refine (HR.out _ FA.out).mono ?_)
 rintro e w3 ⟨rfl, v3', s3, t3, k3⟩
 have HB3 : Hid (LB w3 y.g (lcells c y p) w.heap.size 41 #[.int .i64 a, .int .i64 s, .int .i64 t, .int .i64 n, .int .i64 d, .int .i64 k, .int .i64 x]) := Lib.hid ⟨HC.out v3' ▸ s3.blk, HB0.out.x.keep k3 (fun e => by have := HN.out _ e; omega)⟩
 have S3 := Lib.hid s3
 have T3 : Hid (LTurn w w3 y { y with v3 := v3' }) := Lib.hid ((LTurn.fresh (y := y) FA.out).two t3)
 have F3 : Hid (w.heap.size ≤ w3.heap.size) := Lib.hid T3.out.keep.size
 clear s3 t3 k3
 refine hK.out _ _ HB3.out ?_
 clear hK KQ
 try simp only [List.getElem_toArray, List.getElem_cons_zero, List.getElem_cons_succ, Act.put, List.setIfInBounds_toArray, List.set_cons_zero, List.set_cons_succ]
 refine anyT_take (i := 6) (oi := _) (v := ?vg6) rfl (by kernel_rfl) (by kernel_rfl) (by kernel_rfl) (by kernel_rfl) (fun _ _ _ h => h) (Or.inl ⟨by rfl, ?hyg6⟩) HB3.out ?restg6
 case hyg6 => (intro W hSw; go_simp; try with_reducible rfl)
 try simp only [List.getElem_toArray, List.getElem_cons_zero, List.getElem_cons_succ, Act.put, List.setIfInBounds_toArray, List.set_cons_zero, List.set_cons_succ]
 refine anyT_done (by kernel_rfl) ?_
 clear y0 y1 y2 y3
 have d3 := HB3.out.x.cell
 have m3 := HB3.out.x.lt
 go_wp2_with fail
 go_returns
 refine ⟨_, rfl, ⟨OwnS.new_ (Blk.new w3 _ _) rfl (by unfold maxLen; omega), fun k hk => ?_⟩, _, S3.out.fresh (by (repeat (first | (with_reducible exact Keep.refl _ _) | (with_reducible assumption) | (with_reducible refine Keep.drew ?_) | (with_reducible refine Keep.drewN ?_ _) | (with_reducible refine Keep.alloc ?_ _) | (with_reducible refine Keep.setCell ?_ ?_ _) | (with_reducible refine fun _ => rfl)))), T3.out.two (LTurn.fresh (by (repeat (first | (with_reducible exact Keep.refl _ _) | (with_reducible assumption) | (with_reducible refine Keep.drew ?_) | (with_reducible refine Keep.drewN ?_ _) | (with_reducible refine Keep.alloc ?_ _) | (with_reducible refine Keep.setCell ?_ ?_ _) | (with_reducible refine fun _ => rfl)))))⟩
 have := F3.out
 simp [Value.ownBlock] at hk
 omega
theorem lret_yes (c : LC) (y : PV) (p : LPs) (x : Ev) (M : List OMsg) (er : Int) (P' : LPs) (w : World) (h : SLP w c y p) (hq : p.q.length ≤ 100000) (hd : x.s = c.id) (hf : ¬ x.t < p.freed) (hh : rhas p.q x = true)
  (hb : ∀ W y', SLP W c y' { p with q := rrem p.q x } → y'.g = y.g → Calls Tryz.prog 44 #[.pointer (some ⟨y.g, 0, none⟩), .int .i64 x.t] W (StepP c y' M er P' W)) :
  Calls Tryz.prog 32 #[.pointer (some ⟨y.g, 0, none⟩), x.val] w (StepP c y M er P' w) := by
 have c0 := fun i => (h.blk.cell i).trans (lcells_at c y p i)
 have l0 := h.blk.lt
 have HN : Hid (∀ i, ofoot y.go y.v3 i → i < w.heap.size) := Lib.hid (h.oq.lt)
 obtain ⟨PP, hPP⟩ : ∃ PP, { p with q := rrem p.q x } = PP := ⟨_, rfl⟩
 have HR : Hid (∀ W, Fresh w W → Calls Tryz.prog 57 #[.pointer (some ⟨y.go, 0, none⟩), x.val] W fun e w' => e = .returned (.bool true) ∧ ∃ v3', SLP w' c { y with v3 := v3' } PP ∧ LTurn W w' y { y with v3 := v3' } ∧ Keep (ofoot y.go y.v3) W w') := Lib.hid fun W f => (return_any y.go y.v3 p.q x W (h.fresh f).oq hq).mono fun e w' hr => by
  obtain ⟨h1, v3', h2, h3⟩ := hr
  rw [hh] at h1 h2
  simp only [if_true] at h2
  obtain ⟨a1, a2⟩ := (h.fresh f).turnO h2 h3
  exact ⟨h1, v3', hPP ▸ a1, a2, h3.keep⟩
 have HC : Hid (∀ v3', lcells c { y with v3 := v3' } PP = lcells c y p) := Lib.hid (by rw [← hPP]; intro _; rfl)
 rw [hPP] at hb
 clear hPP
 have HB := Lib.hid hb
 obtain ⟨a, s, t, n, d, k, x⟩ := x
 unfold Ev.val at HR ⊢
 simp only at hd hf HR HB ⊢
 have t1 : (s != c.id) = false := by simpa using hd
 have t2 : decide (t < p.freed) = false := decide_eq_false hf
 have HBA : Hid (LB (w.alloc (.cells #[.int .i64 a, .int .i64 s, .int .i64 t, .int .i64 n, .int .i64 d, .int .i64 k, .int .i64 x] 41)) y.g (lcells c y p) w.heap.size 41 #[.int .i64 a, .int .i64 s, .int .i64 t, .int .i64 n, .int .i64 d, .int .i64 k, .int .i64 x]) := Lib.hid ⟨h.blk.alloc _, Blk.new w _ _⟩
 clear h hd hf hh hb
 go_enter Tryz.func32, Tryz.ntmps32
 go_wp2_with fail
 go_quiet (fail)
 rename Nat => n11
 go_wp2_with fail
 go_quiet (fail)
 rename Nat => n12
 go_wp2_with fail
 have y0 := fun (W' : World) (h : LB W' y.g (lcells c y p) w.heap.size 41 #[.int .i64 a, .int .i64 s, .int .i64 t, .int .i64 n, .int .i64 d, .int .i64 k, .int .i64 x]) (i : Nat) => (h.l.cell i).trans (lcells_at c y p i)
 have y1 := fun (W' : World) (h : LB W' y.g (lcells c y p) w.heap.size 41 #[.int .i64 a, .int .i64 s, .int .i64 t, .int .i64 n, .int .i64 d, .int .i64 k, .int .i64 x]) => h.l.lt
 have y2 := fun (W' : World) (h : LB W' y.g (lcells c y p) w.heap.size 41 #[.int .i64 a, .int .i64 s, .int .i64 t, .int .i64 n, .int .i64 d, .int .i64 k, .int .i64 x]) (i : Nat) => h.x.cell i
 have y3 := fun (W' : World) (h : LB W' y.g (lcells c y p) w.heap.size 41 #[.int .i64 a, .int .i64 s, .int .i64 t, .int .i64 n, .int .i64 d, .int .i64 k, .int .i64 x]) => h.x.lt
 clear c0 l0
 obtain ⟨WA, hWA⟩ : ∃ WA, ((w.alloc (.cells #[.int .i64 a, .int .i64 s, .int .i64 t, .int .i64 n, .int .i64 d, .int .i64 k, .int .i64 x] 41)).drewN n11).drewN n12 = WA := ⟨_, rfl⟩
 have HB0 : Hid (LB WA.drew y.g (lcells c y p) w.heap.size 41 #[.int .i64 a, .int .i64 s, .int .i64 t, .int .i64 n, .int .i64 d, .int .i64 k, .int .i64 x]) := Lib.hid (hWA ▸ ((HBA.out.drewN n11).drewN n12).drew)
 have FA : Hid (Fresh w WA.drew) := Lib.hid (hWA ▸ ((((Keep.refl _ w).alloc _).drewN n11).drewN n12).drew)
 rw [hWA]
 clear hWA
 refine region_T (S := fun W' => LB W' y.g (lcells c y p) w.heap.size 41 #[.int .i64 a, .int .i64 s, .int .i64 t, .int .i64 n, .int .i64 d, .int .i64 k, .int .i64 x]) (T := []) (by kernel_rfl) ?_
 refine anyT_take (i := 0) (oi := _) (v := ?vh0) rfl (by kernel_rfl) (by kernel_rfl) (by kernel_rfl) (by kernel_rfl) (fun _ _ _ h => h) (Or.inl ⟨by rfl, ?hyh0⟩) HB0.out ?resth0
 case hyh0 => (intro W hSw; go_simp; try with_reducible rfl)
 try simp only [List.getElem_toArray, List.getElem_cons_zero, Act.put, List.setIfInBounds_toArray, List.set_cons_zero, List.set_cons_succ]
 refine anyT_take (i := 1) (oi := _) (v := ?vh1) rfl (by kernel_rfl) (by kernel_rfl) (by kernel_rfl) (by kernel_rfl) (fun _ _ _ h => h) (Or.inl ⟨by rfl, ?hyh1⟩) HB0.out ?resth1
 case hyh1 => (intro W hSw; go_simp; try with_reducible rfl)
 try simp only [List.getElem_toArray, List.getElem_cons_zero, List.getElem_cons_succ, Act.put, List.setIfInBounds_toArray, List.set_cons_zero, List.set_cons_succ]
 refine anyT_take (i := 2) (oi := _) (v := ?vh2) rfl (by kernel_rfl) (by kernel_rfl) (by kernel_rfl) (by kernel_rfl) (fun _ _ _ h => h) (Or.inl ⟨by rfl, ?hyh2⟩) HB0.out ?resth2
 case hyh2 => (intro W hSw; go_simp; try with_reducible rfl)
 try simp only [List.getElem_toArray, List.getElem_cons_zero, List.getElem_cons_succ, Act.put, List.setIfInBounds_toArray, List.set_cons_zero, List.set_cons_succ]
 refine anyT_take (i := 3) (oi := _) (v := ?vh3) rfl (by kernel_rfl) (by kernel_rfl) (by kernel_rfl) (by kernel_rfl) (fun _ _ _ h => h) (Or.inl ⟨by rfl, ?hyh3⟩) HB0.out ?resth3
 case hyh3 => (intro W hSw; go_simp; try with_reducible rfl)
 try simp only [List.getElem_toArray, List.getElem_cons_zero, List.getElem_cons_succ, Act.put, List.setIfInBounds_toArray, List.set_cons_zero, List.set_cons_succ]
 refine anyT_take (i := 4) (oi := _) (v := ?vh4) rfl (by kernel_rfl) (by kernel_rfl) (by kernel_rfl) (by kernel_rfl) (fun _ _ _ h => h) (Or.inl ⟨by rfl, ?hyh4⟩) HB0.out ?resth4
 case hyh4 => (intro W hSw; go_simp; try with_reducible rfl)
 try simp only [List.getElem_toArray, List.getElem_cons_zero, List.getElem_cons_succ, Act.put, List.setIfInBounds_toArray, List.set_cons_zero, List.set_cons_succ]
 refine anyT_one' (i := 5) (by kernel_rfl) rfl (by rfl) (fun KQ hK => ?_)
 go_simp
 go_at_call 57
 (with_reducible refine (HR.out _ FA.out).mono ?_)
 rintro e w3 ⟨rfl, v3', s3, t3, k3⟩
 have HB3 : Hid (LB w3 y.g (lcells c y p) w.heap.size 41 #[.int .i64 a, .int .i64 s, .int .i64 t, .int .i64 n, .int .i64 d, .int .i64 k, .int .i64 x]) := Lib.hid ⟨HC.out v3' ▸ s3.blk, HB0.out.x.keep k3 (fun e => by have := HN.out _ e; omega)⟩
 have S3 := Lib.hid s3
 have T3 : Hid (LTurn w w3 y { y with v3 := v3' }) := Lib.hid ((LTurn.fresh (y := y) FA.out).two t3)
 have F3 : Hid (w.heap.size ≤ w3.heap.size) := Lib.hid T3.out.keep.size
 clear s3 t3 k3
 refine hK.out _ _ HB3.out ?_
 clear hK KQ
 try simp only [List.getElem_toArray, List.getElem_cons_zero, List.getElem_cons_succ, Act.put, List.setIfInBounds_toArray, List.set_cons_zero, List.set_cons_succ]
 refine anyT_take (i := 6) (oi := _) (v := ?vh6) rfl (by kernel_rfl) (by kernel_rfl) (by kernel_rfl) (by kernel_rfl) (fun _ _ _ h => h) (Or.inl ⟨by rfl, ?hyh6⟩) HB3.out ?resth6
 case hyh6 => (intro W hSw; go_simp; try with_reducible rfl)
 try simp only [List.getElem_toArray, List.getElem_cons_zero, List.getElem_cons_succ, Act.put, List.setIfInBounds_toArray, List.set_cons_zero, List.set_cons_succ]
 refine anyT_done (by kernel_rfl) ?_
 clear y0 y1 y2 y3
 have d3 := HB3.out.x.cell
 have m3 := HB3.out.x.lt
 have HG : Hid (∀ W, Fresh w3 W → Calls Tryz.prog 44 #[.pointer (some ⟨y.g, 0, none⟩), .int .i64 t] W (StepP c { y with v3 := v3' } M er P' W)) := Lib.hid fun W f => HB.out W _ (S3.out.fresh f) rfl
 clear HB
 go_wp2_with (go_at_call 44; (with_reducible refine (HG.out _ (Keep.refl _ _)).mono ?_); rintro e w6 ⟨va, rfl, ⟨o6, n6⟩, y6, s6, t6⟩)
 go_returns
 exact ⟨va, rfl, ⟨o6, fun k hk => Nat.le_trans F3.out (n6 k hk)⟩, y6, s6, T3.out.two t6⟩
def nextL (p : LPs) : Int := match nextE p.l p.now with | some x => x.a | none => 1073741825
def SetP (c : LC) (y : PV) (M : List OMsg) (p' : LPs) (w : World) (e : Ending) (w' : World) : Prop := ∃ va, e = .returned va ∧ MsgsP M w w' va ∧ ∃ y', SLP w' c y' p' ∧ LTurn w w' y y'
theorem lsettle_any (c : LC) (y : PV) (p : LPs) (w : World) (h : SLP w c y p) (hl : p.l.length ≤ 100000) (hq : p.q.length ≤ 100000) : Calls Tryz.prog 29 #[.pointer (some ⟨y.g, 0, none⟩)] w (SetP c y (antis (flushP (nextL p)) p.q) { p with q := stay (flushP (nextL p)) p.q } w) := by
 have HN := Lib.hid (lnext_any c y p w h hl)
 have HF : Hid (∀ W, Fresh w W → Calls Tryz.prog 56 #[.pointer (some ⟨y.go, 0, none⟩), .int .i64 (nextL p)] W (SetP c y (antis (flushP (nextL p)) p.q) { p with q := stay (flushP (nextL p)) p.q } w)) := Lib.hid fun W f => (flush_any y.go y.v3 p.q (nextL p) W (h.fresh f).oq hq).mono fun e w' hh => by
  obtain ⟨va, v3', h1, h2, h3, h4, h5⟩ := hh
  obtain ⟨a1, a2⟩ := (h.fresh f).turnO h3 h4
  exact ⟨va, h1, ⟨h2, fun k hk => Nat.le_trans f.size (h5 k hk)⟩, _, a1, (LTurn.fresh f).two a2⟩
 have HB0 := Lib.hid h.blk
 obtain ⟨NL, hNL⟩ : ∃ NL, nextL p = NL := ⟨_, rfl⟩
 have HL : Hid (NL = match nextE p.l p.now with | some x => x.a | none => 1073741825) := Lib.hid hNL.symm
 rw [hNL] at HF ⊢
 clear hNL h
 obtain ⟨N, hN⟩ : ∃ N, nextE p.l p.now = N := ⟨_, rfl⟩
 rw [hN] at HN HL
 clear hN
 unfold NextP at HN
 cases N with
 | none =>
  have hL : NL = 1073741825 := HL.out
  subst hL
  go_enter Tryz.func29, Tryz.ntmps29
  go_wp2_with (first
   | (go_at_call 40; (with_reducible refine HN.out.mono ?_); rintro e w1 ⟨rfl, f1⟩; have F1 := Lib.hid f1; have b1 := f1.blk_ HB0.out; have c1 := fun i => (b1.cell i).trans (lcells_at c y p i); have l1 := b1.lt; clear f1 b1)
   | (go_at_call 56; (with_reducible refine (HF.out _ F1.out).mono ?_); rintro e w2 ⟨va, rfl, m2, y2, s2, t2⟩))
  go_returns
  exact ⟨va, rfl, m2, y2, s2, t2⟩
 | some x =>
  have hL : NL = x.a := HL.out
  subst hL
  go_enter Tryz.func29, Tryz.ntmps29
  go_wp2_with (first
   | (go_at_call 40; (with_reducible refine HN.out.mono ?_); rintro e w1 ⟨rfl, f1⟩; have F1 := Lib.hid f1; have b1 := f1.blk_ HB0.out; have c1 := fun i => (b1.cell i).trans (lcells_at c y p i); have l1 := b1.lt; clear f1 b1)
   | (go_at_call 56; (with_reducible refine (HF.out _ F1.out).mono ?_); rintro e w2 ⟨va, rfl, m2, y2, s2, t2⟩))
  go_returns
  exact ⟨va, rfl, m2, y2, s2, t2⟩
end Go.Proofs.YthbcdkeammhakaaGreat
