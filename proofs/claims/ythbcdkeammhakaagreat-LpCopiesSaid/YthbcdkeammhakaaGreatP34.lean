/- Chapter 13: LpJ, LpL. -/
import Derived.Test.YthbcdkeammhakaaGreatP31
import Derived.Test.YthbcdkeammhakaaGreatP30
import Derived.Test.YthbcdkeammhakaaGreatP33
set_option maxRecDepth 100000
set_option maxHeartbeats 16000000
namespace Go.Proofs.YthbcdkeammhakaaGreat
open Go.RowKit Go.Shelf
attribute [local go_sem ↓] Go.wp_at_zero Go.wp_at_succ
def FreeP (c : LC) (y : PV) (E : List Ev) (er : Int) (p' : LPs) (w : World) (e : Ending) (w' : World) : Prop := ∃ va, e = .returned (.tuple #[va, .int .i64 er]) ∧ (OwnS w' 41 7 va E.length (cells E) ∧ ∀ k, va.ownBlock = some k → w.heap.size ≤ k) ∧ ∃ y', SLP w' c y' p' ∧ LTurn w w' y y' ∧ ∀ k, va.ownBlock = some k → ¬ lfoot y' k
theorem lfree_late (c : LC) (y : PV) (p : LPs) (below : Int) (w : World) (h : SLP w c y p) (hl : p.l.length ≤ 100000) (hq : p.q.length ≤ 100000) (hb : leastP p < below) : Calls Tryz.prog 34 #[.pointer (some ⟨y.g, 0, none⟩), .int .i64 below] w (FreeP c y [] 18 p w) := by
 have HLE : Hid (∀ W, Fresh w W → Calls Tryz.prog 20 #[.pointer (some ⟨y.g, 0, none⟩)] W fun e w' => e = .returned (.int .i64 (leastP p)) ∧ Fresh W w') := Lib.hid fun W f => lleast_any c y p W (h.fresh f) hl hq
 have H := Lib.hid h
 have HB := Lib.hid h.blk
 obtain ⟨L, hL⟩ : ∃ L, leastP p = L := ⟨_, rfl⟩
 rw [hL] at HLE hb
 have t1 : decide (L < below) = true := decide_eq_true hb
 clear hL h
 go_enter Tryz.func34, Tryz.ntmps34
 go_wp2_with fail
 obtain ⟨WA, hWA⟩ : ∃ WA, ((w.alloc (.cells #[.pointer (some ⟨y.g, 0, none⟩)] 31)).alloc (.cells #[.int .i64 below] 3)) = WA := ⟨_, rfl⟩
 have HB0 : Hid (Blk WA.drew w.heap.size 31 #[.pointer (some ⟨y.g, 0, none⟩)] ∧ Blk WA.drew (w.heap.size + 1) 3 #[.int .i64 below]) := Lib.hid (hWA ▸ ⟨((Blk.new w _ _).alloc _).drew, (Blk.at_new (by simp) _ _).drew⟩)
 have FA : Hid (Fresh w WA.drew) := Lib.hid (hWA ▸ (((Keep.refl _ w).alloc _).alloc _).drew)
 rw [hWA]
 clear hWA
 have y0 := fun (W' : World) (h : Blk W' w.heap.size 31 #[.pointer (some ⟨y.g, 0, none⟩)] ∧ Blk W' (w.heap.size + 1) 3 #[.int .i64 below]) (i : Nat) => h.1.cell i
 have y1 := fun (W' : World) (h : Blk W' w.heap.size 31 #[.pointer (some ⟨y.g, 0, none⟩)] ∧ Blk W' (w.heap.size + 1) 3 #[.int .i64 below]) (i : Nat) => h.2.cell i
 have y2 := fun (W' : World) (h : Blk W' w.heap.size 31 #[.pointer (some ⟨y.g, 0, none⟩)] ∧ Blk W' (w.heap.size + 1) 3 #[.int .i64 below]) => h.1.lt
 have y3 := fun (W' : World) (h : Blk W' w.heap.size 31 #[.pointer (some ⟨y.g, 0, none⟩)] ∧ Blk W' (w.heap.size + 1) 3 #[.int .i64 below]) => h.2.lt
 refine region_T (S := fun W' => Blk W' w.heap.size 31 #[.pointer (some ⟨y.g, 0, none⟩)] ∧ Blk W' (w.heap.size + 1) 3 #[.int .i64 below]) (T := []) (by kernel_rfl) ?_
 refine anyT_take (i := 0) (oi := _) (v := ?va0) rfl (by kernel_rfl) (by kernel_rfl) (by kernel_rfl) (by kernel_rfl) (fun _ _ _ h => h) (Or.inl ⟨by rfl, ?hya0⟩) HB0.out ?resta0
 case hya0 => (intro W hSw; go_simp; try with_reducible rfl)
 try simp only [List.getElem_toArray, List.getElem_cons_zero, Act.put, List.setIfInBounds_toArray, List.set_cons_zero, List.set_cons_succ]
 refine anyT_take (i := 1) (oi := _) (v := ?va1) rfl (by kernel_rfl) (by kernel_rfl) (by kernel_rfl) (by kernel_rfl) (fun _ _ _ h => h) (Or.inl ⟨by rfl, ?hya1⟩) HB0.out ?resta1
 case hya1 => (intro W hSw; go_simp; try with_reducible rfl)
 try simp only [List.getElem_toArray, List.getElem_cons_zero, List.getElem_cons_succ, Act.put, List.setIfInBounds_toArray, List.set_cons_zero, List.set_cons_succ]
 refine anyT_one' (i := 2) (by kernel_rfl) rfl (by rfl) (fun KQ hK => ?_)
 go_simp
 go_at_call 20
 (with_reducible refine (HLE.out _ FA.out).mono ?_)
 rintro e w3 ⟨rfl, f3⟩
 have HB3 : Hid (Blk w3 w.heap.size 31 #[.pointer (some ⟨y.g, 0, none⟩)] ∧ Blk w3 (w.heap.size + 1) 3 #[.int .i64 below]) := Lib.hid ⟨f3.blk_ HB0.out.1, f3.blk_ HB0.out.2⟩
 have F3 : Hid (Fresh w w3) := Lib.hid (FA.out.step f3 (fun _ _ h => h))
 clear f3
 refine hK.out _ _ HB3.out ?_
 clear hK KQ
 try simp only [List.getElem_toArray, List.getElem_cons_zero, List.getElem_cons_succ, Act.put, List.setIfInBounds_toArray, List.set_cons_zero, List.set_cons_succ]
 refine anyT_take (i := 3) (oi := _) (v := ?va3) rfl (by kernel_rfl) (by kernel_rfl) (by kernel_rfl) (by kernel_rfl) (fun _ _ _ h => h) (Or.inl ⟨by rfl, ?hya3⟩) HB3.out ?resta3
 case hya3 => (intro W hSw; go_simp; try with_reducible rfl)
 try simp only [List.getElem_toArray, List.getElem_cons_zero, List.getElem_cons_succ, Act.put, List.setIfInBounds_toArray, List.set_cons_zero, List.set_cons_succ]
 refine anyT_done (by kernel_rfl) ?_
 clear y0 y1 y2 y3
 go_wp2_with fail
 go_returns
 exact ⟨_, rfl, ⟨OwnS.nil _ _ _, fun k hk => by simp [Value.ownBlock] at hk⟩, y, H.out.fresh F3.out, LTurn.fresh F3.out, fun k hk => by simp [Value.ownBlock] at hk⟩
theorem lfree_none (c : LC) (y : PV) (p : LPs) (below : Int) (w : World) (h : SLP w c y p) (hl : p.l.length ≤ 100000) (hq : p.q.length ≤ 100000) (hb : ¬ leastP p < below) (hf : below ≤ p.freed) : Calls Tryz.prog 34 #[.pointer (some ⟨y.g, 0, none⟩), .int .i64 below] w (FreeP c y [] 0 p w) := by
 have HLE : Hid (∀ W, Fresh w W → Calls Tryz.prog 20 #[.pointer (some ⟨y.g, 0, none⟩)] W fun e w' => e = .returned (.int .i64 (leastP p)) ∧ Fresh W w') := Lib.hid fun W f => lleast_any c y p W (h.fresh f) hl hq
 have H := Lib.hid h
 have HB := Lib.hid h.blk
 obtain ⟨L, hL⟩ : ∃ L, leastP p = L := ⟨_, rfl⟩
 rw [hL] at HLE hb
 have t1 : decide (L < below) = false := decide_eq_false hb
 have t2 : decide (below ≤ p.freed) = true := decide_eq_true hf
 clear hL h
 go_enter Tryz.func34, Tryz.ntmps34
 go_wp2_with fail
 obtain ⟨WA, hWA⟩ : ∃ WA, ((w.alloc (.cells #[.pointer (some ⟨y.g, 0, none⟩)] 31)).alloc (.cells #[.int .i64 below] 3)) = WA := ⟨_, rfl⟩
 have HB0 : Hid (Blk WA.drew w.heap.size 31 #[.pointer (some ⟨y.g, 0, none⟩)] ∧ Blk WA.drew (w.heap.size + 1) 3 #[.int .i64 below]) := Lib.hid (hWA ▸ ⟨((Blk.new w _ _).alloc _).drew, (Blk.at_new (by simp) _ _).drew⟩)
 have FA : Hid (Fresh w WA.drew) := Lib.hid (hWA ▸ (((Keep.refl _ w).alloc _).alloc _).drew)
 rw [hWA]
 clear hWA
 have y0 := fun (W' : World) (h : Blk W' w.heap.size 31 #[.pointer (some ⟨y.g, 0, none⟩)] ∧ Blk W' (w.heap.size + 1) 3 #[.int .i64 below]) (i : Nat) => h.1.cell i
 have y1 := fun (W' : World) (h : Blk W' w.heap.size 31 #[.pointer (some ⟨y.g, 0, none⟩)] ∧ Blk W' (w.heap.size + 1) 3 #[.int .i64 below]) (i : Nat) => h.2.cell i
 have y2 := fun (W' : World) (h : Blk W' w.heap.size 31 #[.pointer (some ⟨y.g, 0, none⟩)] ∧ Blk W' (w.heap.size + 1) 3 #[.int .i64 below]) => h.1.lt
 have y3 := fun (W' : World) (h : Blk W' w.heap.size 31 #[.pointer (some ⟨y.g, 0, none⟩)] ∧ Blk W' (w.heap.size + 1) 3 #[.int .i64 below]) => h.2.lt
 refine region_T (S := fun W' => Blk W' w.heap.size 31 #[.pointer (some ⟨y.g, 0, none⟩)] ∧ Blk W' (w.heap.size + 1) 3 #[.int .i64 below]) (T := []) (by kernel_rfl) ?_
 refine anyT_take (i := 0) (oi := _) (v := ?vb0) rfl (by kernel_rfl) (by kernel_rfl) (by kernel_rfl) (by kernel_rfl) (fun _ _ _ h => h) (Or.inl ⟨by rfl, ?hyb0⟩) HB0.out ?restb0
 case hyb0 => (intro W hSw; go_simp; try with_reducible rfl)
 try simp only [List.getElem_toArray, List.getElem_cons_zero, Act.put, List.setIfInBounds_toArray, List.set_cons_zero, List.set_cons_succ]
 refine anyT_take (i := 1) (oi := _) (v := ?vb1) rfl (by kernel_rfl) (by kernel_rfl) (by kernel_rfl) (by kernel_rfl) (fun _ _ _ h => h) (Or.inl ⟨by rfl, ?hyb1⟩) HB0.out ?restb1
 case hyb1 => (intro W hSw; go_simp; try with_reducible rfl)
 try simp only [List.getElem_toArray, List.getElem_cons_zero, List.getElem_cons_succ, Act.put, List.setIfInBounds_toArray, List.set_cons_zero, List.set_cons_succ]
 refine anyT_one' (i := 2) (by kernel_rfl) rfl (by rfl) (fun KQ hK => ?_)
 go_simp
 go_at_call 20
 (with_reducible refine (HLE.out _ FA.out).mono ?_)
 rintro e w3 ⟨rfl, f3⟩
 have HB3 : Hid (Blk w3 w.heap.size 31 #[.pointer (some ⟨y.g, 0, none⟩)] ∧ Blk w3 (w.heap.size + 1) 3 #[.int .i64 below]) := Lib.hid ⟨f3.blk_ HB0.out.1, f3.blk_ HB0.out.2⟩
 have F3 : Hid (Fresh w w3) := Lib.hid (FA.out.step f3 (fun _ _ h => h))
 clear f3
 refine hK.out _ _ HB3.out ?_
 clear hK KQ
 try simp only [List.getElem_toArray, List.getElem_cons_zero, List.getElem_cons_succ, Act.put, List.setIfInBounds_toArray, List.set_cons_zero, List.set_cons_succ]
 refine anyT_take (i := 3) (oi := _) (v := ?vb3) rfl (by kernel_rfl) (by kernel_rfl) (by kernel_rfl) (by kernel_rfl) (fun _ _ _ h => h) (Or.inl ⟨by rfl, ?hyb3⟩) HB3.out ?restb3
 case hyb3 => (intro W hSw; go_simp; try with_reducible rfl)
 try simp only [List.getElem_toArray, List.getElem_cons_zero, List.getElem_cons_succ, Act.put, List.setIfInBounds_toArray, List.set_cons_zero, List.set_cons_succ]
 refine anyT_done (by kernel_rfl) ?_
 clear y0 y1 y2 y3
 have c3 := HB3.out.1.cell
 have d3 := HB3.out.2.cell
 have l3 := HB3.out.1.lt
 have m3 := HB3.out.2.lt
 have bl3 := F3.out.blk_ HB.out
 have e3 := fun i => (bl3.cell i).trans (lcells_at c y p i)
 have g3 := bl3.lt
 clear bl3
 go_wp2_with fail
 go_quiet (fail)
 go_wp2
 go_returns
 exact ⟨_, rfl, ⟨OwnS.nil _ _ _, fun k hk => by simp [Value.ownBlock] at hk⟩, y, H.out.fresh (F3.out.drewN _), LTurn.fresh (F3.out.drewN _), fun k hk => by simp [Value.ownBlock] at hk⟩
end Go.Proofs.YthbcdkeammhakaaGreat
namespace Go.Proofs.YthbcdkeammhakaaGreat
open Go.RowKit Go.Shelf
attribute [local go_sem] Oper.semAt_some
attribute [local go_sem ↓] Go.wp_at_zero Go.wp_at_succ
def frB (p : LPs) (below : Int) (e : Ev) : Bool := decide (p.freed ≤ e.a) && decide (e.a < below)
structure FrI (c : LC) (y : PV) (p : LPs) (below : Int) (w : World) (gl B : Nat) (pre : List Ev) (W : World) : Prop where
 l : ∃ v, Blk W gl 24 #[v] ∧ OwnS W 41 7 v (pre.filter (frB p below)).length (cells (pre.filter (frB p below))) ∧ ∀ k, v.ownBlock = some k → B ≤ k
 b0 : Blk W w.heap.size 31 #[.pointer (some ⟨y.g, 0, none⟩)]
 b1 : Blk W (w.heap.size + 1) 3 #[.int .i64 below]
 b2 : Blk W y.g 103 (lcells c y p)
 f : Fresh w W
 sz : B ≤ W.heap.size
theorem FrI.own {c : LC} {y : PV} {p : LPs} {below : Int} {w X Y : World} {gl B B' : Nat} {row : Option Nat} {pre : List Ev} (hB : w.heap.size ≤ B') (h : FrI c y p below w gl B pre X) (hg : X.grownBy Y row) (hr : ∀ r, row = some r → B' ≤ r ∧ ∃ o : Obj, X.heap[r]? = some o ∧ o.isCells = false) : FrI c y p below w gl B pre Y := by
 obtain ⟨⟨v, h1, h2, h3⟩, h4, h5, h6, h7, h8⟩ := h
 have hr' : ∀ r, row = some r → ∃ o : Obj, X.heap[r]? = some o ∧ o.isCells = false := fun r e => (hr r e).2
 exact ⟨⟨v, blk_grown h1 hg hr', ownS_grown h2 hg hr', h3⟩, blk_grown h4 hg hr', blk_grown h5 hg hr', blk_grown h6 hg hr', ownFrom_fresh (β := Unit) hB () X Y row h7 hg hr, Nat.le_trans h8 hg.size⟩
theorem rfree_any (g : Nat) (v : Value) (sv : List (Int × St)) (below : Int) (w : World) (h : RS.SRow w g v sv) (hl : sv.length ≤ 100000) : Calls Tryz.prog 61 #[.pointer (some ⟨g, 0, none⟩), .int .i64 below] w fun e w' => (∃ r, e = .returned r) ∧ ∃ v', RS.SRow w' g v' (freeSv sv below) ∧ Keep (RS.foot g v) w w' ∧ RS.Later w v v' := by
 unfold freeSv
 by_cases hu : RS.upTo sv below < 2
 ·rw [if_pos hu]
  refine (RS.free_few g v sv below w h hu).mono ?_
  rintro e w' ⟨rfl, rfl⟩
  exact ⟨⟨_, rfl⟩, v, h, Keep.refl _ _, fun k hk => .inl hk⟩
 ·rw [if_neg hu]
  refine (RS.free_any g v sv below w h (by omega) hl).mono ?_
  rintro e w' ⟨rfl, v', h1, h2, h3⟩
  exact ⟨⟨_, rfl⟩, v', h1, h2, h3⟩
theorem SLP.grown {X Y : World} {row : Option Nat} {c : LC} {y : PV} {p : LPs} (h : SLP X c y p) (hg : X.grownBy Y row) (hr : ∀ r, row = some r → ∃ o : Obj, X.heap[r]? = some o ∧ o.isCells = false) : SLP Y c y p :=
 ⟨blk_grown h.blk hg hr, h.sq.grown hg hr, h.oq.grown hg hr, ⟨blk_grown h.sr.blk hg hr, ownS_grown h.sr.own hg hr⟩⟩
theorem LTurn.grown {w X Y : World} {row : Option Nat} {y y' : PV} (h : LTurn w X y y') (hg : X.grownBy Y row) (hr : ∀ r, row = some r → w.heap.size ≤ r) : LTurn w Y y y' :=
 ⟨⟨hg.os.trans h.keep.os, hg.tape.trans h.keep.tape, hg.output.trans h.keep.output, Nat.le_trans h.keep.size hg.size, fun k hk hs =>
  (hg.block k (Nat.lt_of_lt_of_le hk h.keep.size) (fun e => by have := hr k e.symm; omega)).trans (h.keep.block k hk hs)⟩, h.g, h.q, h.o, h.r, h.later⟩
theorem SLP.cells_ {w : World} {c : LC} {y : PV} {p : LPs} (h : SLP w c y p) : ∀ k (o : Obj), lfoot y k → w.heap[k]? = some o → o.isCells = true := by
 rintro k o (rfl | (rfl | hf | hf) | (rfl | hf) | (rfl | hf)) ho
 ·exact blk_isCells h.blk ho
 ·exact blk_isCells h.sq.blk ho
 ·exact own_isCells h.sq.own1 hf ho
 ·exact own_isCells h.sq.own2 hf ho
 ·exact blk_isCells h.oq.blk ho
 ·exact own_isCells h.oq.own hf ho
 ·exact blk_isCells h.sr.blk ho
 ·exact own_isCells h.sr.own hf ho
structure FrJ (c : LC) (y0 : PV) (below : Int) (w : World) (gl B : Nat) (v : Value) (E : List Ev) (D : Nat) (y : PV) (p : LPs) (W : World) : Prop where
 s : SLP W c y p
 b0 : Blk W w.heap.size 31 #[.pointer (some ⟨y0.g, 0, none⟩)]
 b1 : Blk W (w.heap.size + 1) 3 #[.int .i64 below]
 b3 : Blk W gl 24 #[v]
 o : OwnS W 41 7 v E.length (cells E)
 n : ∀ k, v.ownBlock = some k → B ≤ k
 x : ∀ k, v.ownBlock = some k → ¬ lfoot y k
 d : W.heap[D]? = some (.deferred (some []))
 dx : ¬ lfoot y D
 t : LTurn w W y0 y
section
variable {c : LC} {y0 y y' : PV} {below : Int} {w W W' : World} {gl B D : Nat} {v : Value} {E : List Ev} {p p' : LPs}
theorem FrJ.turn (h : FrJ c y0 below w gl B v E D y p W) (s : SLP W' c y' p') (t : LTurn W W' y y') : FrJ c y0 below w gl B v E D y' p' W' := by
 have hD := (Array.getElem?_eq_some_iff.1 h.d).1
 refine ⟨s, h.s.blk_turn t h.b0 (by decide), h.s.blk_turn t h.b1 (by decide), h.s.blk_turn t h.b3 (by decide), h.o.kept t.keep h.x, h.n, fun k hk hf => ?_, (t.keep.block D hD h.dx).trans h.d, fun hf => ?_, h.t.two t⟩
 ·rcases t.later k hf with h1 | h1
  ·exact h.x k hk h1
  ·have := h.o.lt hk; omega
 ·rcases t.later D hf with h1 | h1
  ·exact h.dx h1
  ·omega
theorem FrJ.fresh (h : FrJ c y0 below w gl B v E D y p W) (f : Fresh W W') : FrJ c y0 below w gl B v E D y p W' := h.turn (h.s.fresh f) (LTurn.fresh f)
end
theorem lfree_go (c : LC) (y : PV) (p : LPs) (below : Int) (w : World) (h : SLP w c y p) (hl : p.l.length ≤ 100000) (hq : p.q.length ≤ 100000) (hs0 : 0 < p.sv.length) (hs : p.sv.length ≤ 100000) (hb : ¬ leastP p < below) (hf : ¬ below ≤ p.freed) (hi : (freeT (freeSv p.sv below)) < 9000000000000000000) (hi' : -9000000000000000000 < freeT (freeSv p.sv below)) : Calls Tryz.prog 34 #[.pointer (some ⟨y.g, 0, none⟩), .int .i64 below] w (FreeP c y (p.l.filter (frB p below)) 0 (freeLp p below) w) := by
 have HLE : Hid (∀ W, Fresh w W → Calls Tryz.prog 20 #[.pointer (some ⟨y.g, 0, none⟩)] W fun e w' => e = .returned (.int .i64 (leastP p)) ∧ Fresh W w') := Lib.hid fun W f => lleast_any c y p W (h.fresh f) hl hq
 have HEV : Hid (∀ W, Fresh w W → Calls Tryz.prog 41 #[.pointer (some ⟨y.g, 0, none⟩)] W (SeqP p.l W)) := Lib.hid fun W f => levents_any c y p W (h.fresh f) hl
 have H := Lib.hid h
 have HB := Lib.hid h.blk
 have HFR := Lib.hid hf
 obtain ⟨L, hL⟩ : ∃ L, leastP p = L := ⟨_, rfl⟩
 rw [hL] at HLE hb
 have t1 : decide (L < below) = false := decide_eq_false hb
 have t2 : decide (below ≤ p.freed) = false := decide_eq_false hf
 clear hL h hf hb
 refine (callsIn_wide (n := 6)).1 ?_
 refine callsIn_of_wp_marks Tryz.func34 rfl trivial ?_ rfl
 simp only [Tryz.ntmps34, List.size_toArray, List.length_cons, List.length_nil, Nat.reduceAdd, Nat.reduceSub, Array.replicate_succ, Array.replicate_zero, List.push_toArray, List.append_toArray, List.nil_append, List.cons_append]
 refine wpIn_wide.2 ?_
 go_wp2_with fail
 obtain ⟨WA, hWA⟩ : ∃ WA, ((w.alloc (.cells #[.pointer (some ⟨y.g, 0, none⟩)] 31)).alloc (.cells #[.int .i64 below] 3)) = WA := ⟨_, rfl⟩
 have HB0 : Hid (Blk WA.drew w.heap.size 31 #[.pointer (some ⟨y.g, 0, none⟩)] ∧ Blk WA.drew (w.heap.size + 1) 3 #[.int .i64 below]) := Lib.hid (hWA ▸ ⟨((Blk.new w _ _).alloc _).drew, (Blk.at_new (by simp) _ _).drew⟩)
 have FA : Hid (Fresh w WA.drew) := Lib.hid (hWA ▸ (((Keep.refl _ w).alloc _).alloc _).drew)
 have LA : Hid (WA.heap.size = w.heap.size + 2) := Lib.hid (hWA ▸ by simp)
 rw [hWA]
 clear hWA
 have y0 := fun (W' : World) (h : Blk W' w.heap.size 31 #[.pointer (some ⟨y.g, 0, none⟩)] ∧ Blk W' (w.heap.size + 1) 3 #[.int .i64 below]) (i : Nat) => h.1.cell i
 have y1 := fun (W' : World) (h : Blk W' w.heap.size 31 #[.pointer (some ⟨y.g, 0, none⟩)] ∧ Blk W' (w.heap.size + 1) 3 #[.int .i64 below]) (i : Nat) => h.2.cell i
 have y2 := fun (W' : World) (h : Blk W' w.heap.size 31 #[.pointer (some ⟨y.g, 0, none⟩)] ∧ Blk W' (w.heap.size + 1) 3 #[.int .i64 below]) => h.1.lt
 have y3 := fun (W' : World) (h : Blk W' w.heap.size 31 #[.pointer (some ⟨y.g, 0, none⟩)] ∧ Blk W' (w.heap.size + 1) 3 #[.int .i64 below]) => h.2.lt
 rename_i K0 hK0
 refine Code.wp_mono (Q := normOnly K0) (fun e a w h => by cases e <;> first | exact h | exact h.elim) ?_
 refine region_T (S := fun W' => Blk W' w.heap.size 31 #[.pointer (some ⟨y.g, 0, none⟩)] ∧ Blk W' (w.heap.size + 1) 3 #[.int .i64 below]) (T := []) (by kernel_rfl) ?_
 refine anyT_take (i := 0) (oi := _) (v := ?vc0) rfl (by kernel_rfl) (by kernel_rfl) (by kernel_rfl) (by kernel_rfl) (fun _ _ _ h => h) (Or.inl ⟨by rfl, ?hyc0⟩) HB0.out ?restc0
 case hyc0 => (intro W hSw; go_simp; try with_reducible rfl)
 try simp only [List.getElem_toArray, List.getElem_cons_zero, Act.put, List.setIfInBounds_toArray, List.set_cons_zero, List.set_cons_succ]
 refine anyT_take (i := 1) (oi := _) (v := ?vc1) rfl (by kernel_rfl) (by kernel_rfl) (by kernel_rfl) (by kernel_rfl) (fun _ _ _ h => h) (Or.inl ⟨by rfl, ?hyc1⟩) HB0.out ?restc1
 case hyc1 => (intro W hSw; go_simp; try with_reducible rfl)
 try simp only [List.getElem_toArray, List.getElem_cons_zero, List.getElem_cons_succ, Act.put, List.setIfInBounds_toArray, List.set_cons_zero, List.set_cons_succ]
 refine anyT_one' (i := 2) (by kernel_rfl) rfl (by rfl) (fun KQ hK => ?_)
 go_simp
 go_at_call 20
 (with_reducible refine (HLE.out _ FA.out).mono ?_)
 rintro e w3 ⟨rfl, f3⟩
 have HB3 : Hid (Blk w3 w.heap.size 31 #[.pointer (some ⟨y.g, 0, none⟩)] ∧ Blk w3 (w.heap.size + 1) 3 #[.int .i64 below]) := Lib.hid ⟨f3.blk_ HB0.out.1, f3.blk_ HB0.out.2⟩
 have F3 : Hid (Fresh w w3) := Lib.hid (FA.out.step f3 (fun _ _ h => h))
 clear f3
 refine hK.out _ _ HB3.out ?_
 clear hK KQ
 try simp only [List.getElem_toArray, List.getElem_cons_zero, List.getElem_cons_succ, Act.put, List.setIfInBounds_toArray, List.set_cons_zero, List.set_cons_succ]
 refine anyT_take (i := 3) (oi := _) (v := ?vc3) rfl (by kernel_rfl) (by kernel_rfl) (by kernel_rfl) (by kernel_rfl) (fun _ _ _ h => h) (Or.inl ⟨by rfl, ?hyc3⟩) HB3.out ?restc3
 case hyc3 => (intro W hSw; go_simp; try with_reducible rfl)
 try simp only [List.getElem_toArray, List.getElem_cons_zero, List.getElem_cons_succ, Act.put, List.setIfInBounds_toArray, List.set_cons_zero, List.set_cons_succ]
 refine anyT_done (by kernel_rfl) ?_
 refine hK0 _ _ ?_
 clear y0 y1 y2 y3 hK0
 have c3 := HB3.out.1.cell
 have d3 := HB3.out.2.cell
 have l3 := HB3.out.1.lt
 have m3 := HB3.out.2.lt
 have bl3 := F3.out.blk_ HB.out
 have e3 := fun i => (bl3.cell i).trans (lcells_at c y p i)
 have g3 := bl3.lt
 clear bl3
 go_wp2_with fail
 go_quiet (fail)
 rename Nat => n3
 obtain ⟨W3, hW3⟩ : ∃ W3, w3.drewN n3 = W3 := ⟨_, rfl⟩
 have G1 : Hid (Blk W3 w.heap.size 31 #[.pointer (some ⟨y.g, 0, none⟩)]) := Lib.hid (hW3 ▸ HB3.out.1.drewN n3)
 have G2 : Hid (Blk W3 (w.heap.size + 1) 3 #[.int .i64 below]) := Lib.hid (hW3 ▸ HB3.out.2.drewN n3)
 have G3 : Hid (Fresh w W3) := Lib.hid (hW3 ▸ F3.out.drewN n3)
 have G4 : Hid (Blk W3 y.g 103 (lcells c y p)) := Lib.hid (G3.out.blk_ HB.out)
 rw [hW3]
 clear hW3 c3 d3 l3 m3 e3 g3 HB3 F3
 have c3 := G1.out.cell
 have l3 := G1.out.lt
 go_wp2_with (go_at_call 41; (with_reducible refine (HEV.out _ (G3.out.alloc _)).mono ?_); rintro e w4 ⟨b4, v4, rfl, k4, o4, f4⟩)
 obtain ⟨gl, hgl⟩ : ∃ gl, W3.heap.size = gl := ⟨_, rfl⟩
 have hsz0 : w.heap.size + 2 ≤ gl := by
  have h1 := G3.out.size
  have h2 := G2.out.lt
  omega
 have hsy : y.g < w.heap.size := HB.out.lt
 have M4 : Blk w4 gl 24 #[.slice none 0 0] := hgl ▸ f4.blk_ (Blk.new W3 _ _)
 have FI : Hid (FrI c y p below w gl w4.heap.size [] w4) := Lib.hid ⟨⟨_, M4, OwnS.nil _ _ _, fun k hk => by simp [Value.ownBlock] at hk⟩, f4.blk_ (G1.out.alloc _), f4.blk_ (G2.out.alloc _), f4.blk_ (G4.out.alloc _), (G3.out.alloc _).step f4 (fun _ _ h => h), Nat.le_refl _⟩
 have hszl : gl < w4.heap.size := M4.lt
 have hbk : bk v4 < w4.heap.size := by
  unfold bk
  cases hv : v4.ownBlock with
  | none => simp; omega
  | some k => simpa using o4.lt hv
 have HNL : Hid (∀ i, w4.heap.size ≤ i → v4.ownBlock ≠ some i) := Lib.hid fun i hi he => by have := o4.lt he; omega
 rw [hgl]
 simp only [seqV]
 have KB := Lib.hid k4
 have KO := Lib.hid o4
 clear k4 o4 f4 M4 G1 G2 G3 G4 c3 l3 hgl HEV HLE
 obtain ⟨i0, hi9, hz0, hz1, hz2⟩ := info_parts info_ev
 refine (wpIn_wide (n := 6)).1 ?_
 refine wpIn_rangeFunc_ownH rfl (by omega) (gf := 143) (lb := #[.pointer (some ⟨b4, 0, none⟩)]) rfl trivial (enters_of Tryz.func143 (by kernel_rfl) rfl)
  (vals_stops Fence.wide (6 - 1) trivial rfl (by omega) b4 v4 p.l (by omega) w4 KB.out KO.out) keepsB_t keepsB_b (Below.refl _ _) (fun _ => rfl)
  (FrI c y p below w gl w4.heap.size) (fun _ _ _ => False) ?own (fun _ _ _ _ _ hs _ _ => hs) FI.out
  (fun e a' W => ∃ Bx, Blk W Bx 41 #[.int .i64 e.a, .int .i64 e.s, .int .i64 e.t, .int .i64 e.n, .int .i64 e.d, .int .i64 e.k, .int .i64 e.x] ∧ a' = { tmps := #[.pointer (some ⟨y.g, 0, none⟩), .int .i64 below, .pointer (some ⟨w.heap.size, 0, none⟩), .pointer (some ⟨w.heap.size + 1, 0, none⟩), .slice none 0 0, .int .i64 0, .pointer (some ⟨gl, 0, none⟩), .pointer (some ⟨Bx, 0, none⟩), undef, .pointer (some ⟨y.g, 0, none⟩), .bool false, .int .i64 below, .pointer (some ⟨y.g, 0, none⟩), .int .i64 L, .bool false, .int .i64 below, .pointer (some ⟨y.g, 0, none⟩), .pointer (some ⟨y.g, 0, none⟩), .pointer (some ⟨y.g, 13, none⟩), .int .i64 p.freed, .bool false, .pointer (some ⟨y.g, 0, none⟩), .func (.func 143) #[] #[.pointer (some ⟨b4, 0, none⟩)], .agg #[.int .i64 e.a, .int .i64 e.s, .int .i64 e.t, .int .i64 e.n, .int .i64 e.d, .int .i64 e.k, .int .i64 e.x], undef, undef, undef, undef, undef, undef, undef, undef, undef, undef, undef, undef, undef, undef, undef, undef, undef, undef, undef, undef, undef, undef, undef, undef, undef, undef, undef, undef, undef, undef, undef, undef, undef, undef, undef, undef, undef, undef, undef, undef, undef, undef, undef, undef, undef, undef, undef, undef, undef, undef], defers := [] }) ?ax ?assign ?body ?done ?stop
 case own =>
  intro pre X Y row hs hg hr
  exact hs.own (by omega) hg hr
 case ax =>
  rintro x a' u X Y row ⟨Bx, h2, h3⟩ hg hr
  exact ⟨Bx, blk_grown h2 hg (fun r e => (hr r e).2), h3⟩
 case assign =>
  rintro lp pre e W K hI hK
  unfold enc Ev.val
  gi_wp2
  refine hK _ _ ((KeepsOthers.alloc _ _).from _) ((KeepsB.refl _ _ _).alloc _) ?_ ⟨W.heap.size, Blk.new W _ _, rfl⟩
  obtain ⟨⟨v, h1, h2, h3⟩, h4, h5, h6, h7, h8⟩ := hI
  exact ⟨⟨v, h1.alloc _, h2.alloc _, h3⟩, h4.alloc _, h5.alloc _, h6.alloc _, h7.alloc _, by simp; omega⟩
 case body =>
  rintro lp pre e a' W hlp hrec ⟨⟨v, b2, o2, n2⟩, e0, e1, e2, f2, s2⟩ ⟨Bx, bx, rfl⟩ hlt
  have hfl : (pre.filter (frB p below)).length ≤ pre.length := List.length_filter_le _ _
  have hL1 := Lib.hid (show (pre.filter (frB p below)).length + 1 ≤ maxLen from one_le_maxLen (by omega))
  have hL2 := Lib.hid (show ((pre.filter (frB p below)).length + 1) * 56 ≤ 140737488355328 by omega)
  have HFL := Lib.hid (filt_snoc (frB p below) pre e)
  have HFB : Hid (frB p below e = (decide (p.freed ≤ e.a) && decide (e.a < below))) := Lib.hid rfl
  obtain ⟨P, hP⟩ : ∃ P, pre.filter (frB p below) = P := ⟨_, rfl⟩
  rw [hP] at o2 hL1 hL2 HFL
  have U1 := Lib.hid b2
  have U2 := Lib.hid o2
  have U3 := Lib.hid n2
  have U4 := Lib.hid f2
  have U6 := Lib.hid e0
  have U7 := Lib.hid e1
  have U8 := Lib.hid e2
  have U9 := Lib.hid s2
  have UX := Lib.hid bx
  have h07 : Hid (0 < 7) := Lib.hid (by omega)
  have cX := bx.cell
  have lX := bx.lt
  have c0 := e0.cell
  have l0 := e0.lt
  have c1 := e1.cell
  have l1 := e1.lt
  have c2 := fun i => (e2.cell i).trans (lcells_at c y p i)
  have l2 := e2.lt
  clear hP hfl b2 o2 n2 f2 e0 e1 e2 s2 bx hrec hlt
  have END : Hid (frB p below e = false → ∀ WQ, Fresh W WQ → KeepsFrom w4.heap.size W WQ ∧ KeepsB (bk v4) 41 W WQ ∧ FrI c y p below w gl w4.heap.size (pre ++ [e]) WQ) := Lib.hid (fun hq WQ hf => by
   rw [hq] at HFL
   refine ⟨(keepsOthers_of_keep (S := fun _ => False) hf (fun _ _ h => h.elim)).from _, KeepsB.of_keep' (S := fun _ => False) hf (fun _ _ h => h), ⟨v, hf.blk_ U1.out, ?_, U3.out⟩, hf.blk_ U6.out, hf.blk_ U7.out, hf.blk_ U8.out, U4.out.step hf (fun _ _ h => h), Nat.le_trans U9.out hf.size⟩
   rw [HFL.out]
   simpa using U2.out.fresh hf)
  cases hq1 : decide (p.freed ≤ e.a)
  ·have HE1 := Lib.hid (END.out (by rw [HFB.out, hq1]; rfl))
   clear END
   gi_wp2_with fail
   (refine wpIn_region_round (by kernel_rfl) (by kernel_rfl) (by kernel_rfl) ?_; (repeat (gi_big_quiet_step (fail))); refine wpQuietIn_nil ?_; rintro _ ⟨nq, rfl⟩)
   gi_wp2_with fail
   exact HE1.out _ ((Keep.refl _ W).drewN nq)
  ·cases hq2 : decide (e.a < below)
   ·have HE1 := Lib.hid (END.out (by rw [HFB.out, hq1, hq2]; rfl))
    clear END
    gi_wp2_with fail
    (refine wpIn_region_round (by kernel_rfl) (by kernel_rfl) (by kernel_rfl) ?_; (repeat (gi_big_quiet_step (fail))); refine wpQuietIn_nil ?_; rintro _ ⟨nq, rfl⟩)
    gi_wp2_with fail
    exact HE1.out _ ((Keep.refl _ W).drewN nq)
   ·clear END
    have HFL : Hid (List.filter (frB p below) (pre ++ [e]) = P ++ [e]) := Lib.hid (by
     rw [HFL.out, HFB.out, hq1, hq2]
     rfl)
    obtain ⟨A2, cap2, rfl, _, _⟩ := U2.out.shape
    gi_wp2_with fail
    (refine wpIn_region_round (by kernel_rfl) (by kernel_rfl) (by kernel_rfl) ?_; (repeat (gi_big_quiet_step (fail))); refine wpQuietIn_nil ?_; rintro _ ⟨nq, rfl⟩)
    obtain ⟨WQ, hWQ⟩ : ∃ WQ, W.drewN nq = WQ := ⟨_, rfl⟩
    have FQ : Hid (Fresh W WQ) := Lib.hid (hWQ ▸ (Keep.refl _ W).drewN nq)
    have Q1 := Lib.hid (FQ.out.blk_ U1.out)
    have Q2 := Lib.hid (U2.out.fresh FQ.out)
    have bx := FQ.out.blk_ UX.out
    rw [hWQ]
    clear hWQ c0 l0 c1 l1 c2 l2 cX lX
    have cX := bx.cell
    have lX := bx.lt
    have c2 := Q1.out.cell
    have r2 := Q1.out.frozen
    have l2 := Q1.out.lt
    have HC : Hid (Src (WQ.alloc (.cells #[.int .i64 e.a, .int .i64 e.s, .int .i64 e.t, .int .i64 e.n, .int .i64 e.d, .int .i64 e.k, .int .i64 e.x] 41)) 7 (.slice (some ⟨WQ.heap.size, 0, none⟩) 1 1) 1 (cells [e])) := Lib.hid (Src.one_new WQ 41 7 #[.int .i64 e.a, .int .i64 e.s, .int .i64 e.t, .int .i64 e.n, .int .i64 e.d, .int .i64 e.k, .int .i64 e.x] rfl)
    clear bx
    gi_wp2_with (gi_at_builtin; refine wpListIn_append_OwnS _ rfl _ _ 24 rfl 41 i0 _ 7 56 Tryz.underlying24 hi9 hz0 hz1 hz2 rfl h07.out (.slice A2 P.length cap2) P.length (cells P) rfl (Q2.out.alloc _) (.slice (some ⟨WQ.heap.size, 0, none⟩) 1 1) 1 (cells [e]) rfl HC.out (cells_one _) hL1.out hL2.out ?_; intro v3 w3 o3 k3 n3; obtain ⟨A3, cap3, rfl, _, _⟩ := o3.shape; have b3 := (Q1.out.alloc (.cells #[.int .i64 e.a, .int .i64 e.s, .int .i64 e.t, .int .i64 e.n, .int .i64 e.d, .int .i64 e.k, .int .i64 e.x] 41)).keep k3 (Q2.out.ne_blk Q1.out (by decide)); have c3 := b3.cell; have r3 := b3.frozen; have l3 := b3.lt; have V1 := Lib.hid b3; have V2 := Lib.hid o3; have V3 := Lib.hid k3; have V4 := Lib.hid n3; clear b3 o3 k3 n3)
    have K1 : Hid (Keep (fun k => k = gl ∨ (Value.slice A2 P.length cap2).ownBlock = some k) W (w3.setCell ⟨gl, 0, none⟩ (.slice A3 (P.length + 1) cap3))) := Lib.hid
     ((((FQ.out.more (fun _ _ h => h.elim)).alloc _).step V3.out (fun _ _ h => .inr h)).setCell (p := ⟨gl, 0, none⟩) (fun _ => .inl rfl) _)
    have hsW := U4.out.size
    refine ⟨(keepsOthers_of_keep K1.out ?_).from _, KeepsB.of_keep' K1.out ?_, ⟨.slice A3 (P.length + 1) cap3, V1.out.set_ 0 _, ?_, ?_⟩, U6.out.keep K1.out ?_, U7.out.keep K1.out ?_, U8.out.keep K1.out ?_, U4.out.step K1.out ?_, Nat.le_trans U9.out K1.out.size⟩
    ·rintro k o (rfl | hk) ho
     ·exact blk_isCells U1.out ho
     ·exact own_isCells U2.out hk ho
    ·rintro cur hcur (h | h)
     ·rw [h] at hcur
      have := U1.out
      unfold Blk at this
      rw [this] at hcur
      cases hcur
     ·have := U3.out _ h; omega
    ·have := V2.out.far (p := ⟨gl, 0, none⟩) (V2.out.ne_blk V1.out (by decide)) (.slice A3 (P.length + 1) cap3)
     rw [HFL.out]
     simp only [List.length_append, cells_append, List.length_cons, List.length_nil, Nat.zero_add]
     exact this
    ·intro k hk
     rcases V4.out k hk with h | h
     ·exact U3.out k h
     ·have := U9.out
      have := FQ.out.size
      simp at h
      omega
    ·rintro (h | h)
     ·omega
     ·exact U2.out.ne_blk U6.out (by decide) h
    ·rintro (h | h)
     ·omega
     ·exact U2.out.ne_blk U7.out (by decide) h
    ·rintro (h | h)
     ·omega
     ·exact U2.out.ne_blk U8.out (by decide) h
    ·rintro k hk (h | h)
     ·omega
     ·have := U3.out k h; omega
 case done =>
  rintro D ys W hD rfl hI hK
  obtain ⟨⟨v, b2, o2, n2⟩, e0, e1, e2, f2, s2⟩ := hI
  have S0 := H.out.fresh f2
  have hDl := (Array.getElem?_eq_some_iff.1 hK).1
  have J0 : FrJ c y below w gl w4.heap.size v (p.l.filter (frB p below)) D y p W := ⟨S0, e0, e1, b2, o2, n2, fun k hk hf => by have := n2 k hk; have := H.out.lt k hf; omega, hK, fun hf => by have := H.out.lt D hf; omega, LTurn.fresh f2⟩
  have J1 := Lib.hid (J0.turn (S0.set 13 (.int .i64 below) { p with freed := below } rfl rfl rfl rfl rfl) (LTurn.set y W 13 (.int .i64 below)))
  have c0 := e0.cell
  have l0 := e0.lt
  have c1 := e1.cell
  have l1 := e1.lt
  have c2 := fun i => (e2.cell i).trans (lcells_at c y p i)
  have l2 := e2.lt
  have r2 := e2.frozen
  clear b2 o2 n2 e0 e1 e2 f2 s2 S0 J0 hK
  go_wp2_with fail
  obtain ⟨W1, hW1⟩ : ∃ W1, W.setCell ⟨y.g, 13, none⟩ (.int .i64 below) = W1 := ⟨_, rfl⟩
  rw [hW1] at J1 ⊢
  clear hW1 c0 l0 c1 l1 c2 l2 r2
  have HFREE : Hid (∀ W', Fresh W1 W' → Calls Tryz.prog 61 #[.pointer (some ⟨y.gr, 0, none⟩), .int .i64 below] W' fun e w' => (∃ r, e = .returned r) ∧ ∃ v4', FrJ c y below w gl w4.heap.size v (p.l.filter (frB p below)) D { y with v4 := v4' } { p with freed := below, sv := freeSv p.sv below } w') := Lib.hid fun W' f => by
   have J := J1.out.fresh f
   refine (rfree_any y.gr y.v4 p.sv below W' J.s.sr hs).mono ?_
   rintro e w' ⟨h1, v4', h2, h3, h4⟩
   obtain ⟨a1, a2⟩ := J.s.turnR h2 h3 h4
   exact ⟨h1, v4', J.turn a1 a2⟩
  have HB0 : Hid (Blk W1.drew w.heap.size 31 #[.pointer (some ⟨y.g, 0, none⟩)] ∧ Blk W1.drew (w.heap.size + 1) 3 #[.int .i64 below] ∧ Blk W1.drew y.g 103 (lcells c y { p with freed := below })) := Lib.hid ⟨J1.out.b0.drew, J1.out.b1.drew, J1.out.s.blk.drew⟩
  have HLC : Hid (∀ v4', lcells c { y with v4 := v4' } { p with freed := below, sv := freeSv p.sv below } = lcells c y { p with freed := below }) := Lib.hid fun _ => rfl
  have y0 := fun (W' : World) (h : Blk W' w.heap.size 31 #[.pointer (some ⟨y.g, 0, none⟩)] ∧ Blk W' (w.heap.size + 1) 3 #[.int .i64 below] ∧ Blk W' y.g 103 (lcells c y { p with freed := below })) (i : Nat) => h.1.cell i
  have y1 := fun (W' : World) (h : Blk W' w.heap.size 31 #[.pointer (some ⟨y.g, 0, none⟩)] ∧ Blk W' (w.heap.size + 1) 3 #[.int .i64 below] ∧ Blk W' y.g 103 (lcells c y { p with freed := below })) (i : Nat) => h.2.1.cell i
  have y2 := fun (W' : World) (h : Blk W' w.heap.size 31 #[.pointer (some ⟨y.g, 0, none⟩)] ∧ Blk W' (w.heap.size + 1) 3 #[.int .i64 below] ∧ Blk W' y.g 103 (lcells c y { p with freed := below })) (i : Nat) => (h.2.2.cell i).trans (lcells_at c _ _ i)
  have y3 := fun (W' : World) (h : Blk W' w.heap.size 31 #[.pointer (some ⟨y.g, 0, none⟩)] ∧ Blk W' (w.heap.size + 1) 3 #[.int .i64 below] ∧ Blk W' y.g 103 (lcells c y { p with freed := below })) => h.1.lt
  have y4 := fun (W' : World) (h : Blk W' w.heap.size 31 #[.pointer (some ⟨y.g, 0, none⟩)] ∧ Blk W' (w.heap.size + 1) 3 #[.int .i64 below] ∧ Blk W' y.g 103 (lcells c y { p with freed := below })) => h.2.1.lt
  have y5 := fun (W' : World) (h : Blk W' w.heap.size 31 #[.pointer (some ⟨y.g, 0, none⟩)] ∧ Blk W' (w.heap.size + 1) 3 #[.int .i64 below] ∧ Blk W' y.g 103 (lcells c y { p with freed := below })) => h.2.2.lt
  rename_i K0 hK0
  refine Code.wp_mono (Q := normOnly K0) (fun e a w h => by cases e <;> first | exact h | exact h.elim) ?_
  refine region_T (S := fun W' => Blk W' w.heap.size 31 #[.pointer (some ⟨y.g, 0, none⟩)] ∧ Blk W' (w.heap.size + 1) 3 #[.int .i64 below] ∧ Blk W' y.g 103 (lcells c y { p with freed := below })) (T := []) (by kernel_rfl) ?_
  refine anyT_take (i := 0) (oi := _) (v := ?vd0) rfl (by kernel_rfl) (by kernel_rfl) (by kernel_rfl) (by kernel_rfl) (fun _ _ _ h => h) (Or.inl ⟨by rfl, ?hyd0⟩) HB0.out ?restd0
  case hyd0 => (intro W hSw; go_simp; try with_reducible rfl)
  try simp only [List.getElem_toArray, List.getElem_cons_zero, Act.put, List.setIfInBounds_toArray, List.set_cons_zero, List.set_cons_succ]
  refine anyT_take (i := 1) (oi := _) (v := ?vd1) rfl (by kernel_rfl) (by kernel_rfl) (by kernel_rfl) (by kernel_rfl) (fun _ _ _ h => h) (Or.inl ⟨by rfl, ?hyd1⟩) HB0.out ?restd1
  case hyd1 => (intro W hSw; go_simp; try with_reducible rfl)
  try simp only [List.getElem_toArray, List.getElem_cons_zero, List.getElem_cons_succ, Act.put, List.setIfInBounds_toArray, List.set_cons_zero, List.set_cons_succ]
  refine anyT_take (i := 2) (oi := _) (v := ?vd2) rfl (by kernel_rfl) (by kernel_rfl) (by kernel_rfl) (by kernel_rfl) (fun _ _ _ h => h) (Or.inl ⟨by rfl, ?hyd2⟩) HB0.out ?restd2
  case hyd2 => (intro W hSw; go_simp; try with_reducible rfl)
  try simp only [List.getElem_toArray, List.getElem_cons_zero, List.getElem_cons_succ, Act.put, List.setIfInBounds_toArray, List.set_cons_zero, List.set_cons_succ]
  refine anyT_take (i := 3) (oi := _) (v := ?vd3) rfl (by kernel_rfl) (by kernel_rfl) (by kernel_rfl) (by kernel_rfl) (fun _ _ _ h => h) (Or.inl ⟨by rfl, ?hyd3⟩) HB0.out ?restd3
  case hyd3 => (intro W hSw; go_simp; try with_reducible rfl)
  try simp only [List.getElem_toArray, List.getElem_cons_zero, List.getElem_cons_succ, Act.put, List.setIfInBounds_toArray, List.set_cons_zero, List.set_cons_succ]
  refine anyT_take (i := 4) (oi := _) (v := ?vd4) rfl (by kernel_rfl) (by kernel_rfl) (by kernel_rfl) (by kernel_rfl) (fun _ _ _ h => h) (Or.inl ⟨by rfl, ?hyd4⟩) HB0.out ?restd4
  case hyd4 => (intro W hSw; go_simp; try with_reducible rfl)
  try simp only [List.getElem_toArray, List.getElem_cons_zero, List.getElem_cons_succ, Act.put, List.setIfInBounds_toArray, List.set_cons_zero, List.set_cons_succ]
  refine anyT_one' (i := 5) (by kernel_rfl) rfl (by rfl) (fun KQ hK => ?_)
  go_simp
  go_at_call 61
  (with_reducible refine (HFREE.out _ (Keep.refl _ W1).drew).mono ?_)
  rintro e5 W5 ⟨⟨r5, rfl⟩, v4', j5⟩
  have J3 := Lib.hid j5
  have HB5 : Hid (Blk W5 w.heap.size 31 #[.pointer (some ⟨y.g, 0, none⟩)] ∧ Blk W5 (w.heap.size + 1) 3 #[.int .i64 below] ∧ Blk W5 y.g 103 (lcells c y { p with freed := below })) := Lib.hid ⟨j5.b0, j5.b1, HLC.out v4' ▸ j5.s.blk⟩
  clear j5
  refine hK.out _ _ HB5.out ?_
  clear hK KQ
  try simp only [List.getElem_toArray, List.getElem_cons_zero, List.getElem_cons_succ, Act.put, List.setIfInBounds_toArray, List.set_cons_zero, List.set_cons_succ]
  refine anyT_done (by kernel_rfl) ?_
  refine hK0 _ _ ?_
  clear y0 y1 y2 y3 y4 y5 hK0 K0
  obtain ⟨z, r, hsv, hsz⟩ : ∃ z r, freeSv p.sv below = z :: r ∧ freeT (freeSv p.sv below) = z.1 := by
   unfold freeSv
   split
   ·cases hsv : p.sv with
    | nil => rw [hsv] at hs0; simp at hs0
    | cons z r => exact ⟨z, r, rfl, rfl⟩
   ·rename_i hu
    have := RS.upTo_le p.sv below
    have hlt : RS.upTo p.sv below - 1 < p.sv.length := by omega
    rw [List.drop_eq_getElem_cons hlt]
    exact ⟨_, _, rfl, rfl⟩
  have hsl : (freeSv p.sv below).length ≤ 100000 := by
   unfold freeSv
   split
   ·omega
   ·rw [List.length_drop]; omega
  have hs1 : 0 < (freeSv p.sv below).length := by rw [hsv]; simp
  have HFRL : Hid (freeLp p below = { p with l := p.l.drop (p.l.filter (fun y => decide (y.a < z.1 + 1))).length, q := stay (dropP below) p.q, sv := freeSv p.sv below, freed := below }) := Lib.hid (by unfold freeLp; rw [hsz])
  rw [hsz] at hi hi'
  have HSV := Lib.hid hsv
  obtain ⟨sv, hsv2⟩ : ∃ sv, freeSv p.sv below = sv := ⟨_, rfl⟩
  rw [hsv2] at J3 HFRL HSV hsl hs1
  clear hsv hsz hsv2 hs0 hs J1 HFREE HLC HB0 HB5 FI KB KO
  have HALL := Lib.hid (RS.all_any y.gr v4' sv W5 J3.out.s.sr hs1 hsl)
  have c5 := J3.out.b0.cell
  have l5 := J3.out.b0.lt
  have d5 := fun i => (J3.out.s.blk.cell i).trans (lcells_at c _ _ i)
  have m5 := J3.out.s.blk.lt
  go_wp2_with (go_at_call 62; (with_reducible refine HALL.out.mono ?_); rintro e6 W6 ⟨v6, rfl, b6, o6, f6, n6⟩)
  have J6 := Lib.hid (J3.out.fresh f6)
  obtain ⟨g6, off6, cap6, rfl, hg6, _, _, _⟩ := o6.form hs1
  have KB := Lib.hid b6
  have KO := Lib.hid o6
  have hs6 : W5.heap.size < W6.heap.size := b6.lt
  clear b6 o6 n6 f6 c5 l5 d5 m5 HALL J3
  have HDR : Hid (∀ W' b9, Fresh W6 W' → Calls Tryz.prog 63 #[.pointer (some ⟨y.gq, 0, none⟩), .int .i64 b9] W' fun e w' => (∃ r, e = .returned r) ∧ ∃ v1', SLP w' c { y with v4 := v4', v1 := v1' } { p with freed := below, sv := sv, l := p.l.drop (p.l.filter (fun y => decide (y.a < b9))).length } ∧ LTurn W6 w' { y with v4 := v4' } { y with v4 := v4', v1 := v1' } ∧ KeepsOthers W' w') := Lib.hid fun W' b9 f => by
   have S := J6.out.s.fresh f
   refine (drop_any y.gq y.v1 y.v2 p.l p.m b9 W' S.sq hl).mono ?_
   rintro e w' ⟨r', v1', h1, _, h3, h4, _⟩
   obtain ⟨a1, a2⟩ := S.turnQ h3 h4
   exact ⟨⟨r', h1⟩, v1', a1, (LTurn.fresh f).two a2, keepsOthers_of_keep a2.keep S.cells_⟩
  have hD6 : D < W6.heap.size := (Array.getElem?_eq_some_iff.1 J6.out.d).1
  refine (wpIn_wide (n := 6)).1 ?_
  refine wpIn_rangeFunc_ownH rfl (by omega) (gf := 108) (lb := #[.pointer (some ⟨W5.heap.size, 0, none⟩)]) rfl trivial (enters_of Tryz.func108 (by kernel_rfl) rfl)
   (RS.all_stops Fence.wide (6 - 1) trivial rfl (by omega) W5.heap.size g6 off6 cap6 sv hsl W6 KB.out KO.out) keepsB_t keepsB_b (Below.refl _ _) (fun _ => rfl)
   (fun pre W => pre = [] ∧ Fresh W6 W)
   (fun c' pre W => c' = .exit 2 ∧ ∃ x : Int × St, pre = [x] ∧ ∃ v1', SLP W c { y with v4 := v4', v1 := v1' } { p with freed := below, sv := sv, l := p.l.drop (p.l.filter (fun y => decide (y.a < wrap64 (x.1 + 1)))).length } ∧ LTurn W6 W { y with v4 := v4' } { y with v4 := v4', v1 := v1' }) ?own2 ?ownx2 ⟨rfl, Keep.refl _ _⟩
   (fun x a' W => a' = { tmps := #[.pointer (some ⟨y.g, 0, none⟩), .int .i64 below, .pointer (some ⟨w.heap.size, 0, none⟩), .pointer (some ⟨w.heap.size + 1, 0, none⟩), .slice none 0 0, .int .i64 0, .pointer (some ⟨gl, 0, none⟩), undef, .int .i64 x.1, .pointer (some ⟨y.g, 0, none⟩), .bool false, .int .i64 below, .pointer (some ⟨y.g, 0, none⟩), .int .i64 L, .bool false, .int .i64 below, .pointer (some ⟨y.g, 0, none⟩), .pointer (some ⟨y.g, 0, none⟩), .pointer (some ⟨y.g, 13, none⟩), .int .i64 p.freed, .bool false, .pointer (some ⟨y.g, 0, none⟩), .func (.func 143) #[] #[.pointer (some ⟨b4, 0, none⟩)], undef, undef, undef, undef, undef, undef, undef, undef, undef, undef, undef, undef, undef, undef, undef, undef, undef, undef, undef, undef, .pointer (some ⟨y.g, 0, none⟩), .int .i64 below, .pointer (some ⟨y.g, 0, none⟩), .pointer (some ⟨y.g, 13, none⟩), .pointer (some ⟨y.g, 0, none⟩), .pointer (some ⟨y.g, 0, none⟩), .pointer (some ⟨y.g, 6, none⟩), .pointer (some ⟨y.gr, 0, none⟩), .int .i64 below, r5, .pointer (some ⟨y.g, 0, none⟩), .pointer (some ⟨y.g, 0, none⟩), .pointer (some ⟨y.g, 6, none⟩), .pointer (some ⟨y.gr, 0, none⟩), .func (.func 108) #[] #[.pointer (some ⟨W5.heap.size, 0, none⟩)], .int .i64 x.1, .agg #[.int .i64 x.2.s0, .int .i64 x.2.s1, .int .i64 x.2.s2, .int .i64 x.2.s3], undef, undef, undef, undef, undef, undef, undef, undef, undef, undef, undef, undef, undef, undef], defers := [] }) ?ax2 ?assign2 ?body2 ?done2 ?stop2
  case own2 =>
   rintro pre X Y row ⟨h1, h2⟩ hg hr
   exact ⟨h1, ownFrom_fresh (β := Unit) (Nat.le_refl _) () X Y row h2 hg hr⟩
  case ownx2 =>
   rintro c' pre X Y row ⟨h1, x, h2, v1', h3, h4⟩ hg hr
   exact ⟨h1, x, h2, v1', h3.grown hg (fun r e => (hr r e).2), h4.grown hg (fun r e => (hr r e).1)⟩
  case ax2 =>
   rintro x a' u X Y row h hg hr
   exact h
  case assign2 =>
   rintro lp pre x W' K ⟨hp, hf⟩ hK
   unfold St.val
   gi_wp2
   exact hK _ _ (KeepsFrom.refl _ _) (KeepsB.refl _ _ _) ⟨hp, hf⟩ rfl
  case body2 =>
   rintro lp pre x a' W' hlp hrec ⟨rfl, hf⟩ rfl hlt
   have b0 := hf.blk_ J6.out.b0
   have c0 := b0.cell
   have l0 := b0.lt
   have bl := hf.blk_ J6.out.s.blk
   have d0 := fun i => (bl.cell i).trans (lcells_at c _ _ i)
   have m0 := bl.lt
   have HF := Lib.hid hf
   clear b0 bl hf hrec
   gi_wp2_with (refine ⟨trivial, ?_⟩; gi_at_call 63; (refine (CallsIn.inRound lp (callsIn_wide.2 (HDR.out W' _ HF.out))).mono ?_); rintro e7 W7 ⟨⟨r7, rfl⟩, v1', s7, t7, k7⟩; have S7 := Lib.hid s7; have T7 := Lib.hid t7; have K7 := Lib.hid k7; clear s7 t7 k7)
   exact ⟨K7.out.from _, rfl, x, rfl, v1', S7.out, T7.out⟩
  case done2 =>
   rintro D2 ys2 W' hD2 rfl ⟨hp, _⟩ _
   rw [hp] at hs1
   simp at hs1
  case stop2 =>
   rintro D2 c' pre W' hD2 hp ⟨rfl, x, rfl, v1', s7, t7⟩ hK2
   obtain ⟨r2, hr2⟩ := hp
   have hx : x = z := by
    rw [HSV.out] at hr2
    injection hr2 with h1 h2
   subst hx
   have hw : wrap64 (x.1 + 1) = x.1 + 1 := IntWalk.wrap64_in _ (by omega)
   rw [hw] at s7
   have J7 := Lib.hid (J6.out.turn s7 t7)
   have HK2 := Lib.hid hK2
   have hD2' := (Array.getElem?_eq_some_iff.1 hK2).1
   have hND2 : Hid (¬ lfoot { y with v4 := v4', v1 := v1' } D2) := Lib.hid (fun hf => by
    obtain ⟨o, ho⟩ : ∃ o, W'.heap[D2]? = some o := ⟨_, hK2⟩
    have := s7.cells_ D2 o hf ho
    rw [hK2] at ho
    injection ho with ho
    rw [← ho] at this
    cases this)
   clear hw s7 t7 hK2 HDR hr2
   have HDRP : Hid (∀ W2, Fresh W' W2 → Calls Tryz.prog 64 #[.pointer (some ⟨y.go, 0, none⟩), .int .i64 below] W2 fun e w' => (∃ r, e = .returned r) ∧ ∃ v3', FrJ c y below w gl w4.heap.size v (p.l.filter (frB p below)) D { y with v4 := v4', v1 := v1', v3 := v3' } (freeLp p below) w' ∧ w'.heap[D2]? = some (.deferred (some []))) := Lib.hid fun W2 f => by
    have J := J7.out.fresh f
    refine (dropq_any y.go y.v3 p.q below W2 J.s.oq hq).mono ?_
    rintro e w' ⟨h1, v3', h2, h3⟩
    obtain ⟨a1, a2⟩ := J.s.turnO h2 h3
    rw [HFRL.out]
    exact ⟨⟨_, h1⟩, v3', J.turn a1 a2, ((a2.keep.block D2 (Nat.lt_of_lt_of_le hD2' f.size) hND2.out).trans (f.block D2 hD2' (fun h => h))).trans HK2.out⟩
   have y0 := fun (W'' : World) (h : Blk W'' w.heap.size 31 #[.pointer (some ⟨y.g, 0, none⟩)] ∧ Blk W'' (w.heap.size + 1) 3 #[.int .i64 below] ∧ Blk W'' y.g 103 (lcells c y { p with freed := below })) (i : Nat) => h.1.cell i
   have y1 := fun (W'' : World) (h : Blk W'' w.heap.size 31 #[.pointer (some ⟨y.g, 0, none⟩)] ∧ Blk W'' (w.heap.size + 1) 3 #[.int .i64 below] ∧ Blk W'' y.g 103 (lcells c y { p with freed := below })) (i : Nat) => h.2.1.cell i
   have y2 := fun (W'' : World) (h : Blk W'' w.heap.size 31 #[.pointer (some ⟨y.g, 0, none⟩)] ∧ Blk W'' (w.heap.size + 1) 3 #[.int .i64 below] ∧ Blk W'' y.g 103 (lcells c y { p with freed := below })) (i : Nat) => (h.2.2.cell i).trans (lcells_at c _ _ i)
   have y3 := fun (W'' : World) (h : Blk W'' w.heap.size 31 #[.pointer (some ⟨y.g, 0, none⟩)] ∧ Blk W'' (w.heap.size + 1) 3 #[.int .i64 below] ∧ Blk W'' y.g 103 (lcells c y { p with freed := below })) => h.1.lt
   have y4 := fun (W'' : World) (h : Blk W'' w.heap.size 31 #[.pointer (some ⟨y.g, 0, none⟩)] ∧ Blk W'' (w.heap.size + 1) 3 #[.int .i64 below] ∧ Blk W'' y.g 103 (lcells c y { p with freed := below })) => h.2.1.lt
   have y5 := fun (W'' : World) (h : Blk W'' w.heap.size 31 #[.pointer (some ⟨y.g, 0, none⟩)] ∧ Blk W'' (w.heap.size + 1) 3 #[.int .i64 below] ∧ Blk W'' y.g 103 (lcells c y { p with freed := below })) => h.2.2.lt
   have HLC : Hid (∀ v3', lcells c { y with v4 := v4', v1 := v1', v3 := v3' } (freeLp p below) = lcells c y { p with freed := below }) := Lib.hid fun _ => by rw [HFRL.out]; rfl
   have HLC2 : Hid (lcells c { y with v4 := v4', v1 := v1' } { p with freed := below, sv := sv, l := p.l.drop (p.l.filter (fun y => decide (y.a < x.1 + 1))).length } = lcells c y { p with freed := below }) := Lib.hid rfl
   have HB0 : Hid (Blk W'.drew w.heap.size 31 #[.pointer (some ⟨y.g, 0, none⟩)] ∧ Blk W'.drew (w.heap.size + 1) 3 #[.int .i64 below] ∧ Blk W'.drew y.g 103 (lcells c y { p with freed := below })) := Lib.hid ⟨J7.out.b0.drew, J7.out.b1.drew, HLC2.out ▸ J7.out.s.blk.drew⟩
   refine wpIn_wide.2 ?_
   go_wp2_with fail
   rename_i K0 hK0
   refine Code.wp_mono (Q := normOnly K0) (fun e a w h => by cases e <;> first | exact h | exact h.elim) ?_
   refine region_T (S := fun W' => Blk W' w.heap.size 31 #[.pointer (some ⟨y.g, 0, none⟩)] ∧ Blk W' (w.heap.size + 1) 3 #[.int .i64 below] ∧ Blk W' y.g 103 (lcells c y { p with freed := below })) (T := []) (by kernel_rfl) ?_
   refine anyT_take (i := 0) (oi := _) (v := ?ve0) rfl (by kernel_rfl) (by kernel_rfl) (by kernel_rfl) (by kernel_rfl) (fun _ _ _ h => h) (Or.inl ⟨by rfl, ?hye0⟩) HB0.out ?reste0
   case hye0 => (intro W hSw; go_simp; try with_reducible rfl)
   try simp only [List.getElem_toArray, List.getElem_cons_zero, Act.put, List.setIfInBounds_toArray, List.set_cons_zero, List.set_cons_succ]
   refine anyT_take (i := 1) (oi := _) (v := ?ve1) rfl (by kernel_rfl) (by kernel_rfl) (by kernel_rfl) (by kernel_rfl) (fun _ _ _ h => h) (Or.inl ⟨by rfl, ?hye1⟩) HB0.out ?reste1
   case hye1 => (intro W hSw; go_simp; try with_reducible rfl)
   try simp only [List.getElem_toArray, List.getElem_cons_zero, List.getElem_cons_succ, Act.put, List.setIfInBounds_toArray, List.set_cons_zero, List.set_cons_succ]
   refine anyT_take (i := 2) (oi := _) (v := ?ve2) rfl (by kernel_rfl) (by kernel_rfl) (by kernel_rfl) (by kernel_rfl) (fun _ _ _ h => h) (Or.inl ⟨by rfl, ?hye2⟩) HB0.out ?reste2
   case hye2 => (intro W hSw; go_simp; try with_reducible rfl)
   try simp only [List.getElem_toArray, List.getElem_cons_zero, List.getElem_cons_succ, Act.put, List.setIfInBounds_toArray, List.set_cons_zero, List.set_cons_succ]
   refine anyT_take (i := 3) (oi := _) (v := ?ve3) rfl (by kernel_rfl) (by kernel_rfl) (by kernel_rfl) (by kernel_rfl) (fun _ _ _ h => h) (Or.inl ⟨by rfl, ?hye3⟩) HB0.out ?reste3
   case hye3 => (intro W hSw; go_simp; try with_reducible rfl)
   try simp only [List.getElem_toArray, List.getElem_cons_zero, List.getElem_cons_succ, Act.put, List.setIfInBounds_toArray, List.set_cons_zero, List.set_cons_succ]
   refine anyT_take (i := 4) (oi := _) (v := ?ve4) rfl (by kernel_rfl) (by kernel_rfl) (by kernel_rfl) (by kernel_rfl) (fun _ _ _ h => h) (Or.inl ⟨by rfl, ?hye4⟩) HB0.out ?reste4
   case hye4 => (intro W hSw; go_simp; try with_reducible rfl)
   try simp only [List.getElem_toArray, List.getElem_cons_zero, List.getElem_cons_succ, Act.put, List.setIfInBounds_toArray, List.set_cons_zero, List.set_cons_succ]
   refine anyT_one' (i := 5) (by kernel_rfl) rfl (by rfl) (fun KQ hK => ?_)
   go_simp
   go_at_call 64
   (with_reducible refine (HDRP.out _ (Keep.refl _ W').drew).mono ?_)
   rintro e8 W8 ⟨⟨r8, rfl⟩, v3', j8, k8⟩
   have J8 := Lib.hid j8
   have K8 := Lib.hid k8
   have HB8 : Hid (Blk W8 w.heap.size 31 #[.pointer (some ⟨y.g, 0, none⟩)] ∧ Blk W8 (w.heap.size + 1) 3 #[.int .i64 below] ∧ Blk W8 y.g 103 (lcells c y { p with freed := below })) := Lib.hid ⟨j8.b0, j8.b1, HLC.out v3' ▸ j8.s.blk⟩
   clear j8 k8
   refine hK.out _ _ HB8.out ?_
   clear hK KQ
   try simp only [List.getElem_toArray, List.getElem_cons_zero, List.getElem_cons_succ, Act.put, List.setIfInBounds_toArray, List.set_cons_zero, List.set_cons_succ]
   refine anyT_done (by kernel_rfl) ?_
   refine hK0 _ _ ?_
   clear y0 y1 y2 y3 y4 y5 hK0 K0
   have c8 := J8.out.b3.cell
   have l8 := J8.out.b3.lt
   go_wp2_with fail
   clear c8 l8
   have hD4 : w4.heap.size ≤ D := hD
   have hwD2 : w.heap.size ≤ D2 := by omega
   have hn : D ≠ D2 := by omega
   have h2 := grownBy_putObj' W8 D2 (.deferred none)
   have r2 : ∀ r, some D2 = some r → ∃ o : Obj, W8.heap[r]? = some o ∧ o.isCells = false := fun r e => by cases e; exact ⟨_, K8.out, rfl⟩
   have G3 : (W8.putObj D2 (.deferred none)).heap[D]? = some (.deferred (some [])) := (h2.block D ((Array.getElem?_eq_some_iff.1 J8.out.d).1) (fun e => hn (Option.some.inj e))).trans J8.out.d
   have s9 := J8.out.s.grown h2 r2
   have t9 := J8.out.t.grown h2 (fun r e => by cases e; exact hwD2)
   have o9 := ownS_grown J8.out.o h2 r2
   have h3 := grownBy_putObj' (W8.putObj D2 (.deferred none)) D (.deferred none)
   have r3 : ∀ r, some D = some r → ∃ o : Obj, (W8.putObj D2 (.deferred none)).heap[r]? = some o ∧ o.isCells = false := fun r e => by cases e; exact ⟨_, G3, rfl⟩
   have s10 := s9.grown h3 r3
   have t10 := t9.grown h3 (fun r e => by cases e; omega)
   have o10 := ownS_grown o9 h3 r3
   refine ⟨by simp, .inl ⟨_, _, rfl, run_takeDeferred K8.out, ?_⟩⟩
   refine ⟨by simp, .inl ⟨_, _, rfl, run_takeDeferred G3, ?_⟩⟩
   exact ⟨.tuple #[v, .int .i64 0], by simp [results, Tryz.results34, go_sem]; try rfl, v, rfl, ⟨o10, fun k hk => by have := J8.out.n k hk; omega⟩, _, s10, t10, J8.out.x⟩
 case stop =>
  rintro D c pre W _ _ h _
  exact h.elim
end Go.Proofs.YthbcdkeammhakaaGreat
