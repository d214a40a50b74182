/- Chapter 13: LpH. -/
import Derived.Test.YthbcdkeammhakaaGreatP29
set_option maxRecDepth 100000
set_option maxHeartbeats 16000000
namespace Go.Proofs.YthbcdkeammhakaaGreat
open Go.RowKit
attribute [local go_sem ↓] Go.wp_at_zero Go.wp_at_succ
theorem levents_any (c : LC) (y : PV) (p : LPs) (w : World) (h : SLP w c y p) (hl : p.l.length ≤ 100000) : Calls Tryz.prog 41 #[.pointer (some ⟨y.g, 0, none⟩)] w (SeqP p.l w) := by
 have HA := Lib.hid (all_any y.gq y.v1 y.v2 p.l p.m w h.sq hl)
 have c0 := fun i => (h.blk.cell i).trans (lcells_at c y p i)
 have l0 := h.blk.lt
 clear h
 go_enter Tryz.func41, Tryz.ntmps41
 go_wp2_with (go_at_call 84; (with_reducible refine HA.out.mono ?_); rintro e w1 ⟨b, v', rfl, k1, o1, f1⟩)
 go_returns
 exact ⟨b, v', rfl, k1, o1, f1⟩
theorem lrecords_any (c : LC) (y : PV) (p : LPs) (w : World) (h : SLP w c y p) (hq : p.q.length ≤ 100000) : Calls Tryz.prog 50 #[.pointer (some ⟨y.g, 0, none⟩)] w (AllP p.q w) := by
 have HA := Lib.hid (oall_any y.go y.v3 p.q w h.oq hq)
 have c0 := fun i => (h.blk.cell i).trans (lcells_at c y p i)
 have l0 := h.blk.lt
 clear h
 unfold AllP at HA ⊢
 go_enter Tryz.func50, Tryz.ntmps50
 go_wp2_with (go_at_call 87; (with_reducible refine HA.out.mono ?_); rintro e w1 ⟨b, v', rfl, k1, o1, f1, n1, n2⟩)
 go_returns
 exact ⟨b, v', rfl, k1, o1, f1, n1, n2⟩
def countV (p : LPs) : Value := .agg #[.int .i64 p.l.length, .int .i64 p.m.length, .int .i64 (sures p.q : Nat), .int .i64 ((p.q.length : Int) - (sures p.q : Int)), .int .i64 p.sv.length, .int .i64 p.steps, .int .i64 p.coasted]
theorem lcount_any (c : LC) (y : PV) (p : LPs) (w : World) (h : SLP w c y p) (hq : p.q.length ≤ 100000) : Calls Tryz.prog 35 #[.pointer (some ⟨y.g, 0, none⟩)] w fun e w' => e = .returned (countV p) ∧ Fresh w w' := by
 have HS : Hid (∀ W, Fresh w W → Calls Tryz.prog 65 #[.pointer (some ⟨y.gr, 0, none⟩)] W fun e w' => e = .returned (.int .i64 p.sv.length) ∧ W = w') := Lib.hid fun W f => RS.len_any y.gr y.v4 p.sv W (h.sr.fresh f)
 have HQ : Hid (∀ W, Fresh w W → Calls Tryz.prog 66 #[.pointer (some ⟨y.gq, 0, none⟩)] W fun e w' => e = .returned (.tuple #[.int .i64 p.l.length, .int .i64 p.m.length]) ∧ Fresh W w') := Lib.hid fun W f => len_any y.gq y.v1 y.v2 p.l p.m W (h.sq.fresh f)
 have HO : Hid (∀ W, Fresh w W → Calls Tryz.prog 67 #[.pointer (some ⟨y.go, 0, none⟩)] W fun e w' => e = .returned (.tuple #[.int .i64 (sures p.q : Nat), .int .i64 ((p.q.length : Int) - (sures p.q : Int))]) ∧ Fresh W w') := Lib.hid fun W f => olen_any y.go y.v3 p.q W (h.oq.fresh f) hq
 have c0 := fun i => (h.blk.cell i).trans (lcells_at c y p i)
 have l0 := h.blk.lt
 have HB := Lib.hid h.blk
 unfold countV
 obtain ⟨nl, hnl⟩ : ∃ nl : Int, (p.l.length : Int) = nl := ⟨_, rfl⟩
 obtain ⟨nm, hnm⟩ : ∃ nm : Int, (p.m.length : Int) = nm := ⟨_, rfl⟩
 obtain ⟨ns, hns⟩ : ∃ ns : Int, ((sures p.q : Nat) : Int) = ns := ⟨_, rfl⟩
 obtain ⟨nu, hnu⟩ : ∃ nu : Int, (p.q.length : Int) - ns = nu := ⟨_, rfl⟩
 obtain ⟨nv, hnv⟩ : ∃ nv : Int, (p.sv.length : Int) = nv := ⟨_, rfl⟩
 rw [hnl, hnm] at HQ
 rw [hns, hnu] at HO
 rw [hnv] at HS
 rw [hnl, hnm, hns, hnu, hnv]
 clear hnl hnm hns hnu hnv h
 have y0 := fun (W' : World) (h : Blk W' y.g 103 (lcells c y p)) (i : Nat) => (h.cell i).trans (lcells_at c y p i)
 have y1 := fun (W' : World) (h : Blk W' y.g 103 (lcells c y p)) => h.lt
 go_enter Tryz.func35, Tryz.ntmps35
 go_wp2_with fail
 obtain ⟨WA, hWA⟩ : ∃ WA, w.alloc (.cells #[.int .i64 0, .int .i64 0, .int .i64 0, .int .i64 0, .int .i64 0, .int .i64 0, .int .i64 0] 81) = WA := ⟨_, rfl⟩
 have HB0 : Hid (Blk WA.drew y.g 103 (lcells c y p)) := Lib.hid (hWA ▸ (HB.out.alloc _).drew)
 have HX0 : Hid (Blk WA w.heap.size 81 #[.int .i64 0, .int .i64 0, .int .i64 0, .int .i64 0, .int .i64 0, .int .i64 0, .int .i64 0]) := Lib.hid (hWA ▸ Blk.new w _ _)
 have FA0 : Hid (Fresh w WA) := Lib.hid (hWA ▸ (Keep.refl _ w).alloc _)
 have FA : Hid (Fresh w WA.drew) := Lib.hid (hWA ▸ ((Keep.refl _ w).alloc _).drew)
 have HZ : Hid (Blk (WA.alloc (.cells #[.int .i64 0, .int .i64 0, .int .i64 0, .int .i64 0, .int .i64 nv, .int .i64 p.steps, .int .i64 p.coasted] 81)).drew y.g 103 (lcells c y p)) := Lib.hid ((show Blk WA y.g 103 (lcells c y p) from HB0.out).alloc _).drew
 have HBA : Hid (Blk (WA.alloc (.cells #[.int .i64 0, .int .i64 0, .int .i64 0, .int .i64 0, .int .i64 0, .int .i64 0, .int .i64 0] 81)).drew y.g 103 (lcells c y p)) := Lib.hid ((show Blk WA y.g 103 (lcells c y p) from HB0.out).alloc _).drew
 have FBA : Hid (Fresh w (WA.alloc (.cells #[.int .i64 0, .int .i64 0, .int .i64 0, .int .i64 0, .int .i64 0, .int .i64 0, .int .i64 0] 81)).drew) := Lib.hid (FA0.out.alloc _).drew
 rw [hWA]
 clear hWA c0 l0
 obtain ⟨WZ, hWZ⟩ : ∃ WZ, (WA.alloc (.cells #[.int .i64 0, .int .i64 0, .int .i64 0, .int .i64 0, .int .i64 nv, .int .i64 p.steps, .int .i64 p.coasted] 81)).drew = WZ := ⟨_, rfl⟩
 have ZL : Hid (Blk WZ y.g 103 (lcells c y p)) := Lib.hid (hWZ ▸ HZ.out)
 have ZC : Hid (Blk WZ WA.heap.size 81 #[.int .i64 0, .int .i64 0, .int .i64 0, .int .i64 0, .int .i64 nv, .int .i64 p.steps, .int .i64 p.coasted]) := Lib.hid (hWZ ▸ (Blk.new WA _ _).drew)
 have ZR : Hid (Blk WZ w.heap.size 81 #[.int .i64 0, .int .i64 0, .int .i64 0, .int .i64 0, .int .i64 0, .int .i64 0, .int .i64 0]) := Lib.hid (hWZ ▸ (HX0.out.alloc _).drew)
 have ZF : Hid (Fresh w WZ) := Lib.hid (hWZ ▸ (FA0.out.alloc _).drew)
 have LW : Hid (w.heap.size < WA.heap.size) := Lib.hid HX0.out.lt
 have LY : Hid (y.g < w.heap.size) := Lib.hid HB.out.lt
 have HS5 : Hid (∀ W, Fresh WZ W → Blk ((W.setCell ⟨WA.heap.size, 0, none⟩ (.int .i64 nl)).setCell ⟨WA.heap.size, 1, none⟩ (.int .i64 nm)) y.g 103 (lcells c y p) ∧ Blk ((W.setCell ⟨WA.heap.size, 0, none⟩ (.int .i64 nl)).setCell ⟨WA.heap.size, 1, none⟩ (.int .i64 nm)) WA.heap.size 81 #[.int .i64 nl, .int .i64 nm, .int .i64 0, .int .i64 0, .int .i64 nv, .int .i64 p.steps, .int .i64 p.coasted] ∧ Blk ((W.setCell ⟨WA.heap.size, 0, none⟩ (.int .i64 nl)).setCell ⟨WA.heap.size, 1, none⟩ (.int .i64 nm)) w.heap.size 81 #[.int .i64 0, .int .i64 0, .int .i64 0, .int .i64 0, .int .i64 0, .int .i64 0, .int .i64 0] ∧ Fresh w ((W.setCell ⟨WA.heap.size, 0, none⟩ (.int .i64 nl)).setCell ⟨WA.heap.size, 1, none⟩ (.int .i64 nm))) := Lib.hid fun W f => by
  have h1 := LW.out
  have h2 := LY.out
  refine ⟨((f.blk_ ZL.out).far (p := ⟨WA.heap.size, 0, none⟩) (by show y.g ≠ WA.heap.size; omega) _).far (p := ⟨WA.heap.size, 1, none⟩) (by show y.g ≠ WA.heap.size; omega) _, ((f.blk_ ZC.out).set_ 0 _).set_ 1 _, ((f.blk_ ZR.out).far (p := ⟨WA.heap.size, 0, none⟩) (by show w.heap.size ≠ WA.heap.size; omega) _).far (p := ⟨WA.heap.size, 1, none⟩) (by show w.heap.size ≠ WA.heap.size; omega) _, ?_⟩
  exact ((ZF.out.step f (fun _ _ h => h)).setCell (p := ⟨WA.heap.size, 0, none⟩) (fun h => by have h : WA.heap.size < w.heap.size := h; omega) _).setCell (p := ⟨WA.heap.size, 1, none⟩) (fun h => by have h : WA.heap.size < w.heap.size := h; omega) _
 have HS6 : Hid (∀ W W', Blk W WA.heap.size 81 #[.int .i64 nl, .int .i64 nm, .int .i64 0, .int .i64 0, .int .i64 nv, .int .i64 p.steps, .int .i64 p.coasted] → Blk W w.heap.size 81 #[.int .i64 0, .int .i64 0, .int .i64 0, .int .i64 0, .int .i64 0, .int .i64 0, .int .i64 0] → Fresh w W → Fresh W W' → Blk ((W'.setCell ⟨WA.heap.size, 2, none⟩ (.int .i64 ns)).setCell ⟨WA.heap.size, 3, none⟩ (.int .i64 nu)) WA.heap.size 81 #[.int .i64 nl, .int .i64 nm, .int .i64 ns, .int .i64 nu, .int .i64 nv, .int .i64 p.steps, .int .i64 p.coasted] ∧ Blk ((W'.setCell ⟨WA.heap.size, 2, none⟩ (.int .i64 ns)).setCell ⟨WA.heap.size, 3, none⟩ (.int .i64 nu)) w.heap.size 81 #[.int .i64 0, .int .i64 0, .int .i64 0, .int .i64 0, .int .i64 0, .int .i64 0, .int .i64 0] ∧ Fresh w ((W'.setCell ⟨WA.heap.size, 2, none⟩ (.int .i64 ns)).setCell ⟨WA.heap.size, 3, none⟩ (.int .i64 nu))) := Lib.hid fun W W' b1 b2 f f' => by
  have h1 := LW.out
  refine ⟨((f'.blk_ b1).set_ 2 _).set_ 3 _, ((f'.blk_ b2).far (p := ⟨WA.heap.size, 2, none⟩) (by show w.heap.size ≠ WA.heap.size; omega) _).far (p := ⟨WA.heap.size, 3, none⟩) (by show w.heap.size ≠ WA.heap.size; omega) _, ?_⟩
  exact ((f.step f' (fun _ _ h => h)).setCell (p := ⟨WA.heap.size, 2, none⟩) (fun h => by have h : WA.heap.size < w.heap.size := h; omega) _).setCell (p := ⟨WA.heap.size, 3, none⟩) (fun h => by have h : WA.heap.size < w.heap.size := h; omega) _
 refine region_T (S := fun W' => Blk W' y.g 103 (lcells c y p)) (T := []) (by kernel_rfl) ?_
 refine anyT_take (i := 0) (oi := _) (v := ?va0) rfl (by kernel_rfl) (by kernel_rfl) (by kernel_rfl) (by kernel_rfl) (fun _ _ _ h => h) (Or.inl ⟨by rfl, ?hya0⟩) HB0.out ?resta0
 case hya0 => (intro W hSw; go_simp; try with_reducible rfl)
 try simp only [List.getElem_toArray, List.getElem_cons_zero, Act.put, List.setIfInBounds_toArray, List.set_cons_zero, List.set_cons_succ]
 refine anyT_take (i := 1) (oi := _) (v := ?va1) rfl (by kernel_rfl) (by kernel_rfl) (by kernel_rfl) (by kernel_rfl) (fun _ _ _ h => h) (Or.inl ⟨by rfl, ?hya1⟩) HB0.out ?resta1
 case hya1 => (intro W hSw; go_simp; try with_reducible rfl)
 try simp only [List.getElem_toArray, List.getElem_cons_zero, List.getElem_cons_succ, Act.put, List.setIfInBounds_toArray, List.set_cons_zero, List.set_cons_succ]
 refine anyT_take (i := 2) (oi := _) (v := ?va2) rfl (by kernel_rfl) (by kernel_rfl) (by kernel_rfl) (by kernel_rfl) (fun _ _ _ h => h) (Or.inl ⟨by rfl, ?hya2⟩) HB0.out ?resta2
 case hya2 => (intro W hSw; go_simp; try with_reducible rfl)
 try simp only [List.getElem_toArray, List.getElem_cons_zero, List.getElem_cons_succ, Act.put, List.setIfInBounds_toArray, List.set_cons_zero, List.set_cons_succ]
 refine anyT_take (i := 3) (oi := _) (v := ?va3) rfl (by kernel_rfl) (by kernel_rfl) (by kernel_rfl) (by kernel_rfl) (fun _ _ _ h => h) (Or.inl ⟨by rfl, ?hya3⟩) HB0.out ?resta3
 case hya3 => (intro W hSw; go_simp; try with_reducible rfl)
 try simp only [List.getElem_toArray, List.getElem_cons_zero, List.getElem_cons_succ, Act.put, List.setIfInBounds_toArray, List.set_cons_zero, List.set_cons_succ]
 refine anyT_take (i := 5) (oi := _) (v := ?va5) rfl (by kernel_rfl) (by kernel_rfl) (by kernel_rfl) (by kernel_rfl) (fun _ _ _ h => h) (Or.inl ⟨by rfl, ?hya5⟩) HB0.out ?resta5
 case hya5 => (intro W hSw; go_simp; try with_reducible rfl)
 try simp only [List.getElem_toArray, List.getElem_cons_zero, List.getElem_cons_succ, Act.put, List.setIfInBounds_toArray, List.set_cons_zero, List.set_cons_succ]
 refine anyT_take (i := 6) (oi := _) (v := ?va6) rfl (by kernel_rfl) (by kernel_rfl) (by kernel_rfl) (by kernel_rfl) (fun _ _ _ h => h) (Or.inl ⟨by rfl, ?hya6⟩) HB0.out ?resta6
 case hya6 => (intro W hSw; go_simp; try with_reducible rfl)
 try simp only [List.getElem_toArray, List.getElem_cons_zero, List.getElem_cons_succ, Act.put, List.setIfInBounds_toArray, List.set_cons_zero, List.set_cons_succ]
 refine anyT_take (i := 7) (oi := _) (v := ?va7) rfl (by kernel_rfl) (by kernel_rfl) (by kernel_rfl) (by kernel_rfl) (fun _ _ _ h => h) (Or.inl ⟨by rfl, ?hya7⟩) HB0.out ?resta7
 case hya7 => (intro W hSw; go_simp; try with_reducible rfl)
 try simp only [List.getElem_toArray, List.getElem_cons_zero, List.getElem_cons_succ, Act.put, List.setIfInBounds_toArray, List.set_cons_zero, List.set_cons_succ]
 refine anyT_take (i := 8) (oi := _) (v := ?va8) rfl (by kernel_rfl) (by kernel_rfl) (by kernel_rfl) (by kernel_rfl) (fun _ _ _ h => h) (Or.inl ⟨by rfl, ?hya8⟩) HB0.out ?resta8
 case hya8 => (intro W hSw; go_simp; try with_reducible rfl)
 try simp only [List.getElem_toArray, List.getElem_cons_zero, List.getElem_cons_succ, Act.put, List.setIfInBounds_toArray, List.set_cons_zero, List.set_cons_succ]
 refine anyT_take (i := 9) (oi := _) (v := ?va9) rfl (by kernel_rfl) (by kernel_rfl) (by kernel_rfl) (by kernel_rfl) (fun _ _ _ h => h) (Or.inl ⟨by rfl, ?hya9⟩) HB0.out ?resta9
 case hya9 => (intro W hSw; go_simp; try with_reducible rfl)
 try simp only [List.getElem_toArray, List.getElem_cons_zero, List.getElem_cons_succ, Act.put, List.setIfInBounds_toArray, List.set_cons_zero, List.set_cons_succ]
 refine anyT_take (i := 10) (oi := _) (v := ?va10) rfl (by kernel_rfl) (by kernel_rfl) (by kernel_rfl) (by kernel_rfl) (fun _ _ _ h => h) (Or.inl ⟨by rfl, ?hya10⟩) HB0.out ?resta10
 case hya10 => (intro W hSw; go_simp; try with_reducible rfl)
 try simp only [List.getElem_toArray, List.getElem_cons_zero, List.getElem_cons_succ, Act.put, List.setIfInBounds_toArray, List.set_cons_zero, List.set_cons_succ]
 refine anyT_take (i := 11) (oi := _) (v := ?va11) rfl (by kernel_rfl) (by kernel_rfl) (by kernel_rfl) (by kernel_rfl) (fun _ _ _ h => h) (Or.inl ⟨by rfl, ?hya11⟩) HB0.out ?resta11
 case hya11 => (intro W hSw; go_simp; try with_reducible rfl)
 try simp only [List.getElem_toArray, List.getElem_cons_zero, List.getElem_cons_succ, Act.put, List.setIfInBounds_toArray, List.set_cons_zero, List.set_cons_succ]
 refine anyT_take (i := 12) (oi := _) (v := ?va12) rfl (by kernel_rfl) (by kernel_rfl) (by kernel_rfl) (by kernel_rfl) (fun _ _ _ h => h) (Or.inl ⟨by rfl, ?hya12⟩) HB0.out ?resta12
 case hya12 => (intro W hSw; go_simp; try with_reducible rfl)
 try simp only [List.getElem_toArray, List.getElem_cons_zero, List.getElem_cons_succ, Act.put, List.setIfInBounds_toArray, List.set_cons_zero, List.set_cons_succ]
 refine anyT_two (i := 4) (j := 14) (by kernel_rfl) rfl rfl (by rfl) (by rfl) (fun KQ hK => ?_) (fun KQ hK => ?_)
 ·go_simp
  go_at_call 65
  (with_reducible refine (HS.out _ FA.out).mono ?_)
  rintro e w3 ⟨rfl, rfl⟩
  refine hK.out _ _ HB0.out ?_
  clear hK KQ
  try simp only [List.getElem_toArray, List.getElem_cons_zero, List.getElem_cons_succ, Act.put, List.setIfInBounds_toArray, List.set_cons_zero, List.set_cons_succ]
  refine anyT_take (i := 13) (oi := _) (v := ?vb13) rfl (by kernel_rfl) (by kernel_rfl) (by kernel_rfl) (by kernel_rfl) (fun _ _ _ h => h) (Or.inl ⟨by rfl, ?hyb13⟩) HB0.out ?restb13
  case hyb13 => (intro W hSw; go_simp; try with_reducible rfl)
  try simp only [List.getElem_toArray, List.getElem_cons_zero, List.getElem_cons_succ, Act.put, List.setIfInBounds_toArray, List.set_cons_zero, List.set_cons_succ]
  refine anyT_one' (i := 14) (by kernel_rfl) rfl (by rfl) (fun KQ hK => ?_)
  go_simp
  refine hK.out _ _ HBA.out ?_
  clear hK KQ
  try simp only [List.getElem_toArray, List.getElem_cons_zero, List.getElem_cons_succ, Act.put, List.setIfInBounds_toArray, List.set_cons_zero, List.set_cons_succ]
  refine anyT_one' (i := 15) (by kernel_rfl) rfl (by rfl) (fun KQ hK => ?_)
  go_simp
  refine hK.out _ _ ZL.out ?_
  clear hK KQ
  try simp only [List.getElem_toArray, List.getElem_cons_zero, List.getElem_cons_succ, Act.put, List.setIfInBounds_toArray, List.set_cons_zero, List.set_cons_succ]
  refine anyT_done (by kernel_rfl) ?_
  have c1 := fun i => (ZL.out.cell i).trans (lcells_at c y p i)
  have l1 := ZL.out.lt
  clear hWZ
  go_upto_region 5 with (go_at_call 66; (with_reducible refine (HQ.out _ ZF.out).mono ?_); rintro e w4 ⟨rfl, f4⟩; have F4 := Lib.hid f4; have bx4 := f4.blk_ ZC.out; have d4 := bx4.cell; have g4 := bx4.frozen; have h4 := bx4.lt; clear f4 bx4)
  obtain ⟨h1, h2, h3, h4'⟩ := HS5.out w4 F4.out
  obtain ⟨W5, hW5⟩ : ∃ W5, (w4.setCell ⟨WA.heap.size, 0, none⟩ (.int .i64 nl)).setCell ⟨WA.heap.size, 1, none⟩ (.int .i64 nm) = W5 := ⟨_, rfl⟩
  rw [hW5] at h1 h2 h3 h4' ⊢
  have Q1 := Lib.hid h1
  have Q2 := Lib.hid h2
  have Q3 := Lib.hid h3
  have Q4 := Lib.hid h4'
  have c5 := fun i => (h1.cell i).trans (lcells_at c y p i)
  have l5 := h1.lt
  clear hW5 h1 h2 h3 h4' c1 l1 d4 g4 h4
  go_upto_region 6 with (go_at_call 67; (with_reducible refine (HO.out _ Q4.out).mono ?_); rintro e w6 ⟨rfl, f6⟩; have F6 := Lib.hid f6; have bx6 := f6.blk_ Q2.out; have d6 := bx6.cell; have g6 := bx6.frozen; have h6 := bx6.lt; clear f6 bx6)
  obtain ⟨h1, h2, h3⟩ := HS6.out W5 w6 Q2.out Q3.out Q4.out F6.out
  obtain ⟨W7, hW7⟩ : ∃ W7, (w6.setCell ⟨WA.heap.size, 2, none⟩ (.int .i64 ns)).setCell ⟨WA.heap.size, 3, none⟩ (.int .i64 nu) = W7 := ⟨_, rfl⟩
  rw [hW7] at h1 h2 h3 ⊢
  have d7 := h1.cell
  have m7 := h1.lt
  have e7 := h2.cell
  have k7 := h2.frozen
  have n7 := h2.lt
  have F7 := Lib.hid h3
  have R7 := Lib.hid h2
  clear hW7 h1 h2 h3 c5 l5 d6 g6 h6
  go_wp2_with fail
  have BF := (((((((R7.out.set_ 0 (.int .i64 nl)).set_ 1 (.int .i64 nm)).set_ 2 (.int .i64 ns)).set_ 3 (.int .i64 nu)).set_ 4 (.int .i64 nv)).set_ 5 (.int .i64 p.steps)).set_ 6 (.int .i64 p.coasted))
  have CF := BF.cell
  exact bodyPost_ret (v := .agg #[.int .i64 nl, .int .i64 nm, .int .i64 ns, .int .i64 nu, .int .i64 nv, .int .i64 p.steps, .int .i64 p.coasted]) (by simp [results, Tryz.results35, go_sem, CF]; try rfl) rfl ⟨rfl, (Keep.setCell (Keep.setCell (Keep.setCell (Keep.setCell (Keep.setCell (Keep.setCell (Keep.setCell F7.out (p := ⟨w.heap.size, 0, none⟩) (fun h => absurd h (Nat.lt_irrefl _)) (.int .i64 nl)) (p := ⟨w.heap.size, 1, none⟩) (fun h => absurd h (Nat.lt_irrefl _)) (.int .i64 nm)) (p := ⟨w.heap.size, 2, none⟩) (fun h => absurd h (Nat.lt_irrefl _)) (.int .i64 ns)) (p := ⟨w.heap.size, 3, none⟩) (fun h => absurd h (Nat.lt_irrefl _)) (.int .i64 nu)) (p := ⟨w.heap.size, 4, none⟩) (fun h => absurd h (Nat.lt_irrefl _)) (.int .i64 nv)) (p := ⟨w.heap.size, 5, none⟩) (fun h => absurd h (Nat.lt_irrefl _)) (.int .i64 p.steps)) (p := ⟨w.heap.size, 6, none⟩) (fun h => absurd h (Nat.lt_irrefl _)) (.int .i64 p.coasted))⟩
 ·go_simp
  refine hK.out _ _ HBA.out ?_
  clear hK KQ
  try simp only [List.getElem_toArray, List.getElem_cons_zero, List.getElem_cons_succ, Act.put, List.setIfInBounds_toArray, List.set_cons_zero, List.set_cons_succ]
  refine anyT_one' (i := 4) (by kernel_rfl) rfl (by rfl) (fun KQ hK => ?_)
  go_simp
  go_at_call 65
  (with_reducible refine (HS.out _ FBA.out).mono ?_)
  rintro e w3 ⟨rfl, rfl⟩
  refine hK.out _ _ HBA.out ?_
  clear hK KQ
  try simp only [List.getElem_toArray, List.getElem_cons_zero, List.getElem_cons_succ, Act.put, List.setIfInBounds_toArray, List.set_cons_zero, List.set_cons_succ]
  refine anyT_take (i := 13) (oi := _) (v := ?vc13) rfl (by kernel_rfl) (by kernel_rfl) (by kernel_rfl) (by kernel_rfl) (fun _ _ _ h => h) (Or.inl ⟨by rfl, ?hyc13⟩) HBA.out ?restc13
  case hyc13 => (intro W hSw; go_simp; try with_reducible rfl)
  try simp only [List.getElem_toArray, List.getElem_cons_zero, List.getElem_cons_succ, Act.put, List.setIfInBounds_toArray, List.set_cons_zero, List.set_cons_succ]
  refine anyT_one' (i := 15) (by kernel_rfl) rfl (by rfl) (fun KQ hK => ?_)
  go_simp
  refine hK.out _ _ ZL.out ?_
  clear hK KQ
  try simp only [List.getElem_toArray, List.getElem_cons_zero, List.getElem_cons_succ, Act.put, List.setIfInBounds_toArray, List.set_cons_zero, List.set_cons_succ]
  refine anyT_done (by kernel_rfl) ?_
  have c1 := fun i => (ZL.out.cell i).trans (lcells_at c y p i)
  have l1 := ZL.out.lt
  clear hWZ
  go_upto_region 5 with (go_at_call 66; (with_reducible refine (HQ.out _ ZF.out).mono ?_); rintro e w4 ⟨rfl, f4⟩; have F4 := Lib.hid f4; have bx4 := f4.blk_ ZC.out; have d4 := bx4.cell; have g4 := bx4.frozen; have h4 := bx4.lt; clear f4 bx4)
  obtain ⟨h1, h2, h3, h4'⟩ := HS5.out w4 F4.out
  obtain ⟨W5, hW5⟩ : ∃ W5, (w4.setCell ⟨WA.heap.size, 0, none⟩ (.int .i64 nl)).setCell ⟨WA.heap.size, 1, none⟩ (.int .i64 nm) = W5 := ⟨_, rfl⟩
  rw [hW5] at h1 h2 h3 h4' ⊢
  have Q1 := Lib.hid h1
  have Q2 := Lib.hid h2
  have Q3 := Lib.hid h3
  have Q4 := Lib.hid h4'
  have c5 := fun i => (h1.cell i).trans (lcells_at c y p i)
  have l5 := h1.lt
  clear hW5 h1 h2 h3 h4' c1 l1 d4 g4 h4
  go_upto_region 6 with (go_at_call 67; (with_reducible refine (HO.out _ Q4.out).mono ?_); rintro e w6 ⟨rfl, f6⟩; have F6 := Lib.hid f6; have bx6 := f6.blk_ Q2.out; have d6 := bx6.cell; have g6 := bx6.frozen; have h6 := bx6.lt; clear f6 bx6)
  obtain ⟨h1, h2, h3⟩ := HS6.out W5 w6 Q2.out Q3.out Q4.out F6.out
  obtain ⟨W7, hW7⟩ : ∃ W7, (w6.setCell ⟨WA.heap.size, 2, none⟩ (.int .i64 ns)).setCell ⟨WA.heap.size, 3, none⟩ (.int .i64 nu) = W7 := ⟨_, rfl⟩
  rw [hW7] at h1 h2 h3 ⊢
  have d7 := h1.cell
  have m7 := h1.lt
  have e7 := h2.cell
  have k7 := h2.frozen
  have n7 := h2.lt
  have F7 := Lib.hid h3
  have R7 := Lib.hid h2
  clear hW7 h1 h2 h3 c5 l5 d6 g6 h6
  go_wp2_with fail
  have BF := (((((((R7.out.set_ 0 (.int .i64 nl)).set_ 1 (.int .i64 nm)).set_ 2 (.int .i64 ns)).set_ 3 (.int .i64 nu)).set_ 4 (.int .i64 nv)).set_ 5 (.int .i64 p.steps)).set_ 6 (.int .i64 p.coasted))
  have CF := BF.cell
  exact bodyPost_ret (v := .agg #[.int .i64 nl, .int .i64 nm, .int .i64 ns, .int .i64 nu, .int .i64 nv, .int .i64 p.steps, .int .i64 p.coasted]) (by simp [results, Tryz.results35, go_sem, CF]; try rfl) rfl ⟨rfl, (Keep.setCell (Keep.setCell (Keep.setCell (Keep.setCell (Keep.setCell (Keep.setCell (Keep.setCell F7.out (p := ⟨w.heap.size, 0, none⟩) (fun h => absurd h (Nat.lt_irrefl _)) (.int .i64 nl)) (p := ⟨w.heap.size, 1, none⟩) (fun h => absurd h (Nat.lt_irrefl _)) (.int .i64 nm)) (p := ⟨w.heap.size, 2, none⟩) (fun h => absurd h (Nat.lt_irrefl _)) (.int .i64 ns)) (p := ⟨w.heap.size, 3, none⟩) (fun h => absurd h (Nat.lt_irrefl _)) (.int .i64 nu)) (p := ⟨w.heap.size, 4, none⟩) (fun h => absurd h (Nat.lt_irrefl _)) (.int .i64 nv)) (p := ⟨w.heap.size, 5, none⟩) (fun h => absurd h (Nat.lt_irrefl _)) (.int .i64 p.steps)) (p := ⟨w.heap.size, 6, none⟩) (fun h => absurd h (Nat.lt_irrefl _)) (.int .i64 p.coasted))⟩
def NewP (y : PV) (w : World) : Prop := ∀ k, lfoot y k → w.heap.size ≤ k
def LCopyP (c : LC) (p : LPs) (w : World) (e : Ending) (w' : World) : Prop := ∃ y', e = .returned (.pointer (some ⟨y'.g, 0, none⟩)) ∧ SLP w' c y' p ∧ Fresh w w' ∧ NewP y' w
theorem lcopy_any (c : LC) (y : PV) (p : LPs) (w : World) (h : SLP w c y p) (hl : p.l.length ≤ 100000) (hm : p.m.length ≤ 100000) (hq : p.q.length ≤ 100000) (hs : 0 < p.sv.length) (hs2 : p.sv.length ≤ 100000) : Calls Tryz.prog 33 #[.pointer (some ⟨y.g, 0, none⟩)] w (LCopyP c p w) := by
 have HQ : Hid (∀ W, Fresh w W → Calls Tryz.prog 58 #[.pointer (some ⟨y.gq, 0, none⟩)] W (CopyP p.l p.m W)) := Lib.hid fun W f => copy_any y.gq y.v1 y.v2 p.l p.m W (h.sq.fresh f) hl hm
 have HO : Hid (∀ W, Fresh w W → Calls Tryz.prog 59 #[.pointer (some ⟨y.go, 0, none⟩)] W (OCopyP p.q W)) := Lib.hid fun W f => ocopy_any y.go y.v3 p.q W (h.oq.fresh f) hq
 have HR : Hid (∀ W, Fresh w W → Calls Tryz.prog 60 #[.pointer (some ⟨y.gr, 0, none⟩)] W fun e w' => ∃ g' v', e = .returned (.pointer (some ⟨g', 0, none⟩)) ∧ RS.SRow w' g' v' p.sv ∧ Fresh W w' ∧ W.heap.size ≤ g' ∧ ∀ k, v'.ownBlock = some k → W.heap.size ≤ k) := Lib.hid fun W f => RS.copy_any y.gr y.v4 p.sv W (h.sr.fresh f) hs hs2
 have c0 := fun i => (h.blk.cell i).trans (lcells_at c y p i)
 have l0 := h.blk.lt
 have HB := Lib.hid h.blk
 clear h
 unfold CopyP at HQ
 unfold OCopyP at HO
 have y0 := fun (W' : World) (h : Blk W' y.g 103 (lcells c y p)) (i : Nat) => (h.cell i).trans (lcells_at c y p i)
 have y1 := fun (W' : World) (h : Blk W' y.g 103 (lcells c y p)) => h.lt
 go_enter Tryz.func33, Tryz.ntmps33
 go_wp2_with fail
 obtain ⟨WA, hWA⟩ : ∃ WA, w.alloc (.cells (lcells c y p) 103) = WA := ⟨_, rfl⟩
 have HB0 : Hid (Blk WA.drew y.g 103 (lcells c y p)) := Lib.hid (hWA ▸ (HB.out.alloc _).drew)
 have HX0 : Hid (Blk WA w.heap.size 103 (lcells c y p)) := Lib.hid (hWA ▸ Blk.new w _ _)
 have FA : Hid (Fresh w WA.drew) := Lib.hid (hWA ▸ ((Keep.refl _ w).alloc _).drew)
 have LA : Hid (w.heap.size < WA.drew.heap.size) := Lib.hid HX0.out.lt
 unfold lcells rulesV at hWA
 rw [hWA]
 clear hWA c0 l0
 refine region_T (S := fun W' => Blk W' y.g 103 (lcells c y p)) (T := []) (by kernel_rfl) ?_
 refine anyT_take (i := 0) (oi := _) (v := ?vd0) rfl (by kernel_rfl) (by kernel_rfl) (by kernel_rfl) (by kernel_rfl) (fun _ _ _ h => h) (Or.inl ⟨by rfl, ?hyd0⟩) HB0.out ?restd0
 case hyd0 => (intro W hSw; go_simp; try with_reducible rfl)
 try simp only [List.getElem_toArray, List.getElem_cons_zero, Act.put, List.setIfInBounds_toArray, List.set_cons_zero, List.set_cons_succ]
 refine anyT_take (i := 1) (oi := _) (v := ?vd1) rfl (by kernel_rfl) (by kernel_rfl) (by kernel_rfl) (by kernel_rfl) (fun _ _ _ h => h) (Or.inl ⟨by rfl, ?hyd1⟩) HB0.out ?restd1
 case hyd1 => (intro W hSw; go_simp; try with_reducible rfl)
 try simp only [List.getElem_toArray, List.getElem_cons_zero, List.getElem_cons_succ, Act.put, List.setIfInBounds_toArray, List.set_cons_zero, List.set_cons_succ]
 refine anyT_take (i := 2) (oi := _) (v := ?vd2) rfl (by kernel_rfl) (by kernel_rfl) (by kernel_rfl) (by kernel_rfl) (fun _ _ _ h => h) (Or.inl ⟨by rfl, ?hyd2⟩) HB0.out ?restd2
 case hyd2 => (intro W hSw; go_simp; try with_reducible rfl)
 try simp only [List.getElem_toArray, List.getElem_cons_zero, List.getElem_cons_succ, Act.put, List.setIfInBounds_toArray, List.set_cons_zero, List.set_cons_succ]
 refine anyT_take (i := 3) (oi := _) (v := ?vd3) rfl (by kernel_rfl) (by kernel_rfl) (by kernel_rfl) (by kernel_rfl) (fun _ _ _ h => h) (Or.inl ⟨by rfl, ?hyd3⟩) HB0.out ?restd3
 case hyd3 => (intro W hSw; go_simp; try with_reducible rfl)
 try simp only [List.getElem_toArray, List.getElem_cons_zero, List.getElem_cons_succ, Act.put, List.setIfInBounds_toArray, List.set_cons_zero, List.set_cons_succ]
 refine anyT_take (i := 5) (oi := _) (v := ?vd5) rfl (by kernel_rfl) (by kernel_rfl) (by kernel_rfl) (by kernel_rfl) (fun _ _ _ h => h) (Or.inl ⟨by rfl, ?hyd5⟩) HB0.out ?restd5
 case hyd5 => (intro W hSw; go_simp; try with_reducible rfl)
 try simp only [List.getElem_toArray, List.getElem_cons_zero, List.getElem_cons_succ, Act.put, List.setIfInBounds_toArray, List.set_cons_zero, List.set_cons_succ]
 refine anyT_take (i := 6) (oi := _) (v := ?vd6) rfl (by kernel_rfl) (by kernel_rfl) (by kernel_rfl) (by kernel_rfl) (fun _ _ _ h => h) (Or.inl ⟨by rfl, ?hyd6⟩) HB0.out ?restd6
 case hyd6 => (intro W hSw; go_simp; try with_reducible rfl)
 try simp only [List.getElem_toArray, List.getElem_cons_zero, List.getElem_cons_succ, Act.put, List.setIfInBounds_toArray, List.set_cons_zero, List.set_cons_succ]
 refine anyT_take (i := 7) (oi := _) (v := ?vd7) rfl (by kernel_rfl) (by kernel_rfl) (by kernel_rfl) (by kernel_rfl) (fun _ _ _ h => h) (Or.inl ⟨by rfl, ?hyd7⟩) HB0.out ?restd7
 case hyd7 => (intro W hSw; go_simp; try with_reducible rfl)
 try simp only [List.getElem_toArray, List.getElem_cons_zero, List.getElem_cons_succ, Act.put, List.setIfInBounds_toArray, List.set_cons_zero, List.set_cons_succ]
 refine anyT_take (i := 8) (oi := _) (v := ?vd8) rfl (by kernel_rfl) (by kernel_rfl) (by kernel_rfl) (by kernel_rfl) (fun _ _ _ h => h) (Or.inl ⟨by rfl, ?hyd8⟩) HB0.out ?restd8
 case hyd8 => (intro W hSw; go_simp; try with_reducible rfl)
 try simp only [List.getElem_toArray, List.getElem_cons_zero, List.getElem_cons_succ, Act.put, List.setIfInBounds_toArray, List.set_cons_zero, List.set_cons_succ]
 refine anyT_take (i := 10) (oi := _) (v := ?vd10) rfl (by kernel_rfl) (by kernel_rfl) (by kernel_rfl) (by kernel_rfl) (fun _ _ _ h => h) (Or.inl ⟨by rfl, ?hyd10⟩) HB0.out ?restd10
 case hyd10 => (intro W hSw; go_simp; try with_reducible rfl)
 try simp only [List.getElem_toArray, List.getElem_cons_zero, List.getElem_cons_succ, Act.put, List.setIfInBounds_toArray, List.set_cons_zero, List.set_cons_succ]
 refine anyT_take (i := 11) (oi := _) (v := ?vd11) rfl (by kernel_rfl) (by kernel_rfl) (by kernel_rfl) (by kernel_rfl) (fun _ _ _ h => h) (Or.inl ⟨by rfl, ?hyd11⟩) HB0.out ?restd11
 case hyd11 => (intro W hSw; go_simp; try with_reducible rfl)
 try simp only [List.getElem_toArray, List.getElem_cons_zero, List.getElem_cons_succ, Act.put, List.setIfInBounds_toArray, List.set_cons_zero, List.set_cons_succ]
 refine anyT_take (i := 12) (oi := _) (v := ?vd12) rfl (by kernel_rfl) (by kernel_rfl) (by kernel_rfl) (by kernel_rfl) (fun _ _ _ h => h) (Or.inl ⟨by rfl, ?hyd12⟩) HB0.out ?restd12
 case hyd12 => (intro W hSw; go_simp; try with_reducible rfl)
 try simp only [List.getElem_toArray, List.getElem_cons_zero, List.getElem_cons_succ, Act.put, List.setIfInBounds_toArray, List.set_cons_zero, List.set_cons_succ]
 refine anyT_take (i := 13) (oi := _) (v := ?vd13) rfl (by kernel_rfl) (by kernel_rfl) (by kernel_rfl) (by kernel_rfl) (fun _ _ _ h => h) (Or.inl ⟨by rfl, ?hyd13⟩) HB0.out ?restd13
 case hyd13 => (intro W hSw; go_simp; try with_reducible rfl)
 try simp only [List.getElem_toArray, List.getElem_cons_zero, List.getElem_cons_succ, Act.put, List.setIfInBounds_toArray, List.set_cons_zero, List.set_cons_succ]
 refine anyT_one' (i := 4) (by kernel_rfl) rfl (by rfl) (fun KQ hK => ?_)
 go_simp
 go_at_call 58
 (with_reducible refine (HQ.out _ FA.out).mono ?_)
 rintro e w1 ⟨gq, v1, v2, rfl, q1, f1, n1⟩
 have HB1 := Lib.hid (f1.blk_ HB0.out)
 have Q1 := Lib.hid q1
 have F1 : Hid (Fresh w w1) := Lib.hid (FA.out.step f1 (fun _ _ h => h))
 have X1 := Lib.hid (f1.blk_ HX0.out.drew)
 have N1 : Hid (∀ k, foot gq v1 v2 k → w.heap.size < k) := Lib.hid (fun k hk => Nat.lt_of_lt_of_le LA.out (n1 k hk))
 clear q1 f1 n1
 refine hK.out _ _ HB1.out ?_
 clear hK KQ
 try simp only [List.getElem_toArray, List.getElem_cons_zero, List.getElem_cons_succ, Act.put, List.setIfInBounds_toArray, List.set_cons_zero, List.set_cons_succ]
 refine anyT_one' (i := 9) (by kernel_rfl) rfl (by rfl) (fun KQ hK => ?_)
 go_simp
 go_at_call 59
 (with_reducible refine (HO.out _ F1.out).mono ?_)
 rintro e w2 ⟨go, v3, rfl, o2, f2, n2⟩
 have HB2 := Lib.hid (f2.blk_ HB1.out)
 have Q2 := Lib.hid (Q1.out.fresh f2)
 have O2 := Lib.hid o2
 have F2 : Hid (Fresh w w2) := Lib.hid (F1.out.step f2 (fun _ _ h => h))
 have X2 := Lib.hid (f2.blk_ X1.out)
 have N2 : Hid (∀ k, ofoot go v3 k → w.heap.size < k) := Lib.hid (fun k hk => Nat.lt_of_lt_of_le X1.out.lt (n2 k hk))
 clear o2 f2 n2
 refine hK.out _ _ HB2.out ?_
 clear hK KQ
 try simp only [List.getElem_toArray, List.getElem_cons_zero, List.getElem_cons_succ, Act.put, List.setIfInBounds_toArray, List.set_cons_zero, List.set_cons_succ]
 refine anyT_one' (i := 14) (by kernel_rfl) rfl (by rfl) (fun KQ hK => ?_)
 go_simp
 go_at_call 60
 (with_reducible refine (HR.out _ F2.out).mono ?_)
 rintro e w3 ⟨gr, v4, rfl, r3, f3, n3, n4⟩
 have HB3 := Lib.hid (f3.blk_ HB2.out)
 have Q3 := Lib.hid (Q2.out.fresh f3)
 have O3 := Lib.hid (O2.out.fresh f3)
 have R3 := Lib.hid r3
 have F3 : Hid (Fresh w w3) := Lib.hid (F2.out.step f3 (fun _ _ h => h))
 have X3 := Lib.hid (f3.blk_ X2.out)
 have N3 : Hid (w.heap.size < gr ∧ ∀ k, v4.ownBlock = some k → w.heap.size < k) := Lib.hid ⟨Nat.lt_of_lt_of_le X2.out.lt n3, fun k hk => Nat.lt_of_lt_of_le X2.out.lt (n4 k hk)⟩
 clear r3 f3 n3 n4
 refine hK.out _ _ HB3.out ?_
 clear hK KQ
 try simp only [List.getElem_toArray, List.getElem_cons_zero, List.getElem_cons_succ, Act.put, List.setIfInBounds_toArray, List.set_cons_zero, List.set_cons_succ]
 have d3 := X3.out.cell
 have g3 := X3.out.frozen
 have l3 := X3.out.lt
 have NE : Hid (y.g ≠ w.heap.size) := Lib.hid (fun e => by have := HB.out.lt; omega)
 refine anyT_take (i := 15) (oi := _) (v := ?vd15) rfl (by kernel_rfl) (by kernel_rfl) (by kernel_rfl) (by kernel_rfl) (fun _ _ _ h => h) (Or.inl ⟨by rfl, ?hyd15⟩) HB3.out ?restd15
 case hyd15 => (intro W hSw; go_simp; try with_reducible rfl)
 try simp only [List.getElem_toArray, List.getElem_cons_zero, List.getElem_cons_succ, Act.put, List.setIfInBounds_toArray, List.set_cons_zero, List.set_cons_succ]
 refine anyT_one' (i := 16) (by kernel_rfl) rfl (by rfl) (fun KQ hK => ?_)
 go_simp
 have S16 := Lib.hid (HB3.out.far (p := ⟨w.heap.size, 0, none⟩) NE.out (.pointer (some ⟨gq, 0, none⟩)))
 refine hK.out _ _ S16.out ?_
 clear hK KQ
 try simp only [Act.put]
 refine anyT_take (i := 17) (oi := _) (v := ?vd17) rfl (by kernel_rfl) (by kernel_rfl) (by kernel_rfl) (by kernel_rfl) (fun _ _ _ h => h) (Or.inl ⟨by rfl, ?hyd17⟩) S16.out ?restd17
 case hyd17 => (intro W hSw; go_simp; try with_reducible rfl)
 try simp only [List.getElem_toArray, List.getElem_cons_zero, List.getElem_cons_succ, Act.put, List.setIfInBounds_toArray, List.set_cons_zero, List.set_cons_succ]
 refine anyT_one' (i := 18) (by kernel_rfl) rfl (by rfl) (fun KQ hK => ?_)
 go_simp
 have S18 := Lib.hid (S16.out.far (p := ⟨w.heap.size, 5, none⟩) NE.out (.pointer (some ⟨go, 0, none⟩)))
 refine hK.out _ _ S18.out ?_
 clear hK KQ
 try simp only [Act.put]
 refine anyT_take (i := 19) (oi := _) (v := ?vd19) rfl (by kernel_rfl) (by kernel_rfl) (by kernel_rfl) (by kernel_rfl) (fun _ _ _ h => h) (Or.inl ⟨by rfl, ?hyd19⟩) S18.out ?restd19
 case hyd19 => (intro W hSw; go_simp; try with_reducible rfl)
 try simp only [List.getElem_toArray, List.getElem_cons_zero, List.getElem_cons_succ, Act.put, List.setIfInBounds_toArray, List.set_cons_zero, List.set_cons_succ]
 refine anyT_one' (i := 20) (by kernel_rfl) rfl (by rfl) (fun KQ hK => ?_)
 go_simp
 have S20 := Lib.hid (S18.out.far (p := ⟨w.heap.size, 6, none⟩) NE.out (.pointer (some ⟨gr, 0, none⟩)))
 refine hK.out _ _ S20.out ?_
 clear hK KQ
 try simp only [Act.put]
 refine anyT_done (by kernel_rfl) ?_
 clear y0 y1
 go_wp2_with fail
 go_returns
 have K : Keep (fun k => k = w.heap.size) w3 (((w3.setCell ⟨w.heap.size, 0, none⟩ (.pointer (some ⟨gq, 0, none⟩))).setCell ⟨w.heap.size, 5, none⟩ (.pointer (some ⟨go, 0, none⟩))).setCell ⟨w.heap.size, 6, none⟩ (.pointer (some ⟨gr, 0, none⟩))) := (((Keep.refl (fun k => k = w.heap.size) w3).setCell (p := ⟨w.heap.size, 0, none⟩) (fun _ => rfl) _).setCell (p := ⟨w.heap.size, 5, none⟩) (fun _ => rfl) _).setCell (p := ⟨w.heap.size, 6, none⟩) (fun _ => rfl) _
 refine ⟨⟨w.heap.size, gq, go, gr, v1, v2, v3, v4⟩, rfl, ⟨((X3.out.set_ 0 (.pointer (some ⟨gq, 0, none⟩))).set_ 5 (.pointer (some ⟨go, 0, none⟩))).set_ 6 (.pointer (some ⟨gr, 0, none⟩)), Q3.out.kept K (fun i hi e => by have := N1.out i hi; omega), O3.out.kept K (fun i hi e => by have := N2.out i hi; omega), R3.out.kept K (fun e => by have := N3.out.1; omega) (fun i hi e => by have := N3.out.2 i hi; omega)⟩, F3.out.step K (fun k hk e => by omega), ?_⟩
 rintro k (rfl | hk | hk | (rfl | hk))
 ·exact Nat.le_refl _
 ·exact Nat.le_of_lt (N1.out k hk)
 ·exact Nat.le_of_lt (N2.out k hk)
 ·exact Nat.le_of_lt N3.out.1
 ·exact Nat.le_of_lt (N3.out.2 k hk)
end Go.Proofs.YthbcdkeammhakaaGreat
