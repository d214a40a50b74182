/- Chapter 13: SavF. -/
import Derived.Test.YthbcdkeammhakaaGreatP11
import Derived.Test.YthbcdkeammhakaaGreatP12
import Derived.Handy
import Derived.BigQuiet
import Derived.BigRegion
import Derived.Deep.QuietTactic
import Derived.Deep.RegionHeld3
import Derived.Deep.LoopGhost
import Derived.StillTailTactics
import Derived.LaidEqlPtr
import Derived.Lib.LazyBuf
set_option maxRecDepth 100000
set_option maxHeartbeats 16000000
namespace Go.Proofs.YthbcdkeammhakaaGreat.RS
open Go.RowKit
def scells (l : List (Int × St)) : List Value := l.flatMap fun s => (.int .i64 s.1 :: s.2.cells)
theorem scells_append (l m : List (Int × St)) : scells (l ++ m) = scells l ++ scells m := by simp [scells]
theorem scells_at : ∀ (l : List (Int × St)) (k : Nat) (s : Int × St), l[k]? = some s → (scells l)[k * 5]? = some (.int .i64 s.1) ∧ (scells l)[k * 5 + 1]? = some (.int .i64 s.2.s0) ∧ (scells l)[k * 5 + 2]? = some (.int .i64 s.2.s1) ∧ (scells l)[k * 5 + 3]? = some (.int .i64 s.2.s2) ∧ (scells l)[k * 5 + 4]? = some (.int .i64 s.2.s3)
 | [], _, _, h => by simp at h
 | a :: l, 0, s, h => by
  simp at h
  subst h
  exact ⟨rfl, rfl, rfl, rfl, rfl⟩
 | a :: l, k + 1, s, h => by
  have := scells_at l k s (by simpa using h)
  have e : scells (a :: l) = .int .i64 a.1 :: .int .i64 a.2.s0 :: .int .i64 a.2.s1 :: .int .i64 a.2.s2 :: .int .i64 a.2.s3 :: scells l := rfl
  rw [e, show (k + 1) * 5 = k * 5 + 5 by omega, show k * 5 + 5 + 1 = (k * 5 + 1) + 5 by omega, show k * 5 + 5 + 2 = (k * 5 + 2) + 5 by omega, show k * 5 + 5 + 3 = (k * 5 + 3) + 5 by omega, show k * 5 + 5 + 4 = (k * 5 + 4) + 5 by omega]
  exact this
theorem scells_drop (l : List (Int × St)) (a : Nat) : (scells l).drop (a * 5) = scells (l.drop a) := by
 induction a generalizing l with
 | zero => simp
 | succ a ih =>
  cases l with
  | nil => simp [scells]
  | cons s l => rw [show (a + 1) * 5 = a * 5 + 5 by omega]; exact ih l
theorem scells_take (l : List (Int × St)) (a : Nat) : (scells l).take (a * 5) = scells (l.take a) := by
 induction a generalizing l with
 | zero => simp [scells]
 | succ a ih =>
  cases l with
  | nil => simp [scells]
  | cons s l =>
   have e : scells (s :: l) = .int .i64 s.1 :: .int .i64 s.2.s0 :: .int .i64 s.2.s1 :: .int .i64 s.2.s2 :: .int .i64 s.2.s3 :: scells l := rfl
   rw [e, show (a + 1) * 5 = a * 5 + 5 by omega, List.take_succ_cons, List.take_succ_cons, List.take_succ_cons, List.take_succ_cons, List.take_succ_cons, ih, List.take_succ_cons]
   rfl
theorem scells_one (l : List (Int × St)) : ∀ u ∈ scells l, u.oneCell' = true := by
 intro u hu
 simp only [scells, St.cells, List.mem_flatMap] at hu
 obtain ⟨s, _, hs⟩ := hu
 simp at hs
 rcases hs with rfl | rfl | rfl | rfl | rfl <;> rfl
def TwoB (W : World) (g1 : Nat) (t1 : TypeId) (c1 : Array Value) (g2 : Nat) (t2 : TypeId) (c2 : Array Value) : Prop := Blk W g1 t1 c1 ∧ Blk W g2 t2 c2
structure SRow (w : World) (g : Nat) (v : Value) (l : List (Int × St)) : Prop where
 blk : Blk w g 167 #[v]
 own : OwnS w 163 5 v l.length (scells l)
def foot (g : Nat) (v : Value) (k : Nat) : Prop := k = g ∨ v.ownBlock = some k
def Later (w : World) (v v' : Value) : Prop := ∀ k, v'.ownBlock = some k → v.ownBlock = some k ∨ w.heap.size ≤ k
theorem SRow.kept {w w' : World} {g : Nat} {v : Value} {l : List (Int × St)} {S : Nat → Prop} (h : SRow w g v l) (hk : Keep S w w') (hg : ¬ S g) (hv : ∀ k, v.ownBlock = some k → ¬ S k) : SRow w' g v l :=
 ⟨h.blk.keep hk hg, h.own.kept hk hv⟩
theorem SRow.fresh {w w' : World} {g : Nat} {v : Value} {l : List (Int × St)} (h : SRow w g v l) (hk : Fresh w w') : SRow w' g v l := h.kept hk (fun h => h) (fun _ _ h => h)
theorem SRow.lt {w : World} {g : Nat} {v : Value} {l : List (Int × St)} (h : SRow w g v l) : ∀ k, foot g v k → k < w.heap.size := by
 rintro k (rfl | hk)
 ·exact h.blk.lt
 ·exact h.own.lt hk
def upTo (l : List (Int × St)) (below : Int) : Nat := (l.takeWhile fun s => decide (s.1 < below)).length
theorem upTo_le (l : List (Int × St)) (below : Int) : upTo l below ≤ l.length := (List.takeWhile_prefix _).length_le
theorem upTo_eq : ∀ (l : List (Int × St)) (below : Int) (k : Nat), (∀ j s, j < k → l[j]? = some s → s.1 < below) → k ≤ l.length → (∀ s, l[k]? = some s → ¬ s.1 < below) → upTo l below = k
 | [], _, k, _, hk, _ => by simp at hk; subst hk; rfl
 | a :: l, b, 0, _, _, h => by
  have := h a rfl
  simp [upTo, this]
 | a :: l, b, k + 1, h1, h2, h3 => by
  have ha := h1 0 a (by omega) rfl
  have := upTo_eq l b k (fun j s hj hs => h1 (j + 1) s (by omega) (by simpa using hs)) (by simpa using h2) (fun s hs => h3 s (by simpa using hs))
  simp only [upTo, List.takeWhile_cons, ha, decide_true, if_true, List.length_cons] at this ⊢
  omega
theorem upTo_any (g : Nat) (v : Value) (l : List (Int × St)) (below : Int) (w : World) (h : SRow w g v l) :
  Calls Tryz.prog 106 #[.pointer (some ⟨g, 0, none⟩), .int .i64 below] w fun e w' => e = .returned (.int .i64 (upTo l below)) ∧ w = w' := by
 have hb := h.blk.cell_ 0 rfl
 obtain ⟨A, cap, hv, hn, hm⟩ := h.own.shape
 subst hv
 have HO := Lib.hid h.own
 clear h
 have hm : cap ≤ 9223372036854775807 := by unfold maxLen at hm; omega
 go_enter Tryz.func106, Tryz.ntmps106
 go_wp2_with fail
 go_loop [5] (fun v => ∃ k : Nat, k ≤ l.length ∧ v = .int .i64 k ∧ ∀ j s, j < k → l[j]? = some s → s.1 < below) (fun v => l.length - (intOf v).toNat)
 case atStart => exact ⟨0, Nat.zero_le _, rfl, fun j s h => absurd h (by omega)⟩
 case round =>
  obtain ⟨k, hk, rfl, hlt⟩ := hrel
  have HL := Lib.hid hlt
  clear hlt
  by_cases hkl : k < l.length
  ·obtain ⟨g', off, cap', hv, _, _, _, hc⟩ := HO.out.form (by omega)
   injection hv with e1 e2 e3
   subst e1 e3
   obtain ⟨s, hs⟩ : ∃ s, l[k]? = some s := ⟨_, List.getElem?_eq_getElem hkl⟩
   have hcell := hc _ _ (scells_at l k s hs).1
   have HS := Lib.hid hs
   clear hc hs
   by_cases hb2 : s.1 < below
   ·go_wp2_with fail
    go_round
    case rel => exact ⟨k + 1, by omega, by go_num, fun j s' hj hs' => by
     by_cases hjk : j = k
     ·subst hjk
      rw [HS.out] at hs'
      injection hs' with hs'
      subst hs'
      exact hb2
     ·exact HL.out j s' (by omega) hs'⟩
    case measure => simp [intOf]; omega
   ·have hfin : upTo l below = k := upTo_eq l below k HL.out hk (fun s' hs' => by rw [HS.out] at hs'; injection hs' with hs'; subst hs'; exact hb2)
    have HF := Lib.hid hfin
    clear hfin
    have hd : decide (s.1 < below) = false := by simpa using hb2
    go_wp2_with fail
    go_ret
    exact ⟨by rw [HF.out]; rfl, rfl⟩
  ·have hfin : upTo l below = k := upTo_eq l below k HL.out hk (fun s' hs' => absurd (List.getElem?_eq_some_iff.1 hs').1 hkl)
   have HF := Lib.hid hfin
   clear hfin
   have hd : decide (k < l.length) = false := by simpa using hkl
   go_wp2_with fail
   go_ret
   exact ⟨by rw [HF.out]; rfl, rfl⟩
theorem info_save : (Tryz.prog.info? 163).map (fun i => (i.zero, i.size, i.bytes)) = some (some (.agg #[.int .i64 0, .int .i64 0, .int .i64 0, .int .i64 0, .int .i64 0]), 5, 40) := by kernel_rfl
theorem save_ok (g : Nat) (v : Value) (l : List (Int × St)) (last : Int × St) (at_ : Int) (x : St) (w : World) (h : SRow w g v (l ++ [last])) (h1 : last.1 < at_) (h2 : at_ ≤ 1073741824) (hl : l.length ≤ 100000) :
  Calls Tryz.prog 100 #[.pointer (some ⟨g, 0, none⟩), .int .i64 at_, x.val] w fun e w' => e = .returned (.int .i64 0) ∧ ∃ v', SRow w' g v' (l ++ [last] ++ [(at_, x)]) ∧ Keep (foot g v) w w' ∧ Later w v v' := by
 obtain ⟨s0, s1, s2, s3⟩ := x
 unfold St.val
 simp only
 have hb := h.blk.cell_ 0 rfl
 have hf := h.blk.frozen 0
 have hg := h.blk.lt
 obtain ⟨g', off, cap, hv, hlt, hn, hm, hc⟩ := h.own.form (by simp)
 subst hv
 have HS := Lib.hid h
 have hm : cap ≤ 9223372036854775807 := by unfold maxLen at hm; omega
 have hcell := hc _ _ (scells_at (l ++ [last]) l.length last (by simp)).1
 rw [List.length_append, List.length_singleton] at hb hn
 clear hc h
 have hp : (0 : Int) < (l.length : Int) + 1 := by omega
 have h1' : decide (at_ ≤ last.1) = false := by simp; omega
 have hown : OwnS w 163 5 (.slice (some ⟨g', off, none⟩) (l.length + 1) cap) (l.length + 1) (scells (l ++ [last])) := by simpa using HS.out.own
 have hblk : Blk w g 167 #[.slice (some ⟨g', off, none⟩) (l.length + 1) cap] := by simpa using HS.out.blk
 have hne := hown.ne_blk hblk (by decide)
 have HO := Lib.hid hown
 have HB := Lib.hid hblk
 have HN := Lib.hid hne
 clear hown hblk hne HS
 obtain ⟨i0, hi, hz0, hz1, hz2⟩ := info_parts info_save
 have hsz : (w.alloc (.cells #[.int .i64 s0, .int .i64 s1, .int .i64 s2, .int .i64 s3] 23)).heap.size = w.heap.size + 1 := by simp
 have HC : Hid (Src (((w.alloc (.cells #[.int .i64 s0, .int .i64 s1, .int .i64 s2, .int .i64 s3] 23)).drew).alloc (.cells #[.int .i64 at_, .int .i64 s0, .int .i64 s1, .int .i64 s2, .int .i64 s3] 163)) 5 (.slice (some ⟨w.heap.size + 1, 0, none⟩) 1 1) 1 (scells [(at_, ⟨s0, s1, s2, s3⟩)])) := by
  have := Src.one_new ((w.alloc (.cells #[.int .i64 s0, .int .i64 s1, .int .i64 s2, .int .i64 s3] 23)).drew) 163 5 #[.int .i64 at_, .int .i64 s0, .int .i64 s1, .int .i64 s2, .int .i64 s3] rfl
  rw [show ((w.alloc (.cells #[.int .i64 s0, .int .i64 s1, .int .i64 s2, .int .i64 s3] 23)).drew).heap.size = w.heap.size + 1 from hsz] at this
  exact Lib.hid this
 have h02 : Hid (0 < 5) := Lib.hid (by omega)
 have hL1 : l.length + 1 + 1 ≤ maxLen := one_le_maxLen (by omega)
 have hL2 : (l.length + 1 + 1) * 40 ≤ 140737488355328 := by omega
 have HS0 : Hid (TwoB ((w.alloc (.cells #[.int .i64 s0, .int .i64 s1, .int .i64 s2, .int .i64 s3] 23)).drew) g 167 #[.slice (some ⟨g', off, none⟩) (l.length + 1) cap] w.heap.size 23 #[.int .i64 s0, .int .i64 s1, .int .i64 s2, .int .i64 s3]) := Lib.hid ⟨(HB.out.alloc _).drew, (Blk.new w _ _).drew⟩
 have HS1 : Hid (TwoB (((w.alloc (.cells #[.int .i64 s0, .int .i64 s1, .int .i64 s2, .int .i64 s3] 23)).drew).alloc (.cells #[.int .i64 at_, .int .i64 s0, .int .i64 s1, .int .i64 s2, .int .i64 s3] 163)) g 167 #[.slice (some ⟨g', off, none⟩) (l.length + 1) cap] w.heap.size 23 #[.int .i64 s0, .int .i64 s1, .int .i64 s2, .int .i64 s3]) := Lib.hid ⟨HS0.out.1.alloc _, HS0.out.2.alloc _⟩
 have HO2 : Hid (OwnS (((w.alloc (.cells #[.int .i64 s0, .int .i64 s1, .int .i64 s2, .int .i64 s3] 23)).drew).alloc (.cells #[.int .i64 at_, .int .i64 s0, .int .i64 s1, .int .i64 s2, .int .i64 s3] 163)) 163 5 (.slice (some ⟨g', off, none⟩) (l.length + 1) cap) (l.length + 1) (scells (l ++ [last]))) := Lib.hid (((HO.out.alloc _).drewN 1).alloc _)
 have HK7 : Hid (∀ w7, Keep (fun k => (Value.slice (some ⟨g', off, none⟩) (l.length + 1) cap).ownBlock = some k) (((w.alloc (.cells #[.int .i64 s0, .int .i64 s1, .int .i64 s2, .int .i64 s3] 23)).drew).alloc (.cells #[.int .i64 at_, .int .i64 s0, .int .i64 s1, .int .i64 s2, .int .i64 s3] 163)) w7 → TwoB w7 g 167 #[.slice (some ⟨g', off, none⟩) (l.length + 1) cap] w.heap.size 23 #[.int .i64 s0, .int .i64 s1, .int .i64 s2, .int .i64 s3]) := Lib.hid fun w7 k7 => ⟨HS1.out.1.keep k7 HN.out, HS1.out.2.keep k7 (HO2.out.ne_blk HS1.out.2 (by decide))⟩
 go_enter Tryz.func100, Tryz.ntmps100
 go_wp2_with fail
 have y0 := fun (W' : World) (h : TwoB W' g 167 #[.slice (some ⟨g', off, none⟩) (l.length + 1) cap] w.heap.size 23 #[.int .i64 s0, .int .i64 s1, .int .i64 s2, .int .i64 s3]) (i : Nat) => h.1.cell i
 have y1 := fun (W' : World) (h : TwoB W' g 167 #[.slice (some ⟨g', off, none⟩) (l.length + 1) cap] w.heap.size 23 #[.int .i64 s0, .int .i64 s1, .int .i64 s2, .int .i64 s3]) => h.1.lt
 have y2 := fun (W' : World) (h : TwoB W' g 167 #[.slice (some ⟨g', off, none⟩) (l.length + 1) cap] w.heap.size 23 #[.int .i64 s0, .int .i64 s1, .int .i64 s2, .int .i64 s3]) (i : Nat) => h.2.cell i
 have y3 := fun (W' : World) (h : TwoB W' g 167 #[.slice (some ⟨g', off, none⟩) (l.length + 1) cap] w.heap.size 23 #[.int .i64 s0, .int .i64 s1, .int .i64 s2, .int .i64 s3]) => h.2.lt
 refine region_T (S := fun W' => TwoB W' g 167 #[.slice (some ⟨g', off, none⟩) (l.length + 1) cap] w.heap.size 23 #[.int .i64 s0, .int .i64 s1, .int .i64 s2, .int .i64 s3]) (T := [11, 12, 13, 14]) (by kernel_rfl) ?_
 refine anyT_take (i := 0) (oi := _) (v := ?va0) rfl (by kernel_rfl) (by kernel_rfl) (by kernel_rfl) (by kernel_rfl) (fun _ _ _ h => h) (Or.inl ⟨by rfl, ?hya0⟩) HS0.out ?resta0
 case hya0 => (intro W hSw; go_simp; try with_reducible rfl)
 try simp only [List.getElem_toArray, List.getElem_cons_zero, Act.put, List.setIfInBounds_toArray, List.set_cons_zero, List.set_cons_succ]
 refine anyT_take (i := 1) (oi := _) (v := ?va1) rfl (by kernel_rfl) (by kernel_rfl) (by kernel_rfl) (by kernel_rfl) (fun _ _ _ h => h) (Or.inl ⟨by rfl, ?hya1⟩) HS0.out ?resta1
 case hya1 => (intro W hSw; go_simp; try with_reducible rfl)
 try simp only [List.getElem_toArray, List.getElem_cons_zero, List.getElem_cons_succ, Act.put, List.setIfInBounds_toArray, List.set_cons_zero, List.set_cons_succ]
 refine anyT_take (i := 2) (oi := _) (v := ?va2) rfl (by kernel_rfl) (by kernel_rfl) (by kernel_rfl) (by kernel_rfl) (fun _ _ _ h => h) (Or.inl ⟨by rfl, ?hya2⟩) HS0.out ?resta2
 case hya2 => (intro W hSw; go_simp; try with_reducible rfl)
 try simp only [List.getElem_toArray, List.getElem_cons_zero, List.getElem_cons_succ, Act.put, List.setIfInBounds_toArray, List.set_cons_zero, List.set_cons_succ]
 refine anyT_take (i := 3) (oi := _) (v := ?va3) rfl (by kernel_rfl) (by kernel_rfl) (by kernel_rfl) (by kernel_rfl) (fun _ _ _ h => h) (Or.inl ⟨by rfl, ?hya3⟩) HS0.out ?resta3
 case hya3 => (intro W hSw; go_simp; try with_reducible rfl)
 try simp only [List.getElem_toArray, List.getElem_cons_zero, List.getElem_cons_succ, Act.put, List.setIfInBounds_toArray, List.set_cons_zero, List.set_cons_succ]
 refine anyT_take (i := 4) (oi := _) (v := ?va4) rfl (by kernel_rfl) (by kernel_rfl) (by kernel_rfl) (by kernel_rfl) (fun _ _ _ h => h) (Or.inl ⟨by rfl, ?hya4⟩) HS0.out ?resta4
 case hya4 => (intro W hSw; go_simp; try with_reducible rfl)
 try simp only [List.getElem_toArray, List.getElem_cons_zero, List.getElem_cons_succ, Act.put, List.setIfInBounds_toArray, List.set_cons_zero, List.set_cons_succ]
 refine anyT_take (i := 5) (oi := _) (v := ?va5) rfl (by kernel_rfl) (by kernel_rfl) (by kernel_rfl) (by kernel_rfl) (fun _ _ _ h => h) (Or.inl ⟨by rfl, ?hya5⟩) HS0.out ?resta5
 case hya5 => (intro W hSw; go_simp; try with_reducible rfl)
 try simp only [List.getElem_toArray, List.getElem_cons_zero, List.getElem_cons_succ, Act.put, List.setIfInBounds_toArray, List.set_cons_zero, List.set_cons_succ]
 refine anyT_take (i := 6) (oi := _) (v := ?va6) rfl (by kernel_rfl) (by kernel_rfl) (by kernel_rfl) (by kernel_rfl) (fun _ _ _ h => h) (Or.inl ⟨by rfl, ?hya6⟩) HS0.out ?resta6
 case hya6 => (intro W hSw; go_simp; try with_reducible rfl)
 try simp only [List.getElem_toArray, List.getElem_cons_zero, List.getElem_cons_succ, Act.put, List.setIfInBounds_toArray, List.set_cons_zero, List.set_cons_succ]
 refine anyT_take (i := 7) (oi := _) (v := ?va7) rfl (by kernel_rfl) (by kernel_rfl) (by kernel_rfl) (by kernel_rfl) (fun _ _ _ h => h) (Or.inl ⟨by rfl, ?hya7⟩) HS0.out ?resta7
 case hya7 => (intro W hSw; go_simp; try with_reducible rfl)
 try simp only [List.getElem_toArray, List.getElem_cons_zero, List.getElem_cons_succ, Act.put, List.setIfInBounds_toArray, List.set_cons_zero, List.set_cons_succ]
 refine anyT_take (i := 8) (oi := _) (v := ?va8) rfl (by kernel_rfl) (by kernel_rfl) (by kernel_rfl) (by kernel_rfl) (fun _ _ _ h => h) (Or.inl ⟨by rfl, ?hya8⟩) HS0.out ?resta8
 case hya8 => (intro W hSw; go_simp; try with_reducible rfl)
 try simp only [List.getElem_toArray, List.getElem_cons_zero, List.getElem_cons_succ, Act.put, List.setIfInBounds_toArray, List.set_cons_zero, List.set_cons_succ]
 refine anyT_one' (i := 9) (by kernel_rfl) rfl (by rfl) (fun KQ hK => ?_)
 go_simp
 refine hK.out _ _ HS1.out ?_
 clear hK KQ
 try simp only [List.getElem_toArray, List.getElem_cons_zero, List.getElem_cons_succ, Act.put, List.setIfInBounds_toArray, List.set_cons_zero, List.set_cons_succ]
 refine anyT_one' (i := 10) (by kernel_rfl) rfl (by rfl) (fun KQ hK => ?_)
 refine wp_append_OwnS _ (.tmp 41) (.tmp 45) 160 (by rfl) 163 i0 (.agg #[.int .i64 0, .int .i64 0, .int .i64 0, .int .i64 0, .int .i64 0]) 5 40 Tryz.underlying160 hi hz0 hz1 hz2 (by rfl) h02.out (.slice (some ⟨g', off, none⟩) (l.length + 1) cap) (l.length + 1) (scells (l ++ [last])) (by rfl) HO2.out (.slice (some ⟨w.heap.size + 1, 0, none⟩) 1 1) 1 (scells [(at_, ⟨s0, s1, s2, s3⟩)]) (by rfl) HC.out (scells_one _) hL1 hL2 ?_
 intro v' w1 ho1 hk1 hat1
 have HS7 := Lib.hid (HK7.out w1 hk1)
 have hat2 : Later w (.slice (some ⟨g', off, none⟩) (l.length + 1) cap) v' := fun k hk => (hat1 k hk).imp id (fun h => Nat.le_trans (by simp; omega) h)
 have hk2 : Keep (foot g (.slice (some ⟨g', off, none⟩) (l.length + 1) cap)) w w1 := Keep.step ((((Keep.refl _ w).alloc _).drew).alloc _) hk1 (fun k _ hk => .inr hk)
 have hb1 := HS7.out.1
 have hne1 := ho1.ne_blk hb1 (by decide)
 obtain ⟨A', cap', rfl, _, _⟩ := ho1.shape
 have hc1 := hb1.cell
 have hf1 := hb1.frozen
 have hg1 := hb1.lt
 have P1 := Lib.hid hb1
 have P2 := Lib.hid ho1
 have P3 := Lib.hid hk2
 have P4 := Lib.hid hat2
 have P5 := Lib.hid hne1
 clear hb1 ho1 hk1 hk2 hat1 hat2 hne1
 refine hK.out _ _ HS7.out ?_
 clear hK KQ
 try simp only [List.getElem_toArray, List.getElem_cons_zero, List.getElem_cons_succ, Act.put, List.setIfInBounds_toArray, List.set_cons_zero, List.set_cons_succ]
 clear y0 y1 y2 y3
 refine anyT_tail (k := 11) rfl (by decide) (by kernel_rfl) ?_
 simp only [List.drop_succ_cons, List.drop_zero]
 go_wp2_with fail
 go_ret
 refine ⟨rfl, .slice A' (l.length + 1 + 1) cap', ⟨?_, ?_⟩, P3.out.setCell (fun _ => .inl rfl) _, ?_⟩
 ·exact P1.out.set_ 0 _
 ·have := P2.out.far P5.out (p := ⟨g, 0, none⟩) (.slice A' (l.length + 1 + 1) cap')
  rw [scells_append, List.length_append, List.length_append]
  exact this
 ·exact P4.out
theorem len_any (g : Nat) (v : Value) (l : List (Int × St)) (w : World) (h : SRow w g v l) : Calls Tryz.prog 65 #[.pointer (some ⟨g, 0, none⟩)] w fun e w' => e = .returned (.int .i64 l.length) ∧ w = w' := by
 have hb := h.blk.cell_ 0 rfl
 obtain ⟨A, cap, hv, hn, hm⟩ := h.own.shape
 subst hv
 clear h
 go_enter Tryz.func65, Tryz.ntmps65
 go_wp2
 go_ret
 exact ⟨rfl, rfl⟩
theorem new_any (x : St) (w : World) : Calls Tryz.prog 81 #[x.val] w fun e w' => ∃ g v, e = .returned (.pointer (some ⟨g, 0, none⟩)) ∧ SRow w' g v [(-1, x)] ∧ Fresh w w' ∧ w.heap.size ≤ g ∧ ∀ k, v.ownBlock = some k → w.heap.size ≤ k := by
 obtain ⟨s0, s1, s2, s3⟩ := x
 unfold St.val
 simp only
 go_enter Tryz.func81, Tryz.ntmps81
 go_wp2
 go_ret
 refine ⟨w.heap.size + 1 + 1, .slice (some ⟨w.heap.size + 1, 0, none⟩) 1 1, rfl, ⟨Blk.at_new (by simp) _ _, ?_⟩, (((Keep.refl _ w).alloc _).alloc _).alloc _, by omega, fun k hk => ?_⟩
 ·exact (OwnS.new_ (Blk.at_new (by simp) 163 #[.int .i64 (-1), .int .i64 s0, .int .i64 s1, .int .i64 s2, .int .i64 s3]) rfl (one_le_maxLen (by omega))).alloc _
 ·simp [Value.ownBlock] at hk
  omega
theorem isNil (w : World) (a : Option Addr) (n c : Nat) : (binOp .eql 160 (.slice a n c) (.slice none 0 0)).run Tryz.prog w = .ok (.bool a.isNone) w := Lib.run_eql_slice_nil w _ _ a n c 0 0 Tryz.underlying160
attribute [local go_sem] isNil
theorem clone_any (g' off n cap : Nat) (xs : List Value) (w : World) (h : OwnS w 163 5 (.slice (some ⟨g', off, none⟩) n cap) n xs) (h1 : ∀ u ∈ xs, u.oneCell' = true) (hn : n ≤ 1000000) :
  Calls Tryz.prog 105 #[.slice (some ⟨g', off, none⟩) n cap] w fun e w' => ∃ v, e = .returned v ∧ OwnS w' 163 5 v n xs ∧ Fresh w w' ∧ ∀ k, v.ownBlock = some k → w.heap.size ≤ k := by
 have HO := Lib.hid h
 have H1 := Lib.hid h1
 clear h h1
 obtain ⟨i0, hi, hz0, hz1, hz2⟩ := info_parts info_save
 have h02 : 0 < 5 := by omega
 have hL1 : 0 + n ≤ maxLen := one_le_maxLen (by omega)
 have hL2 : (0 + n) * 40 ≤ 140737488355328 := by omega
 have HN : Hid (OwnS (w.alloc (.cells #[] 163)) 163 5 (.slice (some ⟨w.heap.size, 0, none⟩) 0 0) 0 []) := OwnS.new_ (Blk.at_new rfl _ #[]) rfl (Nat.zero_le _)
 go_enter Tryz.func105, Tryz.ntmps105
 go_wp2_with (at_builtin; refine wpList_append_OwnS _ rfl _ _ 160 rfl 163 i0 (.agg #[.int .i64 0, .int .i64 0, .int .i64 0, .int .i64 0, .int .i64 0]) 5 40 Tryz.underlying160 hi hz0 hz1 hz2 rfl h02 (.slice (some ⟨w.heap.size, 0, none⟩) 0 0) 0 [] rfl HN.out (.slice (some ⟨g', off, none⟩) n cap) n xs rfl (HO.out.alloc _).src H1.out hL1 hL2 ?_; intro v' w1 ho1 hk1 hat1)
 go_ret
 refine ⟨v', rfl, by simpa using ho1, Keep.step ((Keep.refl _ w).alloc _) hk1 (fun k hk hk' => by simp [Value.ownBlock] at hk'; omega), fun k hk => ?_⟩
 have := hat1 k hk
 simp [Value.ownBlock] at this
 omega
theorem keep_any (g : Nat) (v : Value) (l : List (Int × St)) (lo hi : Int) (w : World) (h : SRow w g v l) (h0 : 0 ≤ lo) (h1 : lo < hi) (h2 : hi ≤ l.length) (hl : l.length ≤ 100000) :
  Calls Tryz.prog 107 #[.pointer (some ⟨g, 0, none⟩), .int .i64 lo, .int .i64 hi] w fun e w' => e = .returned (.tuple #[]) ∧ ∃ v', SRow w' g v' ((l.drop lo.toNat).take (hi.toNat - lo.toNat)) ∧ Keep (foot g v) w w' ∧ Later w v v' := by
 have hb := h.blk.cell_ 0 rfl
 have hf := h.blk.frozen 0
 have hg := h.blk.lt
 obtain ⟨g', off, cap, hv, hlt, hn, hm, _⟩ := h.own.form (by omega)
 subst hv
 have hm : cap ≤ 9223372036854775807 := by unfold maxLen at hm; omega
 have HO := Lib.hid h.own
 have HB := Lib.hid h.blk
 clear h
 obtain ⟨a, rfl⟩ := Int.eq_ofNat_of_zero_le h0
 obtain ⟨b, rfl⟩ := Int.eq_ofNat_of_zero_le (show 0 ≤ hi by omega)
 go_enter Tryz.func107, Tryz.ntmps107
 go_wp2_with fail
 have hcut := HO.out.cut (lo := a) (hi := b) (off' := off + a * 5) (by omega) (by omega) (.inl rfl)
 refine (clone_any g' _ _ _ _ w hcut (fun u hu => scells_one _ u (List.mem_of_mem_drop (List.mem_of_mem_take hu))) (by omega)).mono ?_
 rintro e w1 ⟨v1, rfl, ho1, hk1, hn1⟩
 rw [scells_drop, scells_take] at ho1
 have hb1 := hk1.blk_ HB.out
 have hne := ho1.ne_blk hb1 (by decide)
 obtain ⟨A', cap', rfl, _, _⟩ := ho1.shape
 have hc1 := hb1.cell
 have hf1 := hb1.frozen
 have hg1 := hb1.lt
 have P1 := Lib.hid hb1
 have P2 := Lib.hid ho1
 have P3 := Lib.hid hk1
 have P4 := Lib.hid hn1
 have P5 := Lib.hid hne
 clear hb1 ho1 hk1 hn1 hne HB HO hcut hb hf
 go_wp2
 go_returns
 refine ⟨rfl, .slice A' (b - a) cap', ⟨P1.out.set_ 0 _, ?_⟩, (P3.out.more (fun _ _ h => h.elim)).setCell (fun _ => .inl rfl) _, fun k hk => .inr (P4.out k hk)⟩
 have := P2.out.far P5.out (p := ⟨g, 0, none⟩) (.slice A' (b - a) cap')
 rw [Int.toNat_natCast, Int.toNat_natCast, List.length_take, List.length_drop, show min (b - a) (l.length - a) = b - a by omega]
 exact this
theorem run_max (P : Program) (w : World) (ts : Array TypeId) (t : TypeId) (k : IntKind) (x y : Int) : (Builtin.max_ ts t #[.int k x, .int k y]).run P w = .ok (.int k (max x y)) w := by
 simp [Builtin.max_, Builtin.max2]
 split <;> omega
theorem run_min (P : Program) (w : World) (ts : Array TypeId) (t : TypeId) (k : IntKind) (x y : Int) : (Builtin.min_ ts t #[.int k x, .int k y]).run P w = .ok (.int k (min x y)) w := by
 simp [Builtin.min_, Builtin.min2]
 split <;> omega
attribute [local go_sem ↓] run_max run_min
theorem SRow.drew {w : World} {g : Nat} {v : Value} {l : List (Int × St)} (h : SRow w g v l) : SRow w.drew g v l := ⟨h.blk, h.own⟩
theorem cut_any (g : Nat) (v : Value) (l : List (Int × St)) (from_ : Int) (w : World) (h : SRow w g v l) (h1 : 0 < l.length) (hl : l.length ≤ 100000) :
  Calls Tryz.prog 116 #[.pointer (some ⟨g, 0, none⟩), .int .i64 from_] w fun e w' => e = .returned (.int .i64 (l.length - max (upTo l from_) 1 : Nat)) ∧ ∃ v', SRow w' g v' (l.take (max (upTo l from_) 1)) ∧ Keep (foot g v) w w' ∧ Later w v v' := by
 have hb := h.blk.cell_ 0 rfl
 have hg := h.blk.lt
 have ha := upTo_le l from_
 obtain ⟨A, cap, hv, hn, hm⟩ := h.own.shape
 subst hv
 have HS := Lib.hid h
 clear h
 go_enter Tryz.func116, Tryz.ntmps116
 go_wp2_with fail
 go_still_tail 11, (by kernel_rfl)
 still_call ((upTo_any g (.slice A l.length cap) l from_ _ HS.out.drew).mono fun _ _ h => ⟨h.1, h.2.symm⟩)
 repeat still_step
 refine wpStill_nil ?_
 change wpList _ _ _ _ _ w.drew
 have hmm : min (max ((upTo l from_ : Nat) : Int) 1) (l.length : Int) = (max (upTo l from_) 1 : Nat) := by omega
 have HM := Lib.hid hmm
 clear hmm
 go_wp2_with fail
 rw [HM.out]
 refine (keep_any g _ l 0 _ _ HS.out.drew (by omega) (by omega) (by omega) hl).mono ?_
 rintro e w1 ⟨rfl, v', hs1, hk1, hl1⟩
 have e1 : (l.drop (0 : Int).toNat).take (((max (upTo l from_) 1 : Nat) : Int).toNat - (0 : Int).toNat) = l.take (max (upTo l from_) 1) := by simp
 rw [e1] at hs1
 have hb1 := hs1.blk.cell
 obtain ⟨A', cap', rfl, _, _⟩ := hs1.own.shape
 have hlen : (l.take (max (upTo l from_) 1)).length = max (upTo l from_) 1 := by rw [List.length_take]; omega
 have P1 := Lib.hid hs1
 have P2 := Lib.hid hk1
 have P3 := Lib.hid hl1
 have HL := Lib.hid hlen
 clear hs1 hk1 hl1 hlen e1 HM
 have hx : (0 : Int) ≤ ((l.take (max (upTo l from_) 1)).length : Int) := by omega
 have hx2 : ((l.take (max (upTo l from_) 1)).length : Int) ≤ l.length := by rw [HL.out]; omega
 go_wp2
 go_ret
 refine ⟨?_, _, P1.out, (Keep.refl _ w).drew.step P2.out (fun _ _ h => h), P3.out⟩
 show Ending.returned (.int .i64 _) = _
 congr 2
 omega
theorem free_few (g : Nat) (v : Value) (l : List (Int × St)) (below : Int) (w : World) (h : SRow w g v l) (h1 : upTo l below < 2) :
  Calls Tryz.prog 61 #[.pointer (some ⟨g, 0, none⟩), .int .i64 below] w fun e w' => e = .returned (.int .i64 0) ∧ w = w' := by
 go_enter Tryz.func61, Tryz.ntmps61
 go_wp2_with (go_at_call 106; refine (upTo_any g v l below _ h).mono ?_; rintro e w1 ⟨rfl, rfl⟩)
 go_ret
 exact ⟨rfl, rfl⟩
theorem free_any (g : Nat) (v : Value) (l : List (Int × St)) (below : Int) (w : World) (h : SRow w g v l) (h1 : 2 ≤ upTo l below) (hl : l.length ≤ 100000) :
  Calls Tryz.prog 61 #[.pointer (some ⟨g, 0, none⟩), .int .i64 below] w fun e w' => e = .returned (.int .i64 (upTo l below - 1 : Nat)) ∧ ∃ v', SRow w' g v' (l.drop (upTo l below - 1)) ∧ Keep (foot g v) w w' ∧ Later w v v' := by
 have hb := h.blk.cell_ 0 rfl
 have hg := h.blk.lt
 have ha := upTo_le l below
 obtain ⟨A, cap, hv, hn, hm⟩ := h.own.shape
 subst hv
 have HS := Lib.hid h
 clear h
 have g1 : decide ((upTo l below : Int) < 2) = false := by simp; omega
 go_enter Tryz.func61, Tryz.ntmps61
 go_wp2_with (go_at_call 106; refine (upTo_any g (.slice A l.length cap) l below _ HS.out).mono ?_; rintro e w1 ⟨rfl, rfl⟩)
 go_still_tail 11, (by kernel_rfl)
 change wpList _ _ _ _ _ w.drew
 go_wp2_with fail
 refine (keep_any g _ l _ _ _ HS.out.drew (by omega) (by omega) (by omega) hl).mono ?_
 rintro e w1 ⟨rfl, v', hs1, hk1, hl1⟩
 have P1 := Lib.hid hs1
 have P2 := Lib.hid hk1
 have P3 := Lib.hid hl1
 clear hs1 hk1 hl1
 go_wp2
 go_ret
 have e1 : (l.drop ((upTo l below : Int) - 1).toNat).take ((l.length : Int).toNat - ((upTo l below : Int) - 1).toNat) = l.drop (upTo l below - 1) := by
  rw [show ((upTo l below : Int) - 1).toNat = upTo l below - 1 by omega, Int.toNat_natCast]
  exact List.take_of_length_le (by simp)
 refine ⟨?_, v', e1 ▸ P1.out, (Keep.refl _ w).drew.step P2.out (fun _ _ h => h), P3.out⟩
 show Ending.returned (.int .i64 _) = _
 congr 2
 omega
theorem copy_any (g : Nat) (v : Value) (l : List (Int × St)) (w : World) (h : SRow w g v l) (h1 : 0 < l.length) (hl : l.length ≤ 100000) :
  Calls Tryz.prog 60 #[.pointer (some ⟨g, 0, none⟩)] w fun e w' => ∃ g' v', e = .returned (.pointer (some ⟨g', 0, none⟩)) ∧ SRow w' g' v' l ∧ Fresh w w' ∧ w.heap.size ≤ g' ∧ ∀ k, v'.ownBlock = some k → w.heap.size ≤ k := by
 have hb := h.blk.cell_ 0 rfl
 have hg := h.blk.lt
 obtain ⟨g', off, cap, hv, hlt, hn, hm, _⟩ := h.own.form h1
 subst hv
 have HO := Lib.hid h.own
 clear h
 go_enter Tryz.func60, Tryz.ntmps60
 go_wp2_with fail
 refine (clone_any g' off l.length cap (scells l) w HO.out (scells_one l) (by omega)).mono ?_
 rintro e w1 ⟨v1, rfl, ho1, hk1, hn1⟩
 obtain ⟨A', cap', rfl, _, _⟩ := ho1.shape
 have P1 := Lib.hid ho1
 have P2 := Lib.hid hk1
 have P3 := Lib.hid hn1
 clear ho1 hk1 hn1
 go_wp2
 go_ret
 exact ⟨w1.heap.size, .slice A' l.length cap', rfl, ⟨Blk.at_new rfl _ _, P1.out.alloc _⟩, P2.out.alloc _, P2.out.size, P3.out⟩
theorem last_some (g : Nat) (v : Value) (l : List (Int × St)) (below : Int) (s : Int × St) (w : World) (h : SRow w g v l) (h1 : 0 < upTo l below) (hs : l[upTo l below - 1]? = some s) :
  Calls Tryz.prog 117 #[.pointer (some ⟨g, 0, none⟩), .int .i64 below] w fun e w' => e = .returned (.tuple #[.int .i64 s.1, s.2.val, .int .i64 0]) ∧ Fresh w w' := by
 have hb := h.blk.cell_ 0 rfl
 have ha := upTo_le l below
 have hg := h.blk.lt
 obtain ⟨g', off, cap, hv, hlt, hn, hm, hc⟩ := h.own.form (by omega)
 subst hv
 have hm : cap ≤ 9223372036854775807 := by unfold maxLen at hm; omega
 obtain ⟨tt, s0, s1, s2, s3⟩ := s
 unfold St.val
 simp only
 obtain ⟨c1, c2, c3, c4, c5⟩ := scells_at l _ _ hs
 have c1 := hc _ _ c1
 have c2 := hc _ _ c2
 have c3 := hc _ _ c3
 have c4 := hc _ _ c4
 have c5 := hc _ _ c5
 have HS := Lib.hid h
 clear h hc hs
 rw [← Nat.add_assoc] at c2 c3 c4 c5
 have g1 : ((upTo l below : Int) == 0) = false := by simp; omega
 go_enter Tryz.func117, Tryz.ntmps117
 go_wp2_with (go_at_call 106; refine (upTo_any g _ l below _ (HS.out.fresh (((Keep.refl _ w).alloc _).alloc _))).mono ?_; rintro e w1 ⟨rfl, rfl⟩)
 go_region
 have B0 : Blk (w.alloc (.cells #[.int .i64 s0, .int .i64 s1, .int .i64 s2, .int .i64 s3] 23)) w.heap.size 23 #[.int .i64 s0, .int .i64 s1, .int .i64 s2, .int .i64 s3] := Blk.new _ _ _
 have C0 := (((B0.alloc (.cells #[.int .i64 0, .int .i64 0, .int .i64 0, .int .i64 0] 23)).alloc (.cells #[.int .i64 tt, .int .i64 s0, .int .i64 s1, .int .i64 s2, .int .i64 s3] 163)).drew).cell
 go_wp2_with fail
 refine bodyPost_ret (v := .tuple #[.int .i64 tt, .agg #[.int .i64 s0, .int .i64 s1, .int .i64 s2, .int .i64 s3], .int .i64 0]) (by simp [results, Tryz.results117, go_sem, C0]; try rfl) rfl ⟨rfl, by (repeat (first | (with_reducible exact Keep.refl _ _) | (with_reducible assumption) | (with_reducible refine Keep.drew ?_) | (with_reducible refine Keep.drewN ?_ _) | (with_reducible refine Keep.alloc ?_ _) | (with_reducible refine Keep.setCell ?_ ?_ _) | (with_reducible refine fun _ => rfl)))⟩
end Go.Proofs.YthbcdkeammhakaaGreat.RS
