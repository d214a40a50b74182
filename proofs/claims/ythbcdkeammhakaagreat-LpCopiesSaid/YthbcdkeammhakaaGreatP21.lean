/- Chapter 13: OOuts, OSortP, OSort, OWrong, OSentK. -/
import Derived.Test.YthbcdkeammhakaaGreatP16
import Derived.Test.YthbcdkeammhakaaGreatP17
import Derived.Test.YthbcdkeammhakaaGreatP18
import Derived.Test.YthbcdkeammhakaaGreatP19
import Derived.Test.YthbcdkeammhakaaGreatP20
import Derived.Shelf.SlSortCmp.WholeK
import Derived.Ground.SlsfProg
set_option maxRecDepth 100000
set_option maxHeartbeats 16000000
namespace Go.Proofs.YthbcdkeammhakaaGreat
open Go.RowKit
attribute [local go_sem ↓] Go.wp_at_zero Go.wp_at_succ
theorem TakeP.after {g : Nat} {v : Value} {l : List Rec} {p : Rec → Bool} {w W w' : World} {e : Ending} (f : Fresh w W) (h : TakeP g v l p W e w') : TakeP g v l p w e w' := by
 obtain ⟨va, v', h1, h2, h3, h4, h5⟩ := h
 exact ⟨va, v', h1, h2, h3, OTurn.after f h4, fun k hk => Nat.le_trans f.size (h5 k hk)⟩
def flushP (b : Int) (r : Rec) : Bool := !r.2 && decide (r.1.t < b)
def dropP (b : Int) (r : Rec) : Bool := r.2 && decide (r.1.t < b)
def backP (b : Int) (r : Rec) : Bool := decide (b ≤ r.1.t)
theorem flush1 (x1 : Nat) (b : Int) (r : Rec) (w : World) (h : Blk w x1 3 #[.int .i64 b]) :
  Calls Tryz.prog 101 #[Rec.val r, .pointer (some ⟨x1, 0, none⟩)] w fun e w' => e = .returned (.bool (flushP b r)) ∧ Fresh w w' := by
 unfold Rec.val flushP
 have cx := h.cell
 have lx := h.lt
 clear h
 obtain ⟨y, s⟩ := r
 cases s
 ·go_enter Tryz.func101, Tryz.ntmps101
  go_wp2_with fail
  go_ret
  exact ⟨rfl, (Keep.refl _ w).alloc _⟩
 ·go_enter Tryz.func101, Tryz.ntmps101
  go_wp2_with fail
  go_ret
  exact ⟨rfl, (Keep.refl _ w).alloc _⟩
theorem drop1 (x1 : Nat) (b : Int) (r : Rec) (w : World) (h : Blk w x1 3 #[.int .i64 b]) :
  Calls Tryz.prog 111 #[Rec.val r, .pointer (some ⟨x1, 0, none⟩)] w fun e w' => e = .returned (.bool (dropP b r)) ∧ Fresh w w' := by
 unfold Rec.val dropP
 have cx := h.cell
 have lx := h.lt
 clear h
 obtain ⟨y, s⟩ := r
 cases s
 ·go_enter Tryz.func111, Tryz.ntmps111
  go_wp2_with fail
  go_ret
  exact ⟨rfl, (Keep.refl _ w).alloc _⟩
 ·go_enter Tryz.func111, Tryz.ntmps111
  go_wp2_with fail
  go_ret
  exact ⟨rfl, (Keep.refl _ w).alloc _⟩
theorem back1 (x1 : Nat) (b : Int) (r : Rec) (w : World) (h : Blk w x1 3 #[.int .i64 b]) :
  Calls Tryz.prog 138 #[Rec.val r, .pointer (some ⟨x1, 0, none⟩)] w fun e w' => e = .returned (.bool (backP b r)) ∧ Fresh w w' := by
 unfold Rec.val backP
 have cx := h.cell
 have lx := h.lt
 clear h
 go_enter Tryz.func138, Tryz.ntmps138
 go_wp2_with fail
 go_ret
 exact ⟨rfl, (Keep.refl _ w).alloc _⟩
theorem flush_any (g : Nat) (v : Value) (l : List Rec) (b : Int) (w : World) (h : OQ w g v l) (hl : l.length ≤ 100000) :
  Calls Tryz.prog 56 #[.pointer (some ⟨g, 0, none⟩), .int .i64 b] w (TakeP g v l (flushP b) w) := by
 have F0 : Fresh w (w.alloc (.cells #[.int .i64 b] 3)) := (Keep.refl _ w).alloc _
 have B0 := Blk.new w 3 #[.int .i64 b]
 have H1 := Lib.hid (take_anyFlush g v l (flushP b) w.heap.size _ (h.fresh F0) hl (fun W r f => flush1 _ b r W (f.blk_ B0)))
 have lg := h.blk.lt
 clear h B0
 go_enter Tryz.func56, Tryz.ntmps56
 go_wp2_with ((with_reducible refine H1.out.mono ?_); rintro e w1 ⟨va, v', rfl, h2, h3⟩)
 go_ret
 exact TakeP.after F0 ⟨_, _, rfl, h2, h3⟩
theorem dropq_any (g : Nat) (v : Value) (l : List Rec) (b : Int) (w : World) (h : OQ w g v l) (hl : l.length ≤ 100000) :
  Calls Tryz.prog 64 #[.pointer (some ⟨g, 0, none⟩), .int .i64 b] w fun e w' => e = .returned (.int .i64 (antis (dropP b) l).length) ∧ ∃ v', OQ w' g v' (stay (dropP b) l) ∧ OTurn w w' g v v' := by
 have F0 : Fresh w (w.alloc (.cells #[.int .i64 b] 3)) := (Keep.refl _ w).alloc _
 have B0 := Blk.new w 3 #[.int .i64 b]
 have H1 := Lib.hid (take_anyDrop g v l (dropP b) w.heap.size _ (h.fresh F0) hl (fun W r f => drop1 _ b r W (f.blk_ B0)))
 have lg := h.blk.lt
 clear h B0
 go_enter Tryz.func64, Tryz.ntmps64
 go_wp2_with ((with_reducible refine H1.out.mono ?_); rintro e w1 ⟨va, v', rfl, h2, h3, h4, h5⟩; obtain ⟨A1, c1, rfl, _, _⟩ := h2.shape)
 go_ret
 exact ⟨rfl, v', h3, OTurn.after F0 h4⟩
theorem back_any (g : Nat) (v : Value) (l : List Rec) (b : Int) (w : World) (h : OQ w g v l) (hl : l.length ≤ 100000) :
  Calls Tryz.prog 118 #[.pointer (some ⟨g, 0, none⟩), .int .i64 b, .bool false] w (TakeP g v l (backP b) w) := by
 have F0 : Fresh w (w.alloc (.cells #[.int .i64 b] 3)) := (Keep.refl _ w).alloc _
 have B0 := Blk.new w 3 #[.int .i64 b]
 have H1 := Lib.hid (take_anyBack g v l (backP b) w.heap.size _ (h.fresh F0) hl (fun W r f => back1 _ b r W (f.blk_ B0)))
 have lg := h.blk.lt
 clear h B0
 go_enter Tryz.func118, Tryz.ntmps118
 go_wp2_with ((with_reducible refine H1.out.mono ?_); rintro e w1 ⟨va, v', rfl, h2, h3⟩)
 go_ret
 exact TakeP.after F0 ⟨_, _, rfl, h2, h3⟩
theorem rcells_set : ∀ (l : List Rec) (i : Nat) (y : Rec) (b : Bool), l[i]? = some y → (rcells l).set (i * 8 + 7) (.bool b) = rcells (l.set i (y.1, b)) := by
 intro l
 induction l with
 | nil => intro i y b h; simp at h
 | cons a r ih =>
  intro i y b h
  cases i with
  | zero =>
   simp at h
   subst h
   rfl
  | succ i =>
   rw [rcells_cons, show (i + 1) * 8 + 7 = (i * 8 + 7) + 8 by omega]
   simp only [List.set_cons_succ]
   rw [ih i y b (by simpa using h), rcells_cons]
theorem RSrt.iff {l : List Rec} : RSrt l ↔ (l.map (·.1)).Pairwise (fun a b => sLt a b = true) := by
 unfold RSrt
 rw [List.pairwise_map]
theorem map_set_fst (l : List Rec) (i : Nat) (y : Rec) (b : Bool) (h : l[i]? = some y) : (l.set i (y.1, b)).map (·.1) = l.map (·.1) := by
 rw [List.map_set]
 apply List.ext_getElem?
 intro j
 rw [List.getElem?_set]
 split
 ·rename_i hj
  subst hj
  rw [List.getElem?_map, h]
  simp
  exact (List.getElem?_eq_some_iff.1 h).1
 ·rfl
theorem RSrt.set {l : List Rec} (h : RSrt l) {i : Nat} {y : Rec} (hy : l[i]? = some y) (b : Bool) : RSrt (l.set i (y.1, b)) := by
 rw [RSrt.iff, map_set_fst l i y b hy, ← RSrt.iff]
 exact h
theorem OQ.mark {w : World} {g g3 off cap n : Nat} {l : List Rec} (h : OQ w g (.slice (some ⟨g3, off, none⟩) n cap) l) {i : Nat} {y : Rec} (hy : l[i]? = some y) (b : Bool) :
  OQ (w.setCell ⟨g3, off + i * 8 + 7, none⟩ (.bool b)) g (.slice (some ⟨g3, off, none⟩) n cap) (l.set i (y.1, b)) ∧ OTurn w (w.setCell ⟨g3, off + i * 8 + 7, none⟩ (.bool b)) g (.slice (some ⟨g3, off, none⟩) n cap) (.slice (some ⟨g3, off, none⟩) n cap) := by
 have hne := h.n
 have hn : n = l.length := by
  obtain ⟨A, c, hv, _, _⟩ := h.own.shape
  injection hv
 subst hn
 have hi := (List.getElem?_eq_some_iff.1 hy).1
 have K : Keep (ofoot g (.slice (some ⟨g3, off, none⟩) l.length cap)) w (w.setCell ⟨g3, off + i * 8 + 7, none⟩ (.bool b)) := Keep.setCell (Keep.refl _ w) (p := ⟨g3, off + i * 8 + 7, none⟩) (fun _ => .inr rfl) _
 refine ⟨⟨h.blk.far (p := ⟨g3, off + i * 8 + 7, none⟩) (fun e => hne (by simp only at e; rw [e]; rfl)) _, ?_, h.srt.set hy b⟩, ⟨K, fun k hk => .inl hk⟩⟩
 have := h.own.set_ (i * 8 + 7) (.bool b) (by rw [rcells_length]; omega)
 rw [List.length_set, ← rcells_set l i y b hy, Nat.add_assoc]
 exact this
def doubt (b : Int) (l : List Rec) : List Rec := l.map (fun r => if b ≤ r.1.t then (r.1, false) else r)
theorem doubt_snoc (b : Int) (l : List Rec) (i : Nat) (y : Rec) (hy : l[i]? = some y) (h : b ≤ y.1.t) : (doubt b (l.take i) ++ l.drop i).set i (y.1, false) = doubt b (l.take (i + 1)) ++ l.drop (i + 1) := by
 have hi := (List.getElem?_eq_some_iff.1 hy).1
 have hd : l.drop i = y :: l.drop (i + 1) := by rw [← (List.getElem?_eq_some_iff.1 hy).2]; exact List.drop_eq_getElem_cons hi
 have hl : (doubt b (l.take i)).length = i := by unfold doubt; rw [List.length_map, List.length_take]; omega
 rw [hd, List.set_append_right _ _ (by omega), hl, Nat.sub_self, List.set_cons_zero, List.take_add_one, hy]
 unfold doubt
 simp [h]
theorem doubt_same (b : Int) (l : List Rec) (i : Nat) (y : Rec) (hy : l[i]? = some y) (h : ¬ b ≤ y.1.t) : doubt b (l.take i) ++ l.drop i = doubt b (l.take (i + 1)) ++ l.drop (i + 1) := by
 have hi := (List.getElem?_eq_some_iff.1 hy).1
 have hd : l.drop i = y :: l.drop (i + 1) := by rw [← (List.getElem?_eq_some_iff.1 hy).2]; exact List.drop_eq_getElem_cons hi
 rw [hd, List.take_add_one, hy]
 unfold doubt
 simp [h]
theorem doubt_at (b : Int) (l : List Rec) (i : Nat) (y : Rec) (hy : l[i]? = some y) : (doubt b (l.take i) ++ l.drop i)[i]? = some y := by
 have hi := (List.getElem?_eq_some_iff.1 hy).1
 have hl : (doubt b (l.take i)).length = i := by unfold doubt; rw [List.length_map, List.length_take]; omega
 rw [List.getElem?_append_right (by omega), hl, Nat.sub_self, List.getElem?_drop, Nat.add_zero, hy]
theorem doubt_len (b : Int) (l : List Rec) (i : Nat) (hi : i ≤ l.length) : (doubt b (l.take i) ++ l.drop i).length = l.length := by
 unfold doubt
 simp
 omega
theorem backL_any (g : Nat) (v : Value) (l : List Rec) (b : Int) (w : World) (h : OQ w g v l) (hl : l.length ≤ 100000) :
  Calls Tryz.prog 118 #[.pointer (some ⟨g, 0, none⟩), .int .i64 b, .bool true] w fun e w' => e = .returned (.slice none 0 0) ∧ OQ w' g v (doubt b l) ∧ OTurn w w' g v v := by
 have F0 : Fresh w (w.alloc (.cells #[.int .i64 b] 3)) := (Keep.refl _ w).alloc _
 have T0 : OTurn w (w.alloc (.cells #[.int .i64 b] 3)) g v v := OTurn.fresh F0
 have Q0 := h.fresh F0
 have B0 := Blk.new w 3 #[.int .i64 b]
 obtain ⟨A, cap, rfl, hca, hcm⟩ := h.own.shape
 have hcm : cap ≤ 9223372036854775807 := by unfold maxLen at hcm; omega
 have HNB := Lib.hid (show ∀ k, ofoot g (.slice A l.length cap) k → k < w.heap.size from fun k hk => h.lt k hk)
 have cq := Q0.blk.cell
 have lq := h.blk.lt
 have HT0 := Lib.hid T0
 have HQ0 := Lib.hid Q0
 have HB0 := Lib.hid B0
 clear h F0 T0 Q0 B0
 go_enter Tryz.func118, Tryz.ntmps118
 go_wp2_with fail
 go_loopg [21] l.length (fun gk u21 wr => ∃ i : Nat, i ≤ l.length ∧ gk = l.length - i ∧ u21 = .int .i64 i ∧ OQ wr g (.slice A l.length cap) (doubt b (l.take i) ++ l.drop i) ∧ OTurn w wr g (.slice A l.length cap) (.slice A l.length cap) ∧ Blk wr w.heap.size 3 #[.int .i64 b])
 case atStart => exact ⟨0, by omega, rfl, rfl, by simpa [doubt] using HQ0.out, HT0.out, HB0.out⟩
 case round =>
  obtain ⟨i, hi, rfl, rfl, hQ, hT, hB⟩ := hrel
  by_cases hlt : i < l.length
  ·obtain ⟨⟨y, s⟩, hy⟩ : ∃ y, l[i]? = some y := ⟨_, List.getElem?_eq_getElem hlt⟩
   obtain ⟨g3, off3, cap3, hv3, hg3, _, _, hcc⟩ := hQ.own.form (by rw [doubt_len b l i hi]; omega)
   injection hv3 with e1 e2 e3
   subst e1 e3
   have hdy := doubt_at b l i _ hy
   obtain ⟨y0, y1, y2, y3, y4, y5, y6, y7⟩ := rcells_at _ i _ hdy
   have y0 := hcc _ _ y0
   have y1 := hcc _ _ y1
   have y2 := hcc _ _ y2
   have y3 := hcc _ _ y3
   have y4 := hcc _ _ y4
   have y5 := hcc _ _ y5
   have y6 := hcc _ _ y6
   have y7 := hcc _ _ y7
   rw [← Nat.add_assoc] at y1 y2 y3 y4 y5 y6 y7
   simp only at y0 y1 y2 y3 y4 y5 y6 y7
   have cb := hB.cell
   have cq := hQ.blk.cell
   have lq := hQ.blk.lt
   have lb := hB.lt
   have hQo := hQ.own
   rw [doubt_len b l i hi] at hQo
   have fr := (OwnS.at_ hQo).2.1
   clear hQo
   have HX := Lib.hid (hQ.mark (i := i) hdy false)
   have HY := Lib.hid hy
   have HQ := Lib.hid hQ
   have HT := Lib.hid hT
   have HB := Lib.hid hB
   clear hcc hy e2 hdy hQ hT hB
   by_cases ht : b ≤ y.t
   ·have t1 : decide (b ≤ y.t) = true := decide_eq_true ht
    have HS := Lib.hid (doubt_snoc b l i _ HY.out ht)
    clear ht
    go_wp2_with fail
    go_roundg (l.length - (i + 1))
    case measure => omega
    case rel => exact ⟨i + 1, by omega, rfl, by go_num, by rw [← HS.out]; exact HX.out.1.fresh ((Keep.refl _ _).alloc _), OTurn.two HT.out (OTurn.two HX.out.2 (OTurn.fresh ((Keep.refl _ _).alloc _))), (HB.out.keep HX.out.2.keep (fun hf => by have := HNB.out _ hf; omega)).alloc _⟩
   ·have t1 : decide (b ≤ y.t) = false := decide_eq_false ht
    have HS := Lib.hid (doubt_same b l i _ HY.out ht)
    clear ht
    go_wp2_with fail
    go_roundg (l.length - (i + 1))
    case measure => omega
    case rel => exact ⟨i + 1, by omega, rfl, by go_num, by rw [← HS.out]; exact HQ.out.fresh ((Keep.refl _ _).alloc _), OTurn.two HT.out (OTurn.fresh ((Keep.refl _ _).alloc _)), HB.out.alloc _⟩
  ·obtain rfl : i = l.length := by omega
   have HQ := Lib.hid hQ
   have HT := Lib.hid hT
   clear hQ hT hB
   go_wp2_with fail
   go_ret
   exact ⟨rfl, by simpa using HQ.out, HT.out⟩
end Go.Proofs.YthbcdkeammhakaaGreat
namespace Go.Proofs
open Go.Shelf
def sortEvL_ren : Go.Shelf.Ren := ⟨fun | 6 => 92 | 15 => 128 | 14 => 127 | 28 => 152 | 29 => 153 | 20 => 144 | 21 => 145 | 22 => 146 | 23 => 147 | 24 => 148 | 25 => 149 | 26 => 150 | 27 => 151 | 46 => 157 | 47 => 158 | 48 => 159 | 49 => 160 | 50 => 161 | 57 => 165 | n => n, fun | 22 => 24 | 24 => 41 | 25 => 142 | 3 => 3 | 39 => 181 | 0 => 0 | 53 => 204 | 55 => 206 | 4 => 4 | 46 => 198 | 45 => 197 | 50 => 89 | 5 => 5 | 9 => 9 | 66 => 209 | 70 => 213 | 76 => 217 | 77 => 128 | n => n, fun | n => n⟩
theorem sortEvL : Go.Proofs.SlLaysF0.n6 Tryz.prog sortEvL_ren := {
 mixed := by kernel_rfl
 f6 := ⟨Tryz.f92.name, by decide, Tryz.func92.trans (congrArg some (by kernel_rfl))⟩
 f14 := ⟨Tryz.f127.name, by decide, Tryz.func127.trans (congrArg some (by kernel_rfl))⟩
 f15 := Tryz.func128.trans (congrArg some (by kernel_rfl))
 f20 := ⟨Tryz.f144.name, by decide, Tryz.func144.trans (congrArg some (by kernel_rfl))⟩
 f21 := ⟨Tryz.f145.name, by decide, Tryz.func145.trans (congrArg some (by kernel_rfl))⟩
 f22 := ⟨Tryz.f146.name, by decide, Tryz.func146.trans (congrArg some (by kernel_rfl))⟩
 f23 := ⟨Tryz.f147.name, by decide, Tryz.func147.trans (congrArg some (by kernel_rfl))⟩
 f24 := ⟨Tryz.f148.name, by decide, Tryz.func148.trans (congrArg some (by kernel_rfl))⟩
 f25 := ⟨Tryz.f149.name, by decide, Tryz.func149.trans (congrArg some (by kernel_rfl))⟩
 f26 := ⟨Tryz.f150.name, by decide, Tryz.func150.trans (congrArg some (by kernel_rfl))⟩
 f27 := ⟨Tryz.f151.name, by decide, Tryz.func151.trans (congrArg some (by kernel_rfl))⟩
 f28 := Tryz.func152.trans (congrArg some (by kernel_rfl))
 f29 := Tryz.func153.trans (congrArg some (by kernel_rfl))
 f46 := ⟨Tryz.f157.name, by decide, Tryz.func157.trans (congrArg some (by kernel_rfl))⟩
 f47 := Tryz.func158.trans (congrArg some (by kernel_rfl))
 f48 := Tryz.func159.trans (congrArg some (by kernel_rfl))
 f49 := ⟨Tryz.f160.name, by decide, Tryz.func160.trans (congrArg some (by kernel_rfl))⟩
 f50 := ⟨Tryz.f161.name, by decide, Tryz.func161.trans (congrArg some (by kernel_rfl))⟩
 f57 := ⟨Tryz.f165.name, by decide, Tryz.func165.trans (congrArg some (by kernel_rfl))⟩
 t0 := Tryz.underlying0
 a0 := Tryz.isAgg0
 z0 := Tryz.sizeOf0
 v0 := Tryz.zeroValue0
 t3 := Tryz.underlying3
 a3 := Tryz.isAgg3
 z3 := Tryz.sizeOf3
 v3 := Tryz.zeroValue3
 t4 := Tryz.underlying4
 a4 := Tryz.isAgg4
 z4 := Tryz.sizeOf4
 v4 := Tryz.zeroValue4
 t5 := Tryz.underlying5
 a5 := Tryz.isAgg5
 z5 := Tryz.sizeOf5
 v5 := Tryz.zeroValue5
 t9 := Tryz.underlying9
 a9 := Tryz.isAgg9
 z9 := Tryz.sizeOf9
 v9 := Tryz.zeroValue9
 t22 := Tryz.underlying24
 a22 := Tryz.isAgg24
 z22 := Tryz.sizeOf24
 v22 := Tryz.zeroValue24
 t25 := Tryz.underlying142
 a25 := Tryz.isAgg142
 z25 := Tryz.sizeOf142
 v25 := Tryz.zeroValue142
 t39 := Tryz.underlying181
 a39 := Tryz.isAgg181
 z39 := Tryz.sizeOf181
 v39 := Tryz.zeroValue181
 t45 := Tryz.underlying197
 a45 := Tryz.isAgg197
 z45 := Tryz.sizeOf197
 v45 := Tryz.zeroValue197
 t46 := Tryz.underlying198
 a46 := Tryz.isAgg198
 z46 := Tryz.sizeOf198
 v46 := Tryz.zeroValue198
 t50 := Tryz.underlying89
 a50 := Tryz.isAgg89
 z50 := Tryz.sizeOf89
 v50 := Tryz.zeroValue89
 t53 := Tryz.underlying204
 a53 := Tryz.isAgg204
 z53 := Tryz.sizeOf204
 v53 := Tryz.zeroValue204
 t55 := Tryz.underlying206
 a55 := Tryz.isAgg206
 z55 := Tryz.sizeOf206
 v55 := Tryz.zeroValue206
 t66 := Tryz.underlying209
 a66 := Tryz.isAgg209
 z66 := Tryz.sizeOf209
 v66 := Tryz.zeroValue209
 t70 := Tryz.underlying213
 a70 := Tryz.isAgg213
 z70 := Tryz.sizeOf213
 v70 := Tryz.zeroValue213
 t76 := Tryz.underlying217
 a76 := Tryz.isAgg217
 z76 := Tryz.sizeOf217
 v76 := Tryz.zeroValue217
 t77 := Tryz.underlying128
 a77 := Tryz.isAgg128
 z77 := Tryz.sizeOf128
 v77 := Tryz.zeroValue128 }
end Go.Proofs
namespace Go.Proofs.YthbcdkeammhakaaGreat
open Go.RowKit Go.Sort
instance : Inhabited Ev := ⟨⟨0, 0, 0, 0, 0, 0, 0⟩⟩
theorem FreshD.grown {w w' : World} (h : FreshD w w') : ∃ q os', w' = grow (w.drewN q) os' := by
 refine ⟨w'.drawn - w.drawn, w'.heap.extract w.heap.size w'.heap.size, ?_⟩
 have hd := h.d
 obtain ⟨h1, h2, h3, h4, h5⟩ := h.f
 obtain ⟨hp, tp, dr, o, out⟩ := w
 obtain ⟨hp', tp', dr', o', out'⟩ := w'
 simp only at h1 h2 h3 h4 h5 hd
 subst h1 h2 h3
 unfold grow World.drewN
 simp only
 congr 1
 ·apply Array.ext_getElem?
  intro k
  by_cases hk : k < hp.size
  ·rw [Array.getElem?_append_left hk]
   exact h5 k hk (fun h => h)
  ·rw [Array.getElem?_append_right (by omega)]
   rw [Array.getElem?_extract]
   by_cases hk2 : k < hp'.size
   ·rw [if_pos (by omega)]
    congr 1
    omega
   ·rw [if_neg (by omega), Array.getElem?_eq_none (by omega)]
 ·omega
theorem flat_get (l : List Ev) (t : Nat) (ht : t < l.length * 7) : (cells l)[t]? = some ((flatK Ev.enc 7 l.toArray)[t]!) := by
 rw [get_flatK _ _ _ t (by simpa using ht)]
 have hk : t / 7 < l.length := by omega
 have e : l.toArray[t / 7]! = l[t / 7] := by simp [hk]
 obtain ⟨c0, c1, c2, c3, c4, c5, c6⟩ := cells_at l (t / 7) _ (List.getElem?_eq_getElem hk)
 rw [e]
 generalize l[t / 7] = y at *
 have h7 : t % 7 < 7 := Nat.mod_lt _ (by omega)
 obtain ⟨r, hr⟩ : ∃ r, t % 7 = r := ⟨_, rfl⟩
 obtain ⟨k, hk'⟩ : ∃ k, t / 7 = k := ⟨_, rfl⟩
 have ht2 : t = k * 7 + r := by omega
 rw [hk'] at c0 c1 c2 c3 c4 c5 c6
 rw [hr] at h7 ⊢
 subst ht2
 unfold Ev.enc
 match r, h7 with
 | 0, _ => simpa using c0
 | 1, _ => simpa using c1
 | 2, _ => simpa using c2
 | 3, _ => simpa using c3
 | 4, _ => simpa using c4
 | 5, _ => simpa using c5
 | 6, _ => simpa using c6
theorem cells_holds {w : World} {g off cap : Nat} {l : List Ev} (h : OwnS w 41 7 (.slice (some ⟨g, off, none⟩) l.length cap) l.length (cells l)) : HoldsK Ev.enc 7 w g off l.toArray := by
 intro j hj
 simp at hj
 obtain ⟨_, f, _, _, c⟩ := OwnS.at_ h
 exact ⟨c j _ (flat_get l j hj), f _⟩
theorem flat_get' (d : Array Ev) (t : Nat) (ht : t < d.size * 7) : (cells d.toList)[t]? = some ((flatK Ev.enc 7 d)[t]!) := flat_get d.toList t (by simpa using ht)
theorem sorted_own {w : World} {g off cap : Nat} {l : List Ev} (h : OwnS w 41 7 (.slice (some ⟨g, off, none⟩) l.length cap) l.length (cells l)) (n : Nat) (d : Array Ev) (os : Array Obj) (hd : d.size = l.length) :
  OwnS (sortWorldK Ev.enc 7 w g off n d os) 41 7 (.slice (some ⟨g, off, none⟩) l.length cap) l.length (cells d.toList) ∧ Keep (fun k => k = g) w (sortWorldK Ev.enc 7 w g off n d os) := by
 rcases h.2 with ⟨h0, _⟩ | ⟨g', off', cap', cur, hv, hg, h1, h2, h3, h4⟩
 ·cases h0
 injection hv with hv1 hv2 hv3
 injection hv1 with hv1
 injection hv1 with e1 e2 _
 subst e1 e2 hv3
 have hgs := (Array.getElem?_eq_some_iff.1 hg).1
 refine ⟨⟨by rw [cells_length]; simp [hd], .inr ⟨g, off, cap, putCells id off (flatK Ev.enc 7 d) cur, rfl, ?_, h1, h2, by simpa [putCells] using h3, fun j u hu => ?_⟩⟩, ⟨rfl, rfl, rfl, ?_, fun k hk hn => ?_⟩⟩
 ·unfold sortWorldK putRowK putRow mapBlock grow Go.Sort.ahead
  simp only
  rw [Array.getElem?_append_left (by simpa using hgs), Array.getElem?_modify, if_pos rfl, hg]
  rfl
 ·have hj : j < d.size * 7 := by
   have := (List.getElem?_eq_some_iff.1 hu).1
   rw [cells_length] at this
   simpa using this
  rw [flat_get' d j hj] at hu
  injection hu with hu
  subst hu
  have hjc : off + j < cur.size := by
   have : l.length * 7 ≤ cap * 7 := Nat.mul_le_mul_right 7 h1
   omega
  unfold putCells
  rw [Array.getElem?_mapIdx, Array.getElem?_eq_getElem hjc, Option.map_some, if_pos (by simp; omega), Nat.add_sub_cancel_left]
  rfl
 ·unfold sortWorldK putRowK putRow mapBlock grow Go.Sort.ahead
  simp
 ·unfold sortWorldK putRowK putRow mapBlock grow Go.Sort.ahead
  simp only
  rw [Array.getElem?_append_left (by simpa using hk), Array.getElem?_modify, if_neg (fun e => hn e.symm)]
theorem evLt_cmp (p q : Ev) : ltOf evCmp p q = evLt p q := by
 unfold ltOf evCmp
 cases h : evLt p q
 ·cases h2 : evLt q p <;> simp
 ·simp
theorem evLt_ntrans {p q r : Ev} (h : evLt p q = false) (h' : evLt q r = false) : evLt p r = false := by
 cases hc : evLt p r
 ·rfl
 ·exfalso
  cases hq : evLt q p
  ·have := evLt_total h hq
   subst this
   rw [h'] at hc
   cases hc
  ·rw [evLt_trans hq hc] at h'
   cases h'
theorem swo_ev : SWO (ltOf evCmp) where
 irrefl x := by rw [evLt_cmp]; exact evLt_irrefl x
 trans x y z h h' := by rw [evLt_cmp] at *; exact evLt_trans h h'
 ntrans x y z h h' := by rw [evLt_cmp] at *; exact evLt_ntrans h h'
theorem cmpLays_ev (g off size : Nat) (w : World) : CmpLays Tryz.prog 93 #[] Ev.enc 7 evCmp g off size w :=
 fun _ _ _ _ x y => (compare_d x y _).mono fun _ _ h => ⟨h.1, h.2.grown⟩
theorem sortE_some (g off cap : Nat) (l : List Ev) (w : World) (h : OwnS w 41 7 (.slice (some ⟨g, off, none⟩) l.length cap) l.length (cells l)) (hl : l.length ≤ 100000) :
  Calls Tryz.prog 92 #[.slice (some ⟨g, off, none⟩) l.length cap, .func (.func 93) #[] #[]] w fun e w' => e = .returned (.tuple #[]) ∧ ∃ s, s.Perm l ∧ Srt s ∧ OwnS w' 41 7 (.slice (some ⟨g, off, none⟩) s.length cap) s.length (cells s) ∧ Keep (fun k => k = g) w w' := by
 have eg : ∀ args w, (callFunc 93 args).run Tryz.prog w = .ok (.enter 93 args) w := enters_of Tryz.func93 (by kernel_rfl) rfl
 have hcon := AnyQ.slices_SortFunc sortEvL 7 Tryz.isAgg41 Tryz.sizeOf41 Ev.enc (fun _ => rfl) (fun x v hv => by simp [Ev.enc] at hv; rcases hv with rfl | rfl | rfl | rfl | rfl | rfl | rfl <;> rfl) evCmp swo_ev 93 #[] g off cap l.toArray w eg (cmpLays_ev g off _ w) (cells_holds h) (OwnS.at_ h).1 (by simp; omega)
 change Calls Tryz.prog 92 #[.slice (some ⟨g, off, none⟩) l.length cap, .func (.func 93) #[] #[]] _ _ at hcon
 refine hcon.mono ?_
 rintro e w' ⟨rfl, d', n, os, ⟨p1, _, p3⟩, hs, rfl⟩
 have hd : d'.size = l.length := by simpa using p1
 obtain ⟨o, k⟩ := sorted_own h n d' os hd
 have hp : d'.toList.Perm l := by
  have e1 : (d'.extract 0 l.toArray.size) = d' := by rw [show l.toArray.size = d'.size by simp [hd]]; simp
  have e2 : (l.toArray.extract 0 l.toArray.size) = l.toArray := by simp
  rw [e1, e2] at p3
  simpa using p3
 refine ⟨rfl, d'.toList, hp, ?_, ?_, k⟩
 ·unfold Srt
  rw [List.pairwise_iff_getElem]
  intro i j hi hj hij
  have := hs i j (by omega) hij (by simp at hj ⊢; omega)
  rw [evLt_cmp] at this
  simp at hi hj
  rw [getElem!_pos d' j hj, getElem!_pos d' i hi] at this
  simpa using this
 ·rw [hp.length_eq]
  exact o
theorem insertion_nil (c : Nat) (f : Value) (w : World) : Calls Tryz.prog 144 #[.slice none 0 c, .int .i64 0, .int .i64 0, f] w fun e w' => e = .returned (.tuple #[]) ∧ w' = w := by
 go_enter Tryz.func144, Tryz.ntmps144
 go_wp2_with fail
 go_loopg [8] 0 (fun gk u8 wr => gk = 0 ∧ u8 = .int .i64 1 ∧ wr = w)
 case atStart => exact ⟨rfl, rfl, rfl⟩
 case round =>
  obtain ⟨rfl, rfl, rfl⟩ := hrel
  go_wp2_with fail
  go_end0
  exact ⟨rfl, rfl⟩
theorem pdq_nil (c : Nat) (n : Int) (f : Value) (w : World) : Calls Tryz.prog 127 #[.slice none 0 c, .int .i64 0, .int .i64 0, .int .i64 n, f] w fun e w' => e = .returned (.tuple #[]) ∧ w' = w := by
 have H := Lib.hid (insertion_nil c f w)
 go_enter Tryz.func127, Tryz.ntmps127
 go_wp2_with fail
 go_loopg [1, 2, 3, 10, 11] 0 (fun gk u1 u2 u3 u10 u11 wr => gk = 0 ∧ u1 = .int .i64 0 ∧ u2 = .int .i64 0 ∧ u3 = .int .i64 n ∧ u10 = .bool true ∧ u11 = .bool true ∧ wr = w)
 case atStart => exact ⟨rfl, rfl, rfl, rfl, rfl, rfl, rfl⟩
 case round =>
  obtain ⟨rfl, rfl, rfl, rfl, rfl, rfl, rfl⟩ := hrel
  go_wp2_with ((with_reducible refine H.out.mono ?_); rintro e w1 ⟨rfl, rfl⟩)
  refine bodyPost_ret (results_none rfl _ _ _) rfl ?_
  exact ⟨rfl, rfl⟩
theorem bitsLen0 (w : World) : Calls Tryz.prog 128 #[.int .u64 0] w fun e w' => e = .returned (.int .i64 0) ∧ w' = w := by
 have h := Any.bits_Len (SlLaysF0.n15.bits (P := Tryz.prog) { sortEvL with }) 0 w (by omega) (by omega)
 change Calls Tryz.prog 128 _ _ _ at h
 exact h
theorem sortE_nil (w : World) :
  Calls Tryz.prog 92 #[.slice none 0 0, .func (.func 93) #[] #[]] w fun e w' => e = .returned (.tuple #[]) ∧ w' = w := by
 have H := Lib.hid (pdq_nil 0 0 (.func (.func 93) #[] #[]) w)
 have HB := Lib.hid (bitsLen0 w)
 have wr : IntKind.u64.wrap 0 = 0 := by decide
 go_enter Tryz.func92, Tryz.ntmps92
 go_wp2_with (first
  | (go_at_call 128; (with_reducible refine HB.out.mono ?_); rintro e w1 ⟨rfl, rfl⟩)
  | (go_at_call 127; (with_reducible refine H.out.mono ?_); rintro e w1 ⟨rfl, rfl⟩))
 go_end0
 exact ⟨rfl, rfl⟩
def OSortP (v : Value) (l : List Ev) (w : World) (e : Ending) (w' : World) : Prop :=
 e = .returned (.tuple #[]) ∧ ∃ s, s.Perm l ∧ Srt s ∧ OwnS w' 41 7 v s.length (cells s) ∧ Keep (fun k => v.ownBlock = some k) w w'
theorem sortE_any (v : Value) (l : List Ev) (w : World) (h : OwnS w 41 7 v l.length (cells l)) (hl : l.length ≤ 100000) :
  Calls Tryz.prog 92 #[v, .func (.func 93) #[] #[]] w (OSortP v l w) := by
 rcases h.2 with ⟨rfl, hn⟩ | ⟨g, off, cap, cur, rfl, _⟩
 ·have : l = [] := List.eq_nil_of_length_eq_zero hn
  subst this
  refine (sortE_nil w).mono ?_
  rintro e w' ⟨rfl, rfl⟩
  exact ⟨rfl, [], .refl _, List.Pairwise.nil, OwnS.nil _ _ _, Keep.refl _ _⟩
 ·refine (sortE_some g off cap l w h hl).mono ?_
  rintro e w' ⟨rfl, s, s1, s2, s3, s4⟩
  refine ⟨rfl, s, s1, s2, ?_, s4.more (fun k _ hk => by subst hk; rfl)⟩
  have := s3
  rw [s1.length_eq] at this ⊢
  exact this
end Go.Proofs.YthbcdkeammhakaaGreat
namespace Go.Proofs.YthbcdkeammhakaaGreat
open Go.RowKit
attribute [local go_sem ↓] Go.wp_at_zero Go.wp_at_succ
attribute [local go_sem ↓] run_eql_ev
theorem isNilE (w : World) (a : Option Addr) (n c : Nat) : (binOp .eql 24 (.slice a n c) (.slice none 0 0)).run Tryz.prog w = .ok (.bool a.isNone) w := Lib.run_eql_slice_nil w _ _ a n c 0 0 Tryz.underlying24
attribute [local go_sem] isNilE
theorem EvAt.src {w : World} {v : Value} {l : List Ev} (h : EvAt w v l) : Src w 7 v l.length (cells l) := by
 obtain ⟨A, c, rfl, h⟩ := h
 refine ⟨cells_length l, ?_⟩
 cases l with
 | nil =>
  cases A with
  | none => exact .inl ⟨_, rfl, rfl⟩
  | some a => exact .inr ⟨a, c, rfl, fun j u hu => by simp [cells] at hu⟩
 | cons y r =>
  obtain ⟨b, off, rfl, _, _⟩ := h 0 y rfl
  refine .inr ⟨_, _, rfl, fun j u hu => ?_⟩
  have hj := (List.getElem?_eq_some_iff.1 hu).1
  rw [cells_length] at hj
  obtain ⟨x, hx⟩ : ∃ x, (y :: r)[j / 7]? = some x := ⟨_, List.getElem?_eq_getElem (by omega)⟩
  obtain ⟨b', off', e, _, hh⟩ := h _ _ hx
  injection e with e
  injection e with e1 e2 _
  subst e1 e2
  have := hh (j % 7) u (by
   obtain ⟨c0, c1, c2, c3, c4, c5, c6⟩ := cells_at _ _ _ hx
   have h7 : j % 7 < 7 := Nat.mod_lt _ (by omega)
   obtain ⟨q, hq⟩ : ∃ q, j / 7 = q := ⟨_, rfl⟩
   obtain ⟨m, hm⟩ : ∃ m, j % 7 = m := ⟨_, rfl⟩
   have e2 : j = q * 7 + m := by omega
   rw [hq] at c0 c1 c2 c3 c4 c5 c6
   rw [hm] at h7 ⊢
   rw [e2] at hu
   unfold Ev.enc
   match m, h7 with
   | 0, _ => rw [Nat.add_zero, c0] at hu; simpa using hu
   | 1, _ => rw [c1] at hu; simpa using hu
   | 2, _ => rw [c2] at hu; simpa using hu
   | 3, _ => rw [c3] at hu; simpa using hu
   | 4, _ => rw [c4] at hu; simpa using hu
   | 5, _ => rw [c5] at hu; simpa using hu
   | 6, _ => rw [c6] at hu; simpa using hu)
  rw [show off + j / 7 * 7 + j % 7 = off + j by omega] at this
  rw [show (⟨b, off, none⟩ : Addr).add j = ⟨b, off + j, none⟩ by cases j <;> simp [Addr.add]]
  exact this
def CloneP (l : List Ev) (w : World) (e : Ending) (w' : World) : Prop := ∃ v', e = .returned v' ∧ OwnS w' 41 7 v' l.length (cells l) ∧ Fresh w w' ∧ ∀ k, v'.ownBlock = some k → w.heap.size ≤ k
theorem eclone_any (v : Value) (l : List Ev) (w : World) (h : EvAt w v l) (hn : l.length ≤ 1000000) :
  Calls Tryz.prog 91 #[v] w (CloneP l w) := by
 have HO := Lib.hid h.src
 obtain ⟨A, c, rfl, h⟩ := h
 cases A with
 | none =>
  have hx : l = [] := by
   cases l with
   | nil => rfl
   | cons y r => obtain ⟨b, off, e, _⟩ := h 0 y rfl; cases e
  subst hx
  clear h HO
  go_enter Tryz.func91, Tryz.ntmps91
  go_wp2_with fail
  go_ret
  exact ⟨_, rfl, OwnS.nil _ _ _, Keep.refl _ _, by simp [Value.ownBlock]⟩
 | some a =>
  have HS := Lib.hid (show Src (w.alloc (.cells #[] 41)) 7 (.slice (some a) l.length c) l.length (cells l) from by
   rcases HO.out with ⟨e, ⟨c', h0, _⟩ | ⟨a', c', h0, h2⟩⟩
   ·cases h0
   ·injection h0 with e1 _ _
    injection e1 with e1
    subst e1
    exact ⟨e, .inr ⟨_, _, rfl, fun j u hu => Fresh.cell_ ((Keep.refl _ w).alloc _) (h2 j u hu)⟩⟩)
  have H1 := Lib.hid (cells_one l)
  clear h HO
  obtain ⟨i0, hi, hz0, hz1, hz2⟩ := info_parts info_ev
  have h04 : 0 < 7 := by omega
  have hL1 : 0 + l.length ≤ maxLen := one_le_maxLen (by omega)
  have hL2 : (0 + l.length) * 56 ≤ 140737488355328 := by omega
  have HN : Hid (OwnS (w.alloc (.cells #[] 41)) 41 7 (.slice (some ⟨w.heap.size, 0, none⟩) 0 0) 0 []) := OwnS.new_ (Blk.at_new rfl _ #[]) rfl (Nat.zero_le _)
  go_enter Tryz.func91, Tryz.ntmps91
  go_wp2_with (at_builtin; refine wpList_append_OwnS _ rfl _ _ 24 rfl 41 i0 (.agg #[.int .i64 0, .int .i64 0, .int .i64 0, .int .i64 0, .int .i64 0, .int .i64 0, .int .i64 0]) 7 56 Tryz.underlying24 hi hz0 hz1 hz2 rfl h04 (.slice (some ⟨w.heap.size, 0, none⟩) 0 0) 0 [] rfl HN.out (.slice (some a) l.length c) l.length (cells l) rfl HS.out H1.out hL1 hL2 ?_; intro v' w1 ho1 hk1 hat1)
  go_ret
  refine ⟨v', rfl, by simpa using ho1, Keep.step ((Keep.refl _ w).alloc _) hk1 (fun k hk hk' => by simp [Value.ownBlock] at hk'; omega), fun k hk => ?_⟩
  have := hat1 k hk
  simp [Value.ownBlock] at this
  omega
theorem srt_nodup : ∀ {s : List Ev}, Srt s → (∀ j, j + 1 < s.length → s[j]? ≠ s[j + 1]?) → s.Nodup
 | [], _, _ => List.nodup_nil
 | a :: r, h, hd => by
  obtain ⟨h1, h2⟩ := List.pairwise_cons.1 h
  have ih := srt_nodup h2 (fun j hj => by simpa using hd (j + 1) (by simpa using hj))
  refine List.nodup_cons.2 ⟨fun ha => ?_, ih⟩
  cases r with
  | nil => simp at ha
  | cons b r' =>
   have hab : a ≠ b := fun e => hd 0 (by simp) (by simp [e])
   rcases List.mem_cons.1 ha with e | hm
   ·exact hab e
   ·exact hab (evLt_total ((List.pairwise_cons.1 h2).1 a hm) (h1 b (by simp)))
theorem nodup_adj {s : List Ev} (h : s.Nodup) {j : Nat} {x : Ev} (hj : s[j]? = some x) (hj1 : s[j + 1]? = some x) : False := by
 have := (List.getElem?_inj (List.getElem?_eq_some_iff.1 hj).1 h).1 (hj.trans hj1.symm)
 omega
def wrongE (a0 : Int) (l : List Ev) (q : List Rec) : Int :=
 if l.any (fun e => e.t != a0) then 1 else if l.Nodup then (if q.any (fun r => r.2 && decide (a0 ≤ r.1.t)) then 19 else 0) else 13
def WrongP (a0 : Int) (l : List Ev) (q : List Rec) (w : World) (e : Ending) (w' : World) : Prop := e = .returned (.int .i64 (wrongE a0 l q)) ∧ Fresh w w'
theorem WrongP.is {a0 : Int} {l : List Ev} {q : List Rec} {w w' : World} {r : Int} (hr : wrongE a0 l q = r) (f : Fresh w w') : WrongP a0 l q w (.returned (.int .i64 r)) w' := by
 subst hr
 exact ⟨rfl, f⟩
theorem wrong_any (g : Nat) (v u : Value) (q : List Rec) (a0 : Int) (l : List Ev) (w : World) (h : OQ w g v q) (hu : EvAt w u l) (hl : l.length ≤ 100000) (hq : q.length ≤ 100000) :
  Calls Tryz.prog 90 #[.pointer (some ⟨g, 0, none⟩), .int .i64 a0, u] w (WrongP a0 l q w) := by
 have H := Lib.hid h
 have HE := Lib.hid (fun (W : World) (f : Fresh w W) => eclone_any u l W (hu.fresh f) (by omega))
 have HSo := Lib.hid (fun (W : World) (v1 : Value) (o : OwnS W 41 7 v1 l.length (cells l)) => sortE_any v1 l W o hl)
 obtain ⟨B, d, rfl, hU⟩ := hu
 have HU := Lib.hid hU
 obtain ⟨A, cap, rfl, hca, hcm⟩ := h.own.shape
 have hcm : cap ≤ 9223372036854775807 := by unfold maxLen at hcm; omega
 clear h hU
 go_enter Tryz.func90, Tryz.ntmps90
 go_wp2_with fail
 go_loopg [17] l.length (fun gk u17 wr => ∃ i : Nat, i ≤ l.length ∧ gk = l.length - i ∧ u17 = .int .i64 i ∧ (∀ j e, j < i → l[j]? = some e → e.t = a0) ∧ Fresh w wr)
 case atStart => exact ⟨0, by omega, rfl, rfl, fun j r h => absurd h (by omega), Keep.refl _ _⟩
 case round =>
  obtain ⟨i, hi, rfl, rfl, hb, hF⟩ := hrel
  have HB := Lib.hid hb
  have HF := Lib.hid hF
  clear hb hF
  by_cases hlt : i < l.length
  ·obtain ⟨y, hy⟩ : ∃ y, l[i]? = some y := ⟨_, List.getElem?_eq_getElem hlt⟩
   obtain ⟨b0, off, rfl, lt0, hO⟩ := HU.out i y hy
   have x0 := HF.out.cell_ (hO 0 (.int .i64 y.a) rfl)
   have x1 := HF.out.cell_ (hO 1 (.int .i64 y.s) rfl)
   have x2 := HF.out.cell_ (hO 2 (.int .i64 y.t) rfl)
   have x3 := HF.out.cell_ (hO 3 (.int .i64 y.n) rfl)
   have x4 := HF.out.cell_ (hO 4 (.int .i64 y.d) rfl)
   have x5 := HF.out.cell_ (hO 5 (.int .i64 y.k) rfl)
   have x6 := HF.out.cell_ (hO 6 (.int .i64 y.x) rfl)
   rw [Nat.add_zero] at x0
   have HY := Lib.hid hy
   clear hO hy
   by_cases ht : y.t = a0
   ·have t1 : (y.t != a0) = false := by simp [ht]
    have HB2 := Lib.hid (show ∀ j e, j < i + 1 → l[j]? = some e → e.t = a0 from fun j e hj he => by
     by_cases hji : j = i
     ·subst hji
      rw [HY.out] at he
      injection he with he
      subst he
      exact ht
     ·exact HB.out j e (by omega) he)
    clear ht
    go_wp2_with fail
    go_roundg (l.length - (i + 1))
    case measure => omega
    case rel => exact ⟨i + 1, by omega, rfl, by go_num, HB2.out, HF.out.alloc _⟩
   ·have t1 : (y.t != a0) = true := by simp [ht]
    have EQ : Hid (wrongE a0 l q = 1) := Lib.hid (by unfold wrongE; rw [if_pos (List.any_eq_true.2 ⟨y, List.mem_of_getElem? HY.out, t1⟩)])
    clear ht
    go_wp2_with fail
    go_ret
    exact WrongP.is EQ.out (HF.out.alloc _)
  ·obtain rfl : i = l.length := by omega
   have NA : Hid (l.any (fun e => e.t != a0) = false) := Lib.hid (by
    rw [List.any_eq_false]
    intro e he
    obtain ⟨j, hj⟩ := List.mem_iff_getElem?.1 he
    simp [HB.out j e (List.getElem?_eq_some_iff.1 hj).1 hj])
   clear HB
   go_wp2_with (first
    | (go_at_call 91; (with_reducible refine (HE.out _ HF.out).mono ?_); rintro e w1 ⟨v1, rfl, o1, f1, n1⟩; have O1 := Lib.hid o1; have F1 := Lib.hid f1; have N1 := Lib.hid n1; clear o1 f1 n1)
    | (go_at_call 92; (with_reducible refine (HSo.out _ _ O1.out).mono ?_); rintro e w2 ⟨rfl, s, s1, s2, s3, s4⟩; have S1 := Lib.hid s1; have S2 := Lib.hid s2; have S3 := Lib.hid s3; have S4 := Lib.hid s4; clear s1 s2 s3 s4))
   have F2 : Hid (Fresh w w2) := Lib.hid ((HF.out.step F1.out (fun _ _ h => h)).step S4.out (fun k hk h => by have := N1.out k h; have := HF.out.size; omega))
   have hsl : s.length ≤ 100000 := by rw [S1.out.length_eq]; exact hl
   obtain ⟨A1, cap1, rfl, hc1, hm1⟩ := S3.out.shape
   have hm1 : cap1 ≤ 9223372036854775807 := by unfold maxLen at hm1; omega
   clear O1 F1 N1 HE HSo S4
   go_loopg [10] s.length (fun gk u10 wr => ∃ k : Nat, k ≤ s.length ∧ gk = s.length - k ∧ u10 = .int .i64 ((k : Int) + 1) ∧ (∀ j, j < k → j + 1 < s.length → s[j]? ≠ s[j + 1]?) ∧ Fresh w2 wr)
   case atStart => exact ⟨0, by omega, rfl, by simp, fun j h => absurd h (by omega), Keep.refl _ _⟩
   case round =>
    obtain ⟨k, hk, rfl, rfl, hb, hF⟩ := hrel
    have HB := Lib.hid hb
    have HG := Lib.hid hF
    clear hb hF
    by_cases hlt : k + 1 < s.length
    ·obtain ⟨x, hx⟩ : ∃ x, s[k + 1]? = some x := ⟨_, List.getElem?_eq_getElem hlt⟩
     obtain ⟨y, hy⟩ : ∃ y, s[k]? = some y := ⟨_, List.getElem?_eq_getElem (by omega)⟩
     obtain ⟨g3, off3, _, hv3, hg3, _, _, hcc⟩ := (S3.out.fresh HG.out).form (by omega)
     injection hv3 with e1 e2 e3
     subst e1 e3
     obtain ⟨x0, x1, x2, x3, x4, x5, x6⟩ := cells_at s _ x hx
     obtain ⟨y0, y1, y2, y3, y4, y5, y6⟩ := cells_at s _ y hy
     have x0 := hcc _ _ x0
     have x1 := hcc _ _ x1
     have x2 := hcc _ _ x2
     have x3 := hcc _ _ x3
     have x4 := hcc _ _ x4
     have x5 := hcc _ _ x5
     have x6 := hcc _ _ x6
     have y0 := hcc _ _ y0
     have y1 := hcc _ _ y1
     have y2 := hcc _ _ y2
     have y3 := hcc _ _ y3
     have y4 := hcc _ _ y4
     have y5 := hcc _ _ y5
     have y6 := hcc _ _ y6
     rw [← Nat.add_assoc] at x1 x2 x3 x4 x5 x6 y1 y2 y3 y4 y5 y6
     have tk : ((k : Int) + 1).toNat = k + 1 := by omega
     have hk1 : (k : Int) + 1 < (s.length : Int) := by omega
     have hk0 : 0 ≤ (k : Int) + 1 := by omega
     have hk2 : (k : Int) < (s.length : Int) := by omega
     have hk3 : 0 ≤ (k : Int) := by omega
     have wk : IntKind.i64.wrap ((k : Int) + 1 - 1) = k := by rw [IntWalk.i64_in _ (by omega)]; omega
     have wk' : IntKind.i64.wrap (k : Int) = k := IntWalk.i64_in _ (by omega)
     have wk2 : IntKind.i64.wrap ((k : Int) + 1 + 1) = (k : Int) + 1 + 1 := IntWalk.i64_in _ (by omega)
     have HX := Lib.hid hx
     have HY := Lib.hid hy
     clear hcc hx hy e2
     by_cases he : x = y
     ·subst he
      have EQ : Hid (wrongE a0 l q = 13) := Lib.hid (by
       unfold wrongE
       rw [if_neg (by rw [NA.out]; simp), if_neg (fun hn => nodup_adj ((S1.out.nodup_iff).2 hn) HY.out HX.out)])
      go_wp2_with fail
      go_quiet (fail)
      go_wp2_with fail
      go_ret
      exact WrongP.is EQ.out (F2.out.step (HG.out.drewN _) (fun _ _ h => h))
     ·have hb1 : (x.a == y.a && (x.s == y.s && (x.t == y.t && (x.n == y.n && (x.d == y.d && (x.k == y.k && x.x == y.x)))))) = false := by
       have := mt (evB_iff x y).1 he
       simpa [evB] using this
      have HB2 := Lib.hid (show ∀ j, j < k + 1 → j + 1 < s.length → s[j]? ≠ s[j + 1]? from fun j hj hj1 => by
       by_cases hjk : j = k
       ·subst hjk
        rw [HX.out, HY.out]
        exact fun h => he (by injection h with h; exact h.symm)
       ·exact HB.out j (by omega) hj1)
      clear he
      go_wp2_with fail
      go_quiet (fail)
      go_wp2_with fail
      go_roundg (s.length - (k + 1))
      case measure => omega
      case rel => exact ⟨k + 1, by omega, rfl, by simp, HB2.out, HG.out.drewN _⟩
    ·have hk1 : decide ((k : Int) + 1 < (s.length : Int)) = false := decide_eq_false (by omega)
     have ND : Hid (l.Nodup) := Lib.hid ((S1.out.nodup_iff).1 (srt_nodup S2.out (fun j hj => HB.out j (by omega) hj)))
     have cq := ((H.out.fresh F2.out).fresh HG.out).blk.cell
     have F3 : Hid (Fresh w wr) := Lib.hid (F2.out.step HG.out (fun _ _ h => h))
     clear HB HG F2
     go_wp2_with fail
     go_loopg [52] q.length (fun gk u52 wq => ∃ i : Nat, i ≤ q.length ∧ gk = q.length - i ∧ u52 = .int .i64 i ∧ (∀ j r, j < i → q[j]? = some r → (r.2 && decide (a0 ≤ r.1.t)) = false) ∧ Fresh w wq)
     case atStart => exact ⟨0, by omega, rfl, rfl, fun j r h => absurd h (by omega), F3.out⟩
     case round =>
      obtain ⟨i, hi, rfl, rfl, hb, hF⟩ := hrel
      have HB := Lib.hid hb
      have HF := Lib.hid hF
      clear hb hF
      by_cases hli : i < q.length
      ·obtain ⟨y, hy⟩ : ∃ y, q[i]? = some y := ⟨_, List.getElem?_eq_getElem hli⟩
       obtain ⟨g3, off3, _, hv3, hg3, _, _, hcc⟩ := (H.out.own.fresh HF.out).form (by omega)
       injection hv3 with e1 e2 e3
       subst e1 e3
       obtain ⟨y0, y1, y2, y3, y4, y5, y6, y7⟩ := rcells_at q i y hy
       have y0 := hcc _ _ y0
       have y1 := hcc _ _ y1
       have y2 := hcc _ _ y2
       have y3 := hcc _ _ y3
       have y4 := hcc _ _ y4
       have y5 := hcc _ _ y5
       have y6 := hcc _ _ y6
       have y7 := hcc _ _ y7
       rw [← Nat.add_assoc] at y1 y2 y3 y4 y5 y6 y7
       have HY := Lib.hid hy
       clear hcc hy e2
       obtain ⟨y, b⟩ := y
       simp only at y0 y1 y2 y3 y4 y5 y6 y7
       have NX : (b && decide (a0 ≤ y.t)) = false → Hid (∀ j r, j < i + 1 → q[j]? = some r → (r.2 && decide (a0 ≤ r.1.t)) = false) := fun hb => Lib.hid fun j r hj hr => by
        by_cases hji : j = i
        ·subst hji
         rw [HY.out] at hr
         injection hr with hr
         subst hr
         exact hb
        ·exact HB.out j r (by omega) hr
       cases b
       ·have HB2 := NX (by simp)
        clear NX
        go_wp2_with fail
        go_roundg (q.length - (i + 1))
        case measure => omega
        case rel => exact ⟨i + 1, by omega, rfl, by go_num, HB2.out, HF.out.alloc _⟩
       ·by_cases ht : a0 ≤ y.t
        ·have t1 : decide (a0 ≤ y.t) = true := decide_eq_true ht
         have EQ : Hid (wrongE a0 l q = 19) := Lib.hid (by
          unfold wrongE
          rw [if_neg (by rw [NA.out]; simp), if_pos ND.out, if_pos (List.any_eq_true.2 ⟨_, List.mem_of_getElem? HY.out, by simp [ht]⟩)])
         clear ht NX
         go_wp2_with fail
         go_ret
         exact WrongP.is EQ.out (HF.out.alloc _)
        ·have t1 : decide (a0 ≤ y.t) = false := decide_eq_false ht
         have HB2 := NX (by simp [ht])
         clear NX ht
         go_wp2_with fail
         go_roundg (q.length - (i + 1))
         case measure => omega
         case rel => exact ⟨i + 1, by omega, rfl, by go_num, HB2.out, HF.out.alloc _⟩
      ·obtain rfl : i = q.length := by omega
       have EQ : Hid (wrongE a0 l q = 0) := Lib.hid (by
        unfold wrongE
        rw [if_neg (by rw [NA.out]; simp), if_pos ND.out, if_neg (by
         rw [List.any_eq_true]
         rintro ⟨r, hr, h⟩
         obtain ⟨j, hj⟩ := List.mem_iff_getElem?.1 hr
         rw [HB.out j r (List.getElem?_eq_some_iff.1 hj).1 hj] at h
         cases h)])
       go_wp2_with fail
       go_ret
       exact WrongP.is EQ.out HF.out
end Go.Proofs.YthbcdkeammhakaaGreat
namespace Go.Proofs.YthbcdkeammhakaaGreat
open Go.RowKit
attribute [local go_sem ↓] Go.wp_at_zero Go.wp_at_succ
theorem sort_ext {l m : List Ev} (hl : Srt l) (hm : Srt m) (h : l.Perm m) : l = m :=
 List.Perm.eq_of_pairwise (le := fun p q => evLt q p = false) (fun _ _ _ _ h1 h2 => evLt_total h2 h1) hl hm h
def esort (l : List Ev) : List Ev := l.mergeSort (fun a b => !evLt b a)
theorem esort_perm (l : List Ev) : (esort l).Perm l := List.mergeSort_perm l _
theorem esort_srt (l : List Ev) : Srt (esort l) := by
 have h := List.pairwise_mergeSort (le := fun a b => !evLt b a) (fun a b c h1 h2 => by
  simp only [Bool.not_eq_true'] at *
  exact evLt_ntrans h2 h1) (fun a b => by
  cases h1 : evLt b a
  ·simp
  ·have : evLt a b = false := by
    cases h2 : evLt a b
    ·rfl
    ·have := evLt_trans h1 h2
     rw [evLt_irrefl] at this
     cases this
   simp [this]) l
 exact List.Pairwise.imp (fun h => by simpa using h) h
theorem esort_is {l s : List Ev} (hp : s.Perm l) (hs : Srt s) : s = esort l := sort_ext hs (esort_srt l) (hp.trans (esort_perm l).symm)
theorem esort_len (l : List Ev) : (esort l).length = l.length := (esort_perm l).length_eq
def ehas (s : List Ev) (e : Ev) : Bool := decide (s[pos s e]? = some e)
def sentP (a0 : Int) (s : List Ev) (r : Rec) : Bool := if r.1.t = a0 then !ehas s r.1 else !r.2 && decide (r.1.t < a0)
theorem sent1 (x1 x2 : Nat) (a0 : Int) (vs : Value) (s : List Ev) (r : Rec) (w : World) (h1 : Blk w x1 3 #[.int .i64 a0]) (h2 : Blk w x2 24 #[vs]) (ho : OwnS w 41 7 vs s.length (cells s)) (hs : Srt s) (hl : s.length ≤ 100000) :
  Calls Tryz.prog 95 #[Rec.val r, .pointer (some ⟨x1, 0, none⟩), .pointer (some ⟨x2, 0, none⟩)] w fun e w' => e = .returned (.bool (sentP a0 s r)) ∧ Fresh w w' := by
 have HS := Lib.hid (fun (W : World) (f : Fresh w W) => osearch_any vs s r.1 W (ho.fresh f) hs hl)
 unfold Rec.val sentP
 have c1 := h1.cell
 have c2 := h2.cell
 have l1 := h1.lt
 have l2 := h2.lt
 clear h1 h2 ho hs
 obtain ⟨y, b⟩ := r
 unfold Ev.val at HS
 have F0 : Hid (Fresh w (w.alloc (.cells #[.int .i64 y.a, .int .i64 y.s, .int .i64 y.t, .int .i64 y.n, .int .i64 y.d, .int .i64 y.k, .int .i64 y.x, .bool b] 137))) := Lib.hid ((Keep.refl _ w).alloc _)
 by_cases ht : y.t = a0
 ·have t1 : (y.t == a0) = true := by simp [ht]
  rw [if_pos ht]
  unfold ehas
  obtain ⟨N, hN⟩ : ∃ N, pos s y = N := ⟨_, rfl⟩
  simp only at HS
  rw [hN] at HS
  obtain ⟨D, hD⟩ : ∃ D, decide (s[N]? = some y) = D := ⟨_, rfl⟩
  rw [hD] at HS
  simp only
  rw [hN, hD]
  clear ht hN hD
  go_enter Tryz.func95, Tryz.ntmps95
  go_wp2_with (go_at_call 96; (with_reducible refine (HS.out _ F0.out).mono ?_); rintro e w1 ⟨rfl, f1⟩)
  go_ret
  exact ⟨rfl, F0.out.step f1 (fun _ _ h => h)⟩
 ·have t1 : (y.t == a0) = false := by simp [ht]
  rw [if_neg ht]
  clear ht HS
  cases b
  ·go_enter Tryz.func95, Tryz.ntmps95
   go_wp2_with fail
   go_ret
   exact ⟨rfl, F0.out⟩
  ·go_enter Tryz.func95, Tryz.ntmps95
   go_wp2_with fail
   go_ret
   exact ⟨rfl, F0.out⟩
def rins (q : List Rec) (x : Rec) : List Rec := q.take (rpos q x.1) ++ x :: q.drop (rpos q x.1)
def rmark (q : List Rec) (e : Ev) : List Rec := q.set (rpos q e) (e, true)
theorem rpos_le (l : List Rec) (e : Ev) : rpos l e ≤ l.length := List.countP_le_length
theorem RSrt.ins {q : List Rec} (h : RSrt q) {x : Rec} (hx : rhas q x.1 = false) : RSrt (rins q x) := by
 obtain ⟨h1, h2⟩ := h.pos_ x.1
 unfold RSrt rins
 rw [List.pairwise_append]
 refine ⟨List.Pairwise.sublist (List.take_sublist _ _) h, List.pairwise_cons.2 ⟨fun p hp => ?_, List.Pairwise.sublist (List.drop_sublist _ _) h⟩, fun p hp r hr => ?_⟩
 ·obtain ⟨j, hj⟩ := List.mem_iff_getElem?.1 hp
  rw [List.getElem?_drop] at hj
  have h3 := h2 _ p (Nat.le_add_right _ _) hj
  cases h4 : sLt x.1 p.1
  ·have := sLt_total h3 h4
   have hm : rhas q x.1 = true := (rhas_mem h x.1).2 ⟨p.2, by rw [← this]; exact List.mem_of_getElem? hj⟩
   rw [hm] at hx
   cases hx
  ·rfl
 ·obtain ⟨j, hj⟩ := List.mem_iff_getElem?.1 hp
  rw [List.getElem?_take] at hj
  split at hj
  ·rename_i hlt
   have h3 := h1 j p hlt hj
   rcases List.mem_cons.1 hr with rfl | hr
   ·exact h3
   ·obtain ⟨i, hi⟩ := List.mem_iff_getElem?.1 hr
    rw [List.getElem?_drop] at hi
    have h4 := h2 _ r (Nat.le_add_right _ _) hi
    cases h5 : sLt x.1 r.1
    ·have e := sLt_total h4 h5
     rw [e]
     exact h3
    ·exact sLt_trans h3 h5
  ·cases hj
theorem oins_any (v : Value) (gs : Nat) (l : List Rec) (x : Rec) (w : World) (ho : OwnS w 137 8 v l.length (rcells l)) (hb : Blk w gs 137 x.enc.toArray) (hne : v.ownBlock ≠ some gs) (hl : l.length ≤ 100000) :
  Calls Tryz.prog 98 #[v, .int .i64 (rpos l x.1 : Nat), .slice (some ⟨gs, 0, none⟩) 1 1] w (OInsP v (rins l x) w) := by
 by_cases hp : rpos l x.1 = l.length
 ·have h := oins_end v gs l x w ho hb hl
  unfold rins
  rw [hp, List.take_length, List.drop_length]
  exact h
 have hlt : rpos l x.1 < l.length := by have := rpos_le l x.1; omega
 obtain ⟨g', off, cap, rfl, _⟩ := ho.form (by omega)
 have hne' : gs ≠ g' := fun h => hne (by simp [Value.ownBlock, h])
 by_cases hr : l.length + 1 ≤ cap
 ·exact oins_shift g' off cap gs _ l x w ho hb hne' hl hlt hr
 ·exact oins_grow g' off cap gs _ l x w ho hb hl hlt (by omega)
def sentStep (st : List Rec × List OMsg) (e : Ev) : List Rec × List OMsg := if rhas st.1 e then (rmark st.1 e, st.2) else (rins st.1 (e, true), st.2 ++ [(e, false)])
theorem rins_len (q : List Rec) (x : Rec) : (rins q x).length = q.length + 1 := by
 have := rpos_le q x.1
 unfold rins
 simp
 omega
theorem rmark_len (q : List Rec) (e : Ev) : (rmark q e).length = q.length := by unfold rmark; simp
theorem step_le (st : List Rec × List OMsg) (e : Ev) : (sentStep st e).1.length ≤ st.1.length + 1 ∧ (sentStep st e).2.length ≤ st.2.length + 1 := by
 unfold sentStep
 split
 ·rw [rmark_len]; exact ⟨Nat.le_succ _, Nat.le_succ _⟩
 ·rw [rins_len]; simp
theorem steps_le (s : List Ev) : ∀ (st : List Rec × List OMsg), (s.foldl sentStep st).1.length ≤ st.1.length + s.length ∧ (s.foldl sentStep st).2.length ≤ st.2.length + s.length := by
 induction s with
 | nil => intro st; exact ⟨Nat.le_refl _, Nat.le_refl _⟩
 | cons e r ih =>
  intro st
  have h1 := ih (sentStep st e)
  have h2 := step_le st e
  simp only [List.foldl_cons, List.length_cons]
  omega
def sentFrom (a0 : Int) (l : List Ev) (q : List Rec) : List Rec × List OMsg := (esort l).foldl sentStep (stay (sentP a0 (esort l)) q, antis (sentP a0 (esort l)) q)
def sentQ (a0 : Int) (l : List Ev) (q : List Rec) : List Rec := if wrongE a0 l q = 0 then (sentFrom a0 l q).1 else q
def sentM (a0 : Int) (l : List Ev) (q : List Rec) : List OMsg := if wrongE a0 l q = 0 then (sentFrom a0 l q).2 else []
def SentP (g : Nat) (v : Value) (a0 : Int) (l : List Ev) (q : List Rec) (w : World) (e : Ending) (w' : World) : Prop :=
 ∃ va v', e = .returned (.tuple #[va, .int .i64 (wrongE a0 l q)]) ∧ OwnS w' 43 8 va (sentM a0 l q).length (rcells (sentM a0 l q)) ∧ OQ w' g v' (sentQ a0 l q) ∧ OTurn w w' g v v' ∧ ∀ k, va.ownBlock = some k → w.heap.size ≤ k
end Go.Proofs.YthbcdkeammhakaaGreat
