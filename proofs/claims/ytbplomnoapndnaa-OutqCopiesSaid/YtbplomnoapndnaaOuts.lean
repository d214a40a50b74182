/-
  outq.Queue: Flush, Drop, Back, at once and lazily.
-/
import Derived.Test.YtbplomnoapndnaaTakeOOflush
import Derived.Test.YtbplomnoapndnaaTakeOOback
import Derived.Test.YtbplomnoapndnaaTakeOOdrop
namespace Go.Proofs.Ytbplomnoapndnaa
open Go.RowKit
attribute [local go_sem ↓] Go.wp_at_zero Go.wp_at_succ

theorem TakeP.after {g : Nat} {v : Value} {l : List Rec} {p : Rec → Bool} {w W w' : World} {e : Ending} (f : Fresh w W) (h : TakeP g v l p W e w') : TakeP g v l p w e w' := by
  obtain ⟨va, v', h1, h2, h3, h4, h5⟩ := h
  exact ⟨va, v', h1, h2, h3, Turn.after f h4, fun k hk => Nat.le_trans f.size (h5 k hk)⟩
def flushP (b : Int) (r : Rec) : Bool := !r.2 && decide (r.1.t < b)
def dropP (b : Int) (r : Rec) : Bool := r.2 && decide (r.1.t < b)
def backP (b : Int) (r : Rec) : Bool := decide (b ≤ r.1.t)
theorem flush1 (x1 : Nat) (b : Int) (r : Rec) (w : World) (h : Blk w x1 3 #[.int .i64 b]) :
    Calls Try.prog 37 #[Rec.val r, .pointer (some ⟨x1, 0, none⟩)] w fun e w' => e = .returned (.bool (flushP b r)) ∧ Fresh w w' := by
  unfold Rec.val flushP
  have cx := h.cell
  have lx := h.lt
  clear h
  obtain ⟨y, s⟩ := r
  cases s
  · go_enter Try.func37, Try.ntmps37
    go_wp2_with fail
    go_ret
    exact ⟨rfl, (Keep.refl _ w).alloc _⟩
  · go_enter Try.func37, Try.ntmps37
    go_wp2_with fail
    go_ret
    exact ⟨rfl, (Keep.refl _ w).alloc _⟩
theorem drop1 (x1 : Nat) (b : Int) (r : Rec) (w : World) (h : Blk w x1 3 #[.int .i64 b]) :
    Calls Try.prog 47 #[Rec.val r, .pointer (some ⟨x1, 0, none⟩)] w fun e w' => e = .returned (.bool (dropP b r)) ∧ Fresh w w' := by
  unfold Rec.val dropP
  have cx := h.cell
  have lx := h.lt
  clear h
  obtain ⟨y, s⟩ := r
  cases s
  · go_enter Try.func47, Try.ntmps47
    go_wp2_with fail
    go_ret
    exact ⟨rfl, (Keep.refl _ w).alloc _⟩
  · go_enter Try.func47, Try.ntmps47
    go_wp2_with fail
    go_ret
    exact ⟨rfl, (Keep.refl _ w).alloc _⟩
theorem back1 (x1 : Nat) (b : Int) (r : Rec) (w : World) (h : Blk w x1 3 #[.int .i64 b]) :
    Calls Try.prog 38 #[Rec.val r, .pointer (some ⟨x1, 0, none⟩)] w fun e w' => e = .returned (.bool (backP b r)) ∧ Fresh w w' := by
  unfold Rec.val backP
  have cx := h.cell
  have lx := h.lt
  clear h
  go_enter Try.func38, Try.ntmps38
  go_wp2_with fail
  go_ret
  exact ⟨rfl, (Keep.refl _ w).alloc _⟩
theorem flush_any (g : Nat) (v : Value) (l : List Rec) (b : Int) (w : World) (h : OQ w g v l) (hl : l.length ≤ 100000) :
    Calls Try.prog 18 #[.pointer (some ⟨g, 0, none⟩), .int .i64 b] w (TakeP g v l (flushP b) w) := by
  have F0 : Fresh w (w.alloc (.cells #[.int .i64 b] 3)) := (Keep.refl _ w).alloc _
  have B0 := Blk.new w 3 #[.int .i64 b]
  have H1 := Lib.hid (take_anyFlush g v l (flushP b) w.heap.size _ (h.fresh F0) hl (fun W r f => flush1 _ b r W (f.blk_ B0)))
  have lg := h.blk.lt
  clear h B0
  go_enter Try.func18, Try.ntmps18
  go_wp2_with ((with_reducible refine H1.out.mono ?_); rintro e w1 ⟨va, v', rfl, h2, h3⟩)
  go_ret
  exact TakeP.after F0 ⟨_, _, rfl, h2, h3⟩
theorem dropq_any (g : Nat) (v : Value) (l : List Rec) (b : Int) (w : World) (h : OQ w g v l) (hl : l.length ≤ 100000) :
    Calls Try.prog 23 #[.pointer (some ⟨g, 0, none⟩), .int .i64 b] w fun e w' => e = .returned (.int .i64 (antis (dropP b) l).length) ∧ ∃ v', OQ w' g v' (stay (dropP b) l) ∧ Turn w w' g v v' := by
  have F0 : Fresh w (w.alloc (.cells #[.int .i64 b] 3)) := (Keep.refl _ w).alloc _
  have B0 := Blk.new w 3 #[.int .i64 b]
  have H1 := Lib.hid (take_anyDrop g v l (dropP b) w.heap.size _ (h.fresh F0) hl (fun W r f => drop1 _ b r W (f.blk_ B0)))
  have lg := h.blk.lt
  clear h B0
  go_enter Try.func23, Try.ntmps23
  go_wp2_with ((with_reducible refine H1.out.mono ?_); rintro e w1 ⟨va, v', rfl, h2, h3, h4, h5⟩; obtain ⟨A1, c1, rfl, _, _⟩ := h2.shape)
  go_ret
  exact ⟨rfl, v', h3, Turn.after F0 h4⟩
theorem back_any (g : Nat) (v : Value) (l : List Rec) (b : Int) (w : World) (h : OQ w g v l) (hl : l.length ≤ 100000) :
    Calls Try.prog 19 #[.pointer (some ⟨g, 0, none⟩), .int .i64 b, .bool false] w (TakeP g v l (backP b) w) := by
  have F0 : Fresh w (w.alloc (.cells #[.int .i64 b] 3)) := (Keep.refl _ w).alloc _
  have B0 := Blk.new w 3 #[.int .i64 b]
  have H1 := Lib.hid (take_anyBack g v l (backP b) w.heap.size _ (h.fresh F0) hl (fun W r f => back1 _ b r W (f.blk_ B0)))
  have lg := h.blk.lt
  clear h B0
  go_enter Try.func19, Try.ntmps19
  go_wp2_with ((with_reducible refine H1.out.mono ?_); rintro e w1 ⟨va, v', rfl, h2, h3⟩)
  go_ret
  exact TakeP.after F0 ⟨_, _, rfl, h2, h3⟩
/-! ### a record's flag turned; Back, lazily -/
theorem rcells_set : ∀ (l : List Rec) (i : Nat) (y : Rec) (b : Bool), l[i]? = some y → (rcells l).set (i * 8 + 7) (.bool b) = rcells (l.set i (y.1, b)) := by
  intro l
  induction l with
  | nil => intro i y b h; simp at h
  | cons a r ih =>
    intro i y b h
    cases i with
    | zero =>
      simp at h
      subst h
      rfl
    | succ i =>
      rw [rcells_cons, show (i + 1) * 8 + 7 = (i * 8 + 7) + 8 by omega]
      simp only [List.set_cons_succ]
      rw [ih i y b (by simpa using h), rcells_cons]
theorem RSrt.iff {l : List Rec} : RSrt l ↔ (l.map (·.1)).Pairwise (fun a b => sLt a b = true) := by
  unfold RSrt
  rw [List.pairwise_map]
theorem map_set_fst (l : List Rec) (i : Nat) (y : Rec) (b : Bool) (h : l[i]? = some y) : (l.set i (y.1, b)).map (·.1) = l.map (·.1) := by
  rw [List.map_set]
  apply List.ext_getElem?
  intro j
  rw [List.getElem?_set]
  split
  · rename_i hj
    subst hj
    rw [List.getElem?_map, h]
    simp
    exact (List.getElem?_eq_some_iff.1 h).1
  · rfl
theorem RSrt.set {l : List Rec} (h : RSrt l) {i : Nat} {y : Rec} (hy : l[i]? = some y) (b : Bool) : RSrt (l.set i (y.1, b)) := by
  rw [RSrt.iff, map_set_fst l i y b hy, ← RSrt.iff]
  exact h
theorem OQ.mark {w : World} {g g3 off cap n : Nat} {l : List Rec} (h : OQ w g (.slice (some ⟨g3, off, none⟩) n cap) l) {i : Nat} {y : Rec} (hy : l[i]? = some y) (b : Bool) :
    OQ (w.setCell ⟨g3, off + i * 8 + 7, none⟩ (.bool b)) g (.slice (some ⟨g3, off, none⟩) n cap) (l.set i (y.1, b)) ∧ Turn w (w.setCell ⟨g3, off + i * 8 + 7, none⟩ (.bool b)) g (.slice (some ⟨g3, off, none⟩) n cap) (.slice (some ⟨g3, off, none⟩) n cap) := by
  have hne := h.n
  have hn : n = l.length := by
    obtain ⟨A, c, hv, _, _⟩ := h.own.shape
    injection hv
  subst hn
  have hi := (List.getElem?_eq_some_iff.1 hy).1
  have K : Keep (foot g (.slice (some ⟨g3, off, none⟩) l.length cap)) w (w.setCell ⟨g3, off + i * 8 + 7, none⟩ (.bool b)) := Keep.setCell (Keep.refl _ w) (p := ⟨g3, off + i * 8 + 7, none⟩) (fun _ => .inr rfl) _
  refine ⟨⟨h.blk.far (p := ⟨g3, off + i * 8 + 7, none⟩) (fun e => hne (by simp only at e; rw [e]; rfl)) _, ?_, h.srt.set hy b⟩, ⟨K, fun k hk => .inl hk⟩⟩
  have := h.own.set_ (i * 8 + 7) (.bool b) (by rw [rcells_length]; omega)
  rw [List.length_set, ← rcells_set l i y b hy, Nat.add_assoc]
  exact this
def doubt (b : Int) (l : List Rec) : List Rec := l.map (fun r => if b ≤ r.1.t then (r.1, false) else r)
theorem doubt_snoc (b : Int) (l : List Rec) (i : Nat) (y : Rec) (hy : l[i]? = some y) (h : b ≤ y.1.t) : (doubt b (l.take i) ++ l.drop i).set i (y.1, false) = doubt b (l.take (i + 1)) ++ l.drop (i + 1) := by
  have hi := (List.getElem?_eq_some_iff.1 hy).1
  have hd : l.drop i = y :: l.drop (i + 1) := by rw [← (List.getElem?_eq_some_iff.1 hy).2]; exact List.drop_eq_getElem_cons hi
  have hl : (doubt b (l.take i)).length = i := by unfold doubt; rw [List.length_map, List.length_take]; omega
  rw [hd, List.set_append_right _ _ (by omega), hl, Nat.sub_self, List.set_cons_zero, List.take_add_one, hy]
  unfold doubt
  simp [h]
theorem doubt_same (b : Int) (l : List Rec) (i : Nat) (y : Rec) (hy : l[i]? = some y) (h : ¬ b ≤ y.1.t) : doubt b (l.take i) ++ l.drop i = doubt b (l.take (i + 1)) ++ l.drop (i + 1) := by
  have hi := (List.getElem?_eq_some_iff.1 hy).1
  have hd : l.drop i = y :: l.drop (i + 1) := by rw [← (List.getElem?_eq_some_iff.1 hy).2]; exact List.drop_eq_getElem_cons hi
  rw [hd, List.take_add_one, hy]
  unfold doubt
  simp [h]
theorem doubt_at (b : Int) (l : List Rec) (i : Nat) (y : Rec) (hy : l[i]? = some y) : (doubt b (l.take i) ++ l.drop i)[i]? = some y := by
  have hi := (List.getElem?_eq_some_iff.1 hy).1
  have hl : (doubt b (l.take i)).length = i := by unfold doubt; rw [List.length_map, List.length_take]; omega
  rw [List.getElem?_append_right (by omega), hl, Nat.sub_self, List.getElem?_drop, Nat.add_zero, hy]
theorem doubt_len (b : Int) (l : List Rec) (i : Nat) (hi : i ≤ l.length) : (doubt b (l.take i) ++ l.drop i).length = l.length := by
  unfold doubt
  simp
  omega
set_option maxHeartbeats 4000000 in
theorem backL_any (g : Nat) (v : Value) (l : List Rec) (b : Int) (w : World) (h : OQ w g v l) (hl : l.length ≤ 100000) :
    Calls Try.prog 19 #[.pointer (some ⟨g, 0, none⟩), .int .i64 b, .bool true] w fun e w' => e = .returned (.slice none 0 0) ∧ OQ w' g v (doubt b l) ∧ Turn w w' g v v := by
  have F0 : Fresh w (w.alloc (.cells #[.int .i64 b] 3)) := (Keep.refl _ w).alloc _
  have T0 : Turn w (w.alloc (.cells #[.int .i64 b] 3)) g v v := Turn.fresh F0
  have Q0 := h.fresh F0
  have B0 := Blk.new w 3 #[.int .i64 b]
  obtain ⟨A, cap, rfl, hca, hcm⟩ := h.own.shape
  have hcm : cap ≤ 9223372036854775807 := by unfold maxLen at hcm; omega
  have HNB := Lib.hid (show ∀ k, foot g (.slice A l.length cap) k → k < w.heap.size from fun k hk => h.lt k hk)
  have cq := Q0.blk.cell
  have lq := h.blk.lt
  have HT0 := Lib.hid T0
  have HQ0 := Lib.hid Q0
  have HB0 := Lib.hid B0
  clear h F0 T0 Q0 B0
  go_enter Try.func19, Try.ntmps19
  go_wp2_with fail
  go_loopg [21] l.length (fun gk u21 wr => ∃ i : Nat, i ≤ l.length ∧ gk = l.length - i ∧ u21 = .int .i64 i ∧ OQ wr g (.slice A l.length cap) (doubt b (l.take i) ++ l.drop i) ∧ Turn w wr g (.slice A l.length cap) (.slice A l.length cap) ∧ Blk wr w.heap.size 3 #[.int .i64 b])
  case atStart => exact ⟨0, by omega, rfl, rfl, by simpa [doubt] using HQ0.out, HT0.out, HB0.out⟩
  case round =>
    obtain ⟨i, hi, rfl, rfl, hQ, hT, hB⟩ := hrel
    by_cases hlt : i < l.length
    · obtain ⟨⟨y, s⟩, hy⟩ : ∃ y, l[i]? = some y := ⟨_, List.getElem?_eq_getElem hlt⟩
      obtain ⟨g3, off3, cap3, hv3, hg3, _, _, hcc⟩ := hQ.own.form (by rw [doubt_len b l i hi]; omega)
      injection hv3 with e1 e2 e3
      subst e1 e3
      have hdy := doubt_at b l i _ hy
      obtain ⟨y0, y1, y2, y3, y4, y5, y6, y7⟩ := rcells_at _ i _ hdy
      have y0 := hcc _ _ y0
      have y1 := hcc _ _ y1
      have y2 := hcc _ _ y2
      have y3 := hcc _ _ y3
      have y4 := hcc _ _ y4
      have y5 := hcc _ _ y5
      have y6 := hcc _ _ y6
      have y7 := hcc _ _ y7
      rw [← Nat.add_assoc] at y1 y2 y3 y4 y5 y6 y7
      simp only at y0 y1 y2 y3 y4 y5 y6 y7
      have cb := hB.cell
      have cq := hQ.blk.cell
      have lq := hQ.blk.lt
      have lb := hB.lt
      have hQo := hQ.own
      rw [doubt_len b l i hi] at hQo
      have fr := (OwnS.at_ hQo).2.1
      clear hQo
      have HX := Lib.hid (hQ.mark (i := i) hdy false)
      have HY := Lib.hid hy
      have HQ := Lib.hid hQ
      have HT := Lib.hid hT
      have HB := Lib.hid hB
      clear hcc hy e2 hdy hQ hT hB
      by_cases ht : b ≤ y.t
      · have t1 : decide (b ≤ y.t) = true := decide_eq_true ht
        have HS := Lib.hid (doubt_snoc b l i _ HY.out ht)
        clear ht
        go_wp2_with fail
        go_roundg (l.length - (i + 1))
        case measure => omega
        case rel => exact ⟨i + 1, by omega, rfl, by go_num, by rw [← HS.out]; exact HX.out.1.fresh ((Keep.refl _ _).alloc _), Turn.two HT.out (Turn.two HX.out.2 (Turn.fresh ((Keep.refl _ _).alloc _))), (HB.out.keep HX.out.2.keep (fun hf => by have := HNB.out _ hf; omega)).alloc _⟩
      · have t1 : decide (b ≤ y.t) = false := decide_eq_false ht
        have HS := Lib.hid (doubt_same b l i _ HY.out ht)
        clear ht
        go_wp2_with fail
        go_roundg (l.length - (i + 1))
        case measure => omega
        case rel => exact ⟨i + 1, by omega, rfl, by go_num, by rw [← HS.out]; exact HQ.out.fresh ((Keep.refl _ _).alloc _), Turn.two HT.out (Turn.fresh ((Keep.refl _ _).alloc _)), HB.out.alloc _⟩
    · obtain rfl : i = l.length := by omega
      have HQ := Lib.hid hQ
      have HT := Lib.hid hT
      clear hQ hT hB
      go_wp2_with fail
      go_ret
      exact ⟨rfl, by simpa using HQ.out, HT.out⟩
end Go.Proofs.Ytbplomnoapndnaa
