/-
  The document's answer: Away, Doubt, Return.
-/
import Derived.Test.YtbplomnoapndnaaRefT
import Derived.Laws.MakeOwn
namespace Go.Proofs.Ytbplomnoapndnaa
open Go.RowKit
attribute [local go_sem ↓] Go.wp_at_zero Go.wp_at_succ
attribute [local go_sem ↓] run_eql_ev run_neq_ev

theorem made_bools (R : List Rec) : (madeCells #[.bool false] R.length).toList = boolsP (fun _ => false) R := by
  apply List.ext_getElem?
  intro i
  simp only [boolsP, madeCells, Array.toList_map, List.getElem?_map]
  rw [show (Array.range R.length).toList = List.range R.length by simp]
  by_cases hi : i < R.length
  · rw [List.getElem?_range hi, List.getElem?_eq_getElem hi]
    simp [Nat.mod_one]
  · rw [List.getElem?_eq_none (by simp; omega), List.getElem?_eq_none (by omega)]
    rfl
/-- what stays, told up to i -/
def told (p : Rec → Bool) (R : List Rec) (i : Nat) : List Value := boolsP p (R.take i) ++ boolsP (fun _ => false) (R.drop i)
theorem told_zero (p : Rec → Bool) (R : List Rec) : told p R 0 = boolsP (fun _ => false) R := by simp [told, boolsP]
theorem told_all (p : Rec → Bool) (R : List Rec) : told p R R.length = boolsP p R := by simp [told, boolsP]
theorem told_len (p : Rec → Bool) (R : List Rec) (i : Nat) : (told p R i).length = R.length := by simp [told, boolsP]; omega
theorem told_set (p : Rec → Bool) (R : List Rec) (i : Nat) (y : Rec) (h : R[i]? = some y) : (told p R i).set i (.bool (p y)) = told p R (i + 1) := by
  have hi := (List.getElem?_eq_some_iff.1 h).1
  have hy := (List.getElem?_eq_some_iff.1 h).2
  unfold told
  rw [List.take_add_one, h, Option.toList_some, List.drop_eq_getElem_cons hi, hy]
  have hl : (boolsP p (R.take i)).length = i := by simp [boolsP]; omega
  rw [List.set_append_right _ _ (by omega), hl, Nat.sub_self]
  simp [boolsP]
structure StI (w : World) (p : Rec → Bool) (R : List Rec) (i gs : Nat) (W : World) : Prop where
  f : Fresh w W
  o : OwnS W 4 1 (.slice (some ⟨gs, 0, none⟩) R.length R.length) R.length (told p R i)
  n : w.heap.size ≤ gs
theorem StI.new {w W : World} (p : Rec → Bool) {R : List Rec} (f : Fresh w W) (h : R.length ≤ 100000) : StI w p R 0 W.heap.size (W.alloc (.cells (madeCells #[.bool false] R.length) 4)) := by
  refine ⟨f.alloc _, ?_, f.size⟩
  have := OwnS.new_ (size := 1) (n := R.length) (Blk.new W 4 (madeCells #[.bool false] R.length)) (by rw [size_madeCells]; omega) (one_le_maxLen (by omega))
  rw [made_bools] at this
  rw [told_zero]
  exact this
theorem StI.set {w W : World} {p : Rec → Bool} {R : List Rec} {i gs : Nat} (h : StI w p R i gs W) {y : Rec} (hy : R[i]? = some y) : StI w p R (i + 1) gs (W.setCell ⟨gs, i, none⟩ (.bool (p y))) := by
  refine ⟨h.f.setCell (p := ⟨gs, i, none⟩) (fun hlt => by have := h.n; simp at hlt; omega) _, ?_, h.n⟩
  have := h.o.set_ i (.bool (p y)) (by rw [told_len]; exact (List.getElem?_eq_some_iff.1 hy).1)
  rw [told_set p R i y hy, Nat.zero_add] at this
  exact this
theorem StI.fresh {w W W' : World} {p : Rec → Bool} {R : List Rec} {i gs : Nat} (h : StI w p R i gs W) (f : Fresh W W') : StI w p R i gs W' := ⟨h.f.step f (fun _ _ h => h), h.o.fresh f, h.n⟩
theorem make_bools (n : Nat) (hn : n ≤ 100000) : ∀ w : World, (Instr.makeSlice 57 (.int .i64 (n : Int)) (.int .i64 (n : Int))).run Try.prog w = .ok (.slice (some ⟨w.heap.size, 0, none⟩) n n) (w.alloc (.cells (madeCells #[.bool false] n) 4)) := fun w => by
  obtain ⟨i0, hi, hz0, hz1, hz2⟩ := info_parts info_bool
  have := run_make (P := Try.prog) w 57 4 i0 _ Try.underlying57 hi hz0 .i64 .i64 n n (by omega) (by omega) (by rw [hz2]; omega) (by omega)
  rw [hz1] at this
  simp only [Int.toNat_natCast, Nat.mul_one] at this
  exact this
def awayP (k a : Int) (r : Rec) : Bool := if k = 0 then decide (r.1.t < a) else decide (a ≤ r.1.t) || (r.2 != decide (k = 2))
def RAwayP (g : Nat) (v1 v2 : Value) (p : Rec → Bool) (R : List Rec) (w : World) (e : Ending) (w' : World) : Prop :=
  ∃ v s v1' v2', e = .returned v ∧ SrtS s ∧ s.Perm (evs (goneR p R)) ∧ OwnS w' 46 8 v s.length (rcells (s.map (fun e => (e, true)))) ∧ RQ w' g v1' v2' (keepR p R) ∧ RTurn w w' g v1 v2 v1' v2' ∧ ∀ k, v.ownBlock = some k → w.heap.size ≤ k
set_option maxHeartbeats 4000000 in
set_option maxRecDepth 100000 in
theorem raway_any (g : Nat) (v1 v2 : Value) (k a : Int) (R : List Rec) (w : World) (h : RQ w g v1 v2 R) (hl : R.length ≤ 100000) :
    Calls Try.prog 50 #[.pointer (some ⟨g, 0, none⟩), .int .i64 k, .int .i64 a] w (RAwayP g v1 v2 (awayP k a) R w) := by
  have H := Lib.hid h
  obtain ⟨A1, c1, rfl, hc1, hm1⟩ := h.o1.shape
  obtain ⟨A2, c2, rfl, hc2, hm2⟩ := h.o2.shape
  have hm1 : c1 ≤ 9223372036854775807 := by unfold maxLen at hm1; omega
  have hmk := make_bools R.length hl
  have cq := h.blk.cell
  have lq := h.blk.lt
  clear h
  go_enter Try.func50, Try.ntmps50
  go_wp2_with fail
  go_loopg [8] R.length (fun gk u8 wr => ∃ (i : Nat), i ≤ R.length ∧ gk = R.length - i ∧ u8 = .int .i64 i ∧ StI w (awayP k a) R i w.heap.size wr)
  case atStart => exact ⟨0, by omega, rfl, rfl, StI.new _ (Keep.refl _ _) hl⟩
  case round =>
    obtain ⟨i, hi', rfl, rfl, hI⟩ := hrel
    have HI := Lib.hid hI
    have cQ := (H.out.fresh hI.f).blk.cell
    have lQ := (H.out.fresh hI.f).blk.lt
    clear hI
    by_cases hlt : i < R.length
    · obtain ⟨y, hy⟩ : ∃ y, R[i]? = some y := ⟨_, List.getElem?_eq_getElem hlt⟩
      obtain ⟨g3, off3, _, hv3, hg3, _, _, hcc⟩ := (H.out.o1.fresh HI.out.f).form (by omega)
      injection hv3 with e1 e2 e3
      subst e1 e3
      obtain ⟨_, _, y2, _⟩ := cells_at (evs R) i y.1 (evs_at' hy)
      have y2 := hcc _ _ y2
      rw [← Nat.add_assoc] at y2
      obtain ⟨g4, off4, _, hv4, hg4, _, _, hcb⟩ := (H.out.o2.fresh HI.out.f).form (by omega)
      injection hv4 with f1 f2 f3
      subst f1 f3
      have z0 := hcb _ _ (bools_at hy)
      obtain ⟨lS, fS, _, _, _⟩ := HI.out.o.at_
      obtain ⟨sv, hsv⟩ : ∃ v, (told (awayP k a) R i)[i]? = some v := ⟨_, List.getElem?_eq_getElem (by rw [told_len]; exact hlt)⟩
      have cS := HI.out.o.at_.2.2.2.2 i sv hsv
      rw [Nat.zero_add] at cS
      clear hcc hcb e2 f2 hsv
      by_cases hk0 : k = 0
      · have tk : (k == 0) = true := by simpa using hk0
        obtain ⟨pb, hpb⟩ : ∃ pb, decide (y.1.t < a) = pb := ⟨_, rfl⟩
        have hp : awayP k a y = pb := by unfold awayP; rw [if_pos hk0]; exact hpb
        clear hk0
        have NX := Lib.hid (HI.out.set hy)
        rw [hp] at NX
        clear hy
        go_wp2_with fail
        go_roundg (R.length - (i + 1))
        case measure => omega
        case rel => exact ⟨i + 1, by omega, rfl, by go_num, NX.out⟩
      · have tk : (k == 0) = false := by simpa using hk0
        by_cases ha : a ≤ y.1.t
        · have ta : decide (a ≤ y.1.t) = true := decide_eq_true ha
          have hp : awayP k a y = true := by unfold awayP; rw [if_neg hk0, ta]; rfl
          clear hk0 ha
          have NX := Lib.hid (HI.out.set hy)
          rw [hp] at NX
          clear hy
          go_wp2_with fail
          go_roundg (R.length - (i + 1))
          case measure => omega
          case rel => exact ⟨i + 1, by omega, rfl, by go_num, NX.out⟩
        · have ta : decide (a ≤ y.1.t) = false := decide_eq_false ha
          by_cases hk2 : k = 2
          · have tk2 : (k == 2) = true := by simpa using hk2
            cases hb : y.2
            · have hp : awayP k a y = true := by unfold awayP; rw [if_neg hk0, ta, hb, decide_eq_true hk2]; rfl
              rw [hb] at z0
              clear hk0 ha hk2 hb
              have NX := Lib.hid (HI.out.set hy)
              rw [hp] at NX
              clear hy
              go_wp2_with fail
              go_roundg (R.length - (i + 1))
              case measure => omega
              case rel => exact ⟨i + 1, by omega, rfl, by go_num, NX.out⟩
            · have hp : awayP k a y = false := by unfold awayP; rw [if_neg hk0, ta, hb, decide_eq_true hk2]; rfl
              rw [hb] at z0
              clear hk0 ha hk2 hb
              have NX := Lib.hid (HI.out.set hy)
              rw [hp] at NX
              clear hy
              go_wp2_with fail
              go_roundg (R.length - (i + 1))
              case measure => omega
              case rel => exact ⟨i + 1, by omega, rfl, by go_num, NX.out⟩
          · have tk2 : (k == 2) = false := by simpa using hk2
            cases hb : y.2
            · have hp : awayP k a y = false := by unfold awayP; rw [if_neg hk0, ta, hb, decide_eq_false hk2]; rfl
              rw [hb] at z0
              clear hk0 ha hk2 hb
              have NX := Lib.hid (HI.out.set hy)
              rw [hp] at NX
              clear hy
              go_wp2_with fail
              go_roundg (R.length - (i + 1))
              case measure => omega
              case rel => exact ⟨i + 1, by omega, rfl, by go_num, NX.out⟩
            · have hp : awayP k a y = true := by unfold awayP; rw [if_neg hk0, ta, hb, decide_eq_false hk2]; rfl
              rw [hb] at z0
              clear hk0 ha hk2 hb
              have NX := Lib.hid (HI.out.set hy)
              rw [hp] at NX
              clear hy
              go_wp2_with fail
              go_roundg (R.length - (i + 1))
              case measure => omega
              case rel => exact ⟨i + 1, by omega, rfl, by go_num, NX.out⟩
    · obtain rfl : i = R.length := by omega
      have o := HI.out.o
      rw [told_all] at o
      have HT := Lib.hid (rtake_any g _ _ _ (awayP k a) R wr (H.out.fresh HI.out.f) o hl)
      clear o
      go_wp2_with fail
      refine HT.out.mono ?_
      rintro e w2 ⟨vg, v1', v2', rfl, og, rq, rt, ng, _⟩
      rw [← evs_len (goneR (awayP k a) R)] at og
      have hgl : (goneR (awayP k a) R).length ≤ R.length := List.length_filter_le _ _
      have HA := Lib.hid (rantis_any vg _ w2 og.evs (by rw [evs_len]; omega))
      obtain ⟨A5, c5, rfl, _, _⟩ := og.shape
      have RR := Lib.hid rq
      have TT := Lib.hid (RTurn.after HI.out.f rt)
      clear og rq rt HT
      go_wp2_with fail
      refine HA.out.mono ?_
      rintro e w3 ⟨v5, s5, rfl, hs5, hp5, o5, f5, n5⟩
      obtain ⟨A6, c6, rfl, _, _⟩ := o5.shape
      have FIN : Hid (RAwayP g (.slice A1 R.length c1) (.slice A2 R.length c2) (awayP k a) R w (.returned (.slice A6 s5.length c6)) w3) := Lib.hid ⟨_, s5, _, _, rfl, hs5, hp5, o5, RR.out.fresh f5, TT.out.two (RTurn.fresh f5), fun q hq => by have := n5 q hq; have := TT.out.keep.size; omega⟩
      clear hs5 hp5 o5 f5 n5 HA
      go_wp2_with fail
      go_ret
      exact FIN.out
/-! ### Return -/
def isNot (x : Ev) (r : Rec) : Bool := !evB r.1 x
def RRetP (g : Nat) (v1 v2 : Value) (x : Ev) (R : List Rec) (w : World) (e : Ending) (w' : World) : Prop :=
  ∃ v1' v2', e = .returned (.bool (decide (0 < (goneR (isNot x) R).length))) ∧ RQ w' g v1' v2' (keepR (isNot x) R) ∧ RTurn w w' g v1 v2 v1' v2'
set_option maxHeartbeats 4000000 in
set_option maxRecDepth 100000 in
theorem rreturn_any (g : Nat) (v1 v2 : Value) (x : Ev) (R : List Rec) (w : World) (h : RQ w g v1 v2 R) (hl : R.length ≤ 100000) :
    Calls Try.prog 52 #[.pointer (some ⟨g, 0, none⟩), x.val] w (RRetP g v1 v2 x R w) := by
  unfold Ev.val
  have H := Lib.hid h
  obtain ⟨A1, c1, rfl, hc1, hm1⟩ := h.o1.shape
  have hm1 : c1 ≤ 9223372036854775807 := by unfold maxLen at hm1; omega
  have hmk := make_bools R.length hl
  have F0 := Lib.hid ((Keep.refl (fun _ => False) w).alloc (.cells #[.int .i64 x.a, .int .i64 x.s, .int .i64 x.t, .int .i64 x.n, .int .i64 x.d, .int .i64 x.k, .int .i64 x.x] 44))
  have BX := Lib.hid (Blk.new w 44 #[.int .i64 x.a, .int .i64 x.s, .int .i64 x.t, .int .i64 x.n, .int .i64 x.d, .int .i64 x.k, .int .i64 x.x])
  have cq := (h.fresh F0.out).blk.cell
  have lq := (h.fresh F0.out).blk.lt
  clear h
  go_enter Try.func52, Try.ntmps52
  go_wp2_with fail
  go_loopg [6] R.length (fun gk u6 wr => ∃ (i : Nat), i ≤ R.length ∧ gk = R.length - i ∧ u6 = .int .i64 i ∧ StI w (isNot x) R i (w.heap.size + 1) wr ∧ Blk wr w.heap.size 44 #[.int .i64 x.a, .int .i64 x.s, .int .i64 x.t, .int .i64 x.n, .int .i64 x.d, .int .i64 x.k, .int .i64 x.x])
  case atStart => exact ⟨0, by omega, rfl, rfl, by have := StI.new (isNot x) F0.out hl; rw [World.size_alloc] at this; exact this, BX.out.alloc _⟩
  case round =>
    obtain ⟨i, hi', rfl, rfl, hI, hB⟩ := hrel
    have HI := Lib.hid hI
    have HB := Lib.hid hB
    have cQ := (H.out.fresh hI.f).blk.cell
    have lQ := (H.out.fresh hI.f).blk.lt
    clear hI hB
    by_cases hlt : i < R.length
    · obtain ⟨y, hy⟩ : ∃ y, R[i]? = some y := ⟨_, List.getElem?_eq_getElem hlt⟩
      obtain ⟨g3, off3, _, hv3, hg3, _, _, hcc⟩ := (H.out.o1.fresh HI.out.f).form (by omega)
      injection hv3 with e1 e2 e3
      subst e1 e3
      obtain ⟨y0, y1, y2, y3, y4, y5, y6⟩ := cells_at (evs R) i y.1 (evs_at' hy)
      have y0 := hcc _ _ y0
      have y1 := hcc _ _ y1
      have y2 := hcc _ _ y2
      have y3 := hcc _ _ y3
      have y4 := hcc _ _ y4
      have y5 := hcc _ _ y5
      have y6 := hcc _ _ y6
      rw [← Nat.add_assoc] at y1 y2 y3 y4 y5 y6
      have cX := HB.out.cell
      have lX := HB.out.lt
      obtain ⟨lS, fS, _, _, _⟩ := HI.out.o.at_
      obtain ⟨sv, hsv⟩ : ∃ v, (told (isNot x) R i)[i]? = some v := ⟨_, List.getElem?_eq_getElem (by rw [told_len]; exact hlt)⟩
      have cS := HI.out.o.at_.2.2.2.2 i sv hsv
      rw [Nat.zero_add] at cS
      have NX := Lib.hid (HI.out.set hy)
      have NB : Hid (Blk (wr.setCell ⟨w.heap.size + 1, i, none⟩ (.bool (isNot x y))) w.heap.size 44 #[.int .i64 x.a, .int .i64 x.s, .int .i64 x.t, .int .i64 x.n, .int .i64 x.d, .int .i64 x.k, .int .i64 x.x]) := Lib.hid (HB.out.keep ((Keep.refl (fun q => q = w.heap.size + 1) wr).setCell (p := ⟨w.heap.size + 1, i, none⟩) (fun _ => rfl) _) (by omega))
      obtain ⟨pb, hpb⟩ : ∃ pb, isNot x y = pb := ⟨_, rfl⟩
      rw [hpb] at NX NB
      have hpb' := hpb
      unfold isNot evB at hpb'
      clear hcc e2 hsv hy hpb
      go_wp2_with fail
      go_region
      go_wp2_with fail
      go_roundg (R.length - (i + 1))
      case measure => omega
      case rel => exact ⟨i + 1, by omega, rfl, by go_num, NX.out.fresh (Keep.drew (Keep.refl _ _)), NB.out.drew⟩
    · obtain rfl : i = R.length := by omega
      have o := HI.out.o
      rw [told_all] at o
      have HT := Lib.hid (rtake_any g _ _ _ (isNot x) R wr (H.out.fresh HI.out.f) o hl)
      clear o
      go_wp2_with fail
      refine HT.out.mono ?_
      rintro e w2 ⟨vg, v1', v2', rfl, og, rq, rt, ng, _⟩
      obtain ⟨A5, c5, rfl, _, _⟩ := og.shape
      have RR := Lib.hid rq
      have TT := Lib.hid (RTurn.after HI.out.f rt)
      obtain ⟨N, hN⟩ : ∃ N, (goneR (isNot x) R).length = N := ⟨_, rfl⟩
      have FIN : Hid (RRetP g (.slice A1 R.length c1) v2 x R w (.returned (.bool (decide (0 < N)))) w2) := Lib.hid ⟨_, _, by rw [hN], RR.out, TT.out⟩
      rw [hN]
      clear og rq rt HT hN
      have hdd : decide ((0 : Int) < (N : Int)) = decide (0 < N) := by by_cases h : 0 < N <;> simp [h]
      go_wp2_with fail
      go_ret
      exact FIN.out
/-! ### Doubt -/
theorem RQ.mark {w : World} {g g4 off4 c : Nat} {v1 : Value} {R : List Rec} (h : RQ w g v1 (.slice (some ⟨g4, off4, none⟩) R.length c) R) {i : Nat} {y : Rec} (hy : R[i]? = some y) (b : Bool) :
    RQ (w.setCell ⟨g4, off4 + i, none⟩ (.bool b)) g v1 (.slice (some ⟨g4, off4, none⟩) R.length c) (R.set i (y.1, b)) := by
  have hi := (List.getElem?_eq_some_iff.1 hy).1
  have e1 : evs (R.set i (y.1, b)) = evs R := by
    unfold evs
    rw [List.map_set]
    apply List.ext_getElem?
    intro j
    rw [List.getElem?_set]
    split
    · rename_i h1
      subst h1
      rw [List.length_map, if_pos hi, List.getElem?_map, hy]
      rfl
    · rfl
  have e2 : bools (R.set i (y.1, b)) = (bools R).set i (.bool b) := by
    unfold bools
    rw [List.map_set]
  have k : Keep (fun q => q = g4) w (w.setCell ⟨g4, off4 + i, none⟩ (.bool b)) := (Keep.refl (fun q => q = g4) w).setCell (p := ⟨g4, off4 + i, none⟩) (fun _ => rfl) _
  refine ⟨h.blk.keep k (fun he => h.n2 (by rw [he]; rfl)), ?_, ?_⟩
  · rw [List.length_set, e1]
    exact h.o1.kept k (fun q hq he => h.n12 q hq (by rw [he]; rfl))
  · rw [List.length_set, e2]
    exact h.o2.set_ i (.bool b) (by simp [bools]; exact hi)
def RDoubtP (g : Nat) (v1 v2 : Value) (a : Int) (R : List Rec) (w : World) (e : Ending) (w' : World) : Prop :=
  e = .returned (.tuple #[]) ∧ RQ w' g v1 v2 (doubt a R) ∧ RTurn w w' g v1 v2 v1 v2
theorem doubt_step_ (a : Int) (R : List Rec) (i : Nat) (y : Rec) (h : R[i]? = some y) (ha : a ≤ y.1.t) : (doubt a (R.take i) ++ R.drop i).set i (y.1, false) = doubt a (R.take (i + 1)) ++ R.drop (i + 1) := by
  have hi := (List.getElem?_eq_some_iff.1 h).1
  have hy := (List.getElem?_eq_some_iff.1 h).2
  rw [List.take_add_one, h, Option.toList_some, List.drop_eq_getElem_cons hi, hy]
  have hl : (doubt a (R.take i)).length = i := by simp [doubt]; omega
  rw [List.set_append_right _ _ (by omega), hl, Nat.sub_self]
  simp [doubt, ha]
theorem doubt_skip_ (a : Int) (R : List Rec) (i : Nat) (y : Rec) (h : R[i]? = some y) (ha : ¬ a ≤ y.1.t) : doubt a (R.take i) ++ R.drop i = doubt a (R.take (i + 1)) ++ R.drop (i + 1) := by
  have hi := (List.getElem?_eq_some_iff.1 h).1
  have hy := (List.getElem?_eq_some_iff.1 h).2
  rw [List.take_add_one, h, Option.toList_some, List.drop_eq_getElem_cons hi, hy]
  simp [doubt, ha]
theorem doubt_at_ (a : Int) (R : List Rec) (i : Nat) (y : Rec) (h : R[i]? = some y) : (doubt a (R.take i) ++ R.drop i)[i]? = some y := by
  have hi := (List.getElem?_eq_some_iff.1 h).1
  have hl : (doubt a (R.take i)).length = i := by simp [doubt]; omega
  rw [List.getElem?_append_right (by omega), hl, Nat.sub_self, List.getElem?_drop, Nat.add_zero, h]
theorem doubt_len_ (a : Int) (R : List Rec) (i : Nat) (hi : i ≤ R.length) : (doubt a (R.take i) ++ R.drop i).length = R.length := by simp [doubt]; omega
set_option maxHeartbeats 4000000 in
set_option maxRecDepth 100000 in
theorem rdoubt_any (g : Nat) (v1 v2 : Value) (a : Int) (R : List Rec) (w : World) (h : RQ w g v1 v2 R) (hl : R.length ≤ 100000) :
    Calls Try.prog 51 #[.pointer (some ⟨g, 0, none⟩), .int .i64 a] w (RDoubtP g v1 v2 a R w) := by
  have H := Lib.hid h
  obtain ⟨A1, c1, rfl, hc1, hm1⟩ := h.o1.shape
  obtain ⟨A2, c2, rfl, hc2, hm2⟩ := h.o2.shape
  have hm1 : c1 ≤ 9223372036854775807 := by unfold maxLen at hm1; omega
  clear h
  go_enter Try.func51, Try.ntmps51
  go_wp2_with fail
  go_loopg [4] R.length (fun gk u4 wr => ∃ (i : Nat), i ≤ R.length ∧ gk = R.length - i ∧ u4 = .int .i64 i ∧ RQ wr g (.slice A1 R.length c1) (.slice A2 R.length c2) (doubt a (R.take i) ++ R.drop i) ∧ RTurn w wr g (.slice A1 R.length c1) (.slice A2 R.length c2) (.slice A1 R.length c1) (.slice A2 R.length c2))
  case atStart => exact ⟨0, by omega, rfl, rfl, by simpa [doubt] using H.out, RTurn.fresh (Keep.refl _ _)⟩
  case round =>
    obtain ⟨i, hi', rfl, rfl, hQ, hT⟩ := hrel
    have HQ := Lib.hid hQ
    have HT := Lib.hid hT
    have cQ := hQ.blk.cell
    have lQ := hQ.blk.lt
    clear hQ hT
    by_cases hlt : i < R.length
    · obtain ⟨y, hy⟩ : ∃ y, R[i]? = some y := ⟨_, List.getElem?_eq_getElem hlt⟩
      have hya := doubt_at_ a R i y hy
      have hln := doubt_len_ a R i hi'
      obtain ⟨g3, off3, _, hv3, hg3, _, _, hcc⟩ := HQ.out.o1.form (by omega)
      injection hv3 with e1 e2 e3
      subst e1 e3
      obtain ⟨_, _, y2, _⟩ := cells_at _ i y.1 (evs_at' hya)
      have y2 := hcc _ _ y2
      rw [← Nat.add_assoc] at y2
      by_cases ha : a ≤ y.1.t
      · have ta : decide (a ≤ y.1.t) = true := decide_eq_true ha
        obtain ⟨g4, off4, _, hv4, hg4, _, _, hcb⟩ := HQ.out.o2.form (by omega)
        injection hv4 with f1 f2 f3
        subst f1 f3
        have z0 := hcb _ _ (bools_at hya)
        have q2 := HQ.out
        rw [← hln] at q2
        have q3 := q2.mark hya false
        rw [hln] at q3
        rw [doubt_step_ a R i y hy ha] at q3
        have NQ := Lib.hid q3
        have fz := q2.o2.at_.2.1
        have NT : Hid (RTurn w (wr.setCell ⟨g4, off4 + i, none⟩ (.bool false)) g (.slice (some ⟨g3, off3, none⟩) R.length c1) (.slice (some ⟨g4, off4, none⟩) R.length c2) (.slice (some ⟨g3, off3, none⟩) R.length c1) (.slice (some ⟨g4, off4, none⟩) R.length c2)) := Lib.hid (HT.out.two ⟨(Keep.refl _ wr).setCell (p := ⟨g4, off4 + i, none⟩) (fun _ => .inr (.inr rfl)) _, fun _ h => .inl h⟩)
        clear hcc hcb e2 f2 hy hya q2 q3 ha hln
        go_wp2_with fail
        go_roundg (R.length - (i + 1))
        case measure => omega
        case rel => exact ⟨i + 1, by omega, rfl, by go_num, NQ.out, NT.out⟩
      · have ta : decide (a ≤ y.1.t) = false := decide_eq_false ha
        have NQ := Lib.hid (doubt_skip_ a R i y hy ha ▸ HQ.out)
        clear hcc e2 hy hya ha hln
        go_wp2_with fail
        go_roundg (R.length - (i + 1))
        case measure => omega
        case rel => exact ⟨i + 1, by omega, rfl, by go_num, NQ.out, HT.out⟩
    · obtain rfl : i = R.length := by omega
      have q := HQ.out
      rw [List.take_length, List.drop_length, List.append_nil] at q
      have QQ := Lib.hid q
      clear q
      go_wp2_with fail
      go_returns
      exact ⟨rfl, QQ.out, HT.out⟩
end Go.Proofs.Ytbplomnoapndnaa
