/-
  outq.Queue: Least, Len, Late, Clone, Copy.
-/
import Derived.Test.YtbplomnoapndnaaOQ
namespace Go.Proofs.Ytbplomnoapndnaa
open Go.RowKit
attribute [local go_sem ↓] Go.wp_at_zero Go.wp_at_succ

def leastL (l : List Rec) : Option Rec := l.find? (fun r => !r.2)
def LeastP (o : Option Rec) (w : World) (e : Ending) (w' : World) : Prop :=
  (match o with
   | some y => e = .returned (.tuple #[.int .i64 y.1.t, .bool true])
   | none => e = .returned (.tuple #[.int .i64 0, .bool false])) ∧ Fresh w w'
theorem LeastP.n {w w' : World} (f : Fresh w w') : LeastP none w (.returned (.tuple #[.int .i64 0, .bool false])) w' := ⟨rfl, f⟩
theorem LeastP.s {y : Rec} {w w' : World} (f : Fresh w w') : LeastP (some y) w (.returned (.tuple #[.int .i64 y.1.t, .bool true])) w' := ⟨rfl, f⟩
set_option maxHeartbeats 1000000 in
theorem least_any (g : Nat) (v : Value) (l : List Rec) (w : World) (h : OQ w g v l) (hl : l.length ≤ 100000) :
    Calls Try.prog 24 #[.pointer (some ⟨g, 0, none⟩)] w (LeastP (leastL l) w) := by
  have H := Lib.hid h
  have cq := h.blk.cell
  obtain ⟨A, cap, rfl, hca, hcm⟩ := h.own.shape
  have hcm : cap ≤ 9223372036854775807 := by unfold maxLen at hcm; omega
  clear h
  go_enter Try.func24, Try.ntmps24
  go_wp2_with fail
  go_loopg [13] l.length (fun gk u13 wr => ∃ i : Nat, i ≤ l.length ∧ gk = l.length - i ∧ u13 = .int .i64 i ∧ (∀ j r, j < i → l[j]? = some r → r.2 = true) ∧ Fresh w wr)
  case atStart => exact ⟨0, by omega, rfl, rfl, fun j r h => absurd h (by omega), Keep.refl _ _⟩
  case round =>
    obtain ⟨i, hi, rfl, rfl, hb, hF⟩ := hrel
    have HB := Lib.hid hb
    have HF := Lib.hid hF
    clear hb hF
    by_cases hlt : i < l.length
    · obtain ⟨y, hy⟩ : ∃ y, l[i]? = some y := ⟨_, List.getElem?_eq_getElem hlt⟩
      obtain ⟨g3, off3, _, hv3, hg3, _, _, hcc⟩ := (H.out.own.fresh HF.out).form (by omega)
      injection hv3 with e1 e2 e3
      subst e1 e3
      obtain ⟨y0, y1, y2, y3, y4, y5, y6, y7⟩ := rcells_at l i y hy
      have y0 := hcc _ _ y0
      have y1 := hcc _ _ y1
      have y2 := hcc _ _ y2
      have y3 := hcc _ _ y3
      have y4 := hcc _ _ y4
      have y5 := hcc _ _ y5
      have y6 := hcc _ _ y6
      have y7 := hcc _ _ y7
      rw [← Nat.add_assoc] at y1 y2 y3 y4 y5 y6 y7
      have HY := Lib.hid hy
      clear hcc hy e2
      obtain ⟨y, b⟩ := y
      simp only at y0 y1 y2 y3 y4 y5 y6 y7
      cases b
      · have hf : leastL l = some (y, false) := by
          unfold leastL
          obtain ⟨h1, h2⟩ := List.getElem?_eq_some_iff.1 HY.out
          rw [List.find?_eq_some_iff_append]
          refine ⟨rfl, l.take i, l.drop (i + 1), ?_, fun r hr => ?_⟩
          · rw [← h2, ← List.drop_eq_getElem_cons h1, List.take_append_drop]
          · obtain ⟨j, hj⟩ := List.mem_iff_getElem?.1 hr
            rw [List.getElem?_take] at hj
            split at hj
            · rw [HB.out j r ‹_› hj]; rfl
            · cases hj
        rw [hf]
        clear hf
        go_wp2_with fail
        go_ret2
        exact LeastP.s (y := (y, false)) (HF.out.alloc _)
      · go_wp2_with fail
        go_roundg (l.length - (i + 1))
        case measure => omega
        case rel => exact ⟨i + 1, by omega, rfl, by go_num, fun j r hj hr => by
              by_cases hjk : j = i
              · subst hjk
                rw [HY.out] at hr
                injection hr with hr
                rw [← hr]
              · exact HB.out j r (by omega) hr, HF.out.alloc _⟩
    · obtain rfl : i = l.length := by omega
      have hf : leastL l = none := by
        unfold leastL
        rw [List.find?_eq_none]
        intro r hr
        obtain ⟨j, hj⟩ := List.mem_iff_getElem?.1 hr
        rw [HB.out j r (List.getElem?_eq_some_iff.1 hj).1 hj]
        simp
      have HN := Lib.hid hf
      clear hf
      go_wp2_with fail
      go_ret2
      rw [HN.out]
      exact LeastP.n HF.out
def sures (l : List Rec) : Nat := l.countP (·.2)
set_option maxHeartbeats 1000000 in
theorem len_any (g : Nat) (v : Value) (l : List Rec) (w : World) (h : OQ w g v l) (hl : l.length ≤ 100000) :
    Calls Try.prog 32 #[.pointer (some ⟨g, 0, none⟩)] w fun e w' => e = .returned (.tuple #[.int .i64 (sures l : Nat), .int .i64 ((l.length : Int) - (sures l : Int))]) ∧ Fresh w w' := by
  have H := Lib.hid h
  have cq := h.blk.cell
  obtain ⟨A, cap, rfl, hca, hcm⟩ := h.own.shape
  have hcm : cap ≤ 9223372036854775807 := by unfold maxLen at hcm; omega
  clear h
  go_enter Try.func32, Try.ntmps32
  go_wp2_with fail
  go_loopg [4, 14] l.length (fun gk u4 u14 wr => ∃ i : Nat, i ≤ l.length ∧ gk = l.length - i ∧ u4 = .int .i64 (sures (l.take i) : Nat) ∧ u14 = .int .i64 i ∧ Fresh w wr)
  case atStart => exact ⟨0, by omega, rfl, by simp [sures], rfl, Keep.refl _ _⟩
  case round =>
    obtain ⟨i, hi, rfl, rfl, rfl, hF⟩ := hrel
    have HF := Lib.hid hF
    have cq := (H.out.fresh hF).blk.cell
    have lq := (H.out.fresh hF).blk.lt
    clear hF
    have hsl : sures (l.take i) ≤ i := Nat.le_trans List.countP_le_length (List.length_take_le _ _)
    by_cases hlt : i < l.length
    · obtain ⟨y, hy⟩ : ∃ y, l[i]? = some y := ⟨_, List.getElem?_eq_getElem hlt⟩
      obtain ⟨g3, off3, _, hv3, hg3, _, _, hcc⟩ := (H.out.own.fresh HF.out).form (by omega)
      injection hv3 with e1 e2 e3
      subst e1 e3
      obtain ⟨y0, y1, y2, y3, y4, y5, y6, y7⟩ := rcells_at l i y hy
      have y0 := hcc _ _ y0
      have y1 := hcc _ _ y1
      have y2 := hcc _ _ y2
      have y3 := hcc _ _ y3
      have y4 := hcc _ _ y4
      have y5 := hcc _ _ y5
      have y6 := hcc _ _ y6
      have y7 := hcc _ _ y7
      rw [← Nat.add_assoc] at y1 y2 y3 y4 y5 y6 y7
      have hs : sures (l.take (i + 1)) = sures (l.take i) + (if y.2 then 1 else 0) := by
        unfold sures
        rw [List.take_add_one, hy, Option.toList_some, List.countP_append, List.countP_singleton]
      obtain ⟨N, hN⟩ : ∃ N, sures (l.take i) = N := ⟨_, rfl⟩
      rw [hN] at hs hsl ⊢
      have HS := Lib.hid hs
      clear hcc hy e2 hs hN
      obtain ⟨y, b⟩ := y
      simp only at y0 y1 y2 y3 y4 y5 y6 y7 HS
      cases b
      · go_wp2_with fail
        go_roundg (l.length - (i + 1))
        case measure => omega
        case rel => exact ⟨i + 1, by omega, rfl, by rw [HS.out]; rfl, by go_num, HF.out.alloc _⟩
      · go_wp2_with fail
        go_roundg (l.length - (i + 1))
        case measure => omega
        case rel => exact ⟨i + 1, by omega, rfl, by rw [HS.out]; go_num, by go_num, HF.out.alloc _⟩
    · obtain rfl : i = l.length := by omega
      rw [List.take_length] at hsl ⊢
      have hws : IntKind.i64.wrap ((l.length : Int) - (sures l : Int)) = (l.length : Int) - (sures l : Int) := IntWalk.i64_in _ (by omega)
      go_wp2_with fail
      go_quiet (fail)
      go_wp2_with fail
      go_ret2
      exact ⟨rfl, HF.out.drewN _⟩
theorem isNil (w : World) (a : Option Addr) (n c : Nat) : (binOp .eql 69 (.slice a n c) (.slice none 0 0)).run Try.prog w = .ok (.bool a.isNone) w := Lib.run_eql_slice_nil w _ _ a n c 0 0 Try.underlying69
attribute [local go_sem] isNil
theorem rclone_any (v : Value) (n : Nat) (xs : List Value) (w : World) (h : OwnS w 79 8 v n xs) (h1 : ∀ u ∈ xs, u.oneCell' = true) (hn : n ≤ 1000000) :
    Calls Try.prog 53 #[v] w fun e w' => ∃ v', e = .returned v' ∧ OwnS w' 79 8 v' n xs ∧ Fresh w w' ∧ ∀ k, v'.ownBlock = some k → w.heap.size ≤ k := by
  rcases h.2 with ⟨rfl, rfl⟩ | ⟨g', off, cap, cur, rfl, _⟩
  · have hx : xs = [] := List.eq_nil_of_length_eq_zero (by simpa using h.1)
    subst hx
    clear h h1
    go_enter Try.func53, Try.ntmps53
    go_wp2_with fail
    go_ret
    exact ⟨_, rfl, OwnS.nil _ _ _, Keep.refl _ _, by simp [Value.ownBlock]⟩
  have HO := Lib.hid h
  have H1 := Lib.hid h1
  clear h h1
  obtain ⟨i0, hi, hz0, hz1, hz2⟩ := info_parts info_rec
  have h04 : 0 < 8 := by omega
  have hL1 : 0 + n ≤ maxLen := one_le_maxLen (by omega)
  have hL2 : (0 + n) * 64 ≤ 140737488355328 := by omega
  have HN : Hid (OwnS (w.alloc (.cells #[] 79)) 79 8 (.slice (some ⟨w.heap.size, 0, none⟩) 0 0) 0 []) := OwnS.new_ (Blk.at_new rfl _ #[]) rfl (Nat.zero_le _)
  go_enter Try.func53, Try.ntmps53
  go_wp2_with (at_builtin; refine wpList_append_OwnS _ rfl _ _ 69 rfl 79 i0 (.agg #[.int .i64 0, .int .i64 0, .int .i64 0, .int .i64 0, .int .i64 0, .int .i64 0, .int .i64 0, .bool false]) 8 64 Try.underlying69 hi hz0 hz1 hz2 rfl h04 (.slice (some ⟨w.heap.size, 0, none⟩) 0 0) 0 [] rfl HN.out (.slice (some ⟨g', off, none⟩) n cap) n xs rfl (HO.out.alloc _).src H1.out hL1 hL2 ?_; intro v' w1 ho1 hk1 hat1)
  go_ret
  refine ⟨v', rfl, by simpa using ho1, Keep.step ((Keep.refl _ w).alloc _) hk1 (fun k hk hk' => by simp [Value.ownBlock] at hk'; omega), fun k hk => ?_⟩
  have := hat1 k hk
  simp [Value.ownBlock] at this
  omega
def CopyP (l : List Rec) (w : World) (e : Ending) (w' : World) : Prop :=
  ∃ g' v', e = .returned (.pointer (some ⟨g', 0, none⟩)) ∧ OQ w' g' v' l ∧ Fresh w w' ∧ ∀ k, foot g' v' k → w.heap.size ≤ k
theorem copy_any (g : Nat) (v : Value) (l : List Rec) (w : World) (h : OQ w g v l) (hl : l.length ≤ 100000) :
    Calls Try.prog 29 #[.pointer (some ⟨g, 0, none⟩)] w (CopyP l w) := by
  have H1 := Lib.hid (rclone_any v l.length (rcells l) w h.own (rcells_one _) (by omega))
  have S := Lib.hid h.srt
  have cq := h.blk.cell
  have lq := h.blk.lt
  obtain ⟨A, cap, rfl, _, _⟩ := h.own.shape
  clear h
  go_enter Try.func29, Try.ntmps29
  go_wp2_with fail
  refine H1.out.mono ?_
  rintro e w1 ⟨v1, rfl, o1, f1, n1⟩
  obtain ⟨A1, c1, rfl, _, _⟩ := o1.shape
  have O1 := Lib.hid o1
  have F1 := Lib.hid f1
  have N1 := Lib.hid n1
  have sz := f1.size
  clear o1 f1 n1
  go_wp2_with fail
  go_ret
  refine ⟨_, _, rfl, ⟨Blk.at_new rfl _ _, O1.out.alloc _, S.out⟩, F1.out.alloc _, fun k hk => ?_⟩
  rcases hk with rfl | hk
  · omega
  · exact N1.out k hk
/-- the last record from a time on -/
def lateO (l : List Rec) (a : Int) : Option Ev := match l.getLast? with
  | some r => if r.1.t < a then none else some r.1
  | none => none
def evVal (o : Option Ev) : Value := match o with
  | some e => e.val
  | none => .agg #[.int .i64 0, .int .i64 0, .int .i64 0, .int .i64 0, .int .i64 0, .int .i64 0, .int .i64 0]
def OLateP (o : Option Ev) (w : World) (e : Ending) (w' : World) : Prop := e = .returned (.tuple #[evVal o, .bool o.isSome]) ∧ Fresh w w'
/-- an event stored into a block of its kind -/
def putEv (W : World) (g : Nat) (y : Ev) : World := ((((((W.setCell ⟨g, 0, none⟩ (.int .i64 y.a)).setCell ⟨g, 1, none⟩ (.int .i64 y.s)).setCell ⟨g, 2, none⟩ (.int .i64 y.t)).setCell ⟨g, 3, none⟩ (.int .i64 y.n)).setCell ⟨g, 4, none⟩ (.int .i64 y.d)).setCell ⟨g, 5, none⟩ (.int .i64 y.k)).setCell ⟨g, 6, none⟩ (.int .i64 y.x)
theorem putEv_keep {S : Nat → Prop} (W : World) (g : Nat) (y : Ev) (h : S g) : Keep S W (putEv W g y) := by
  unfold putEv
  exact ((((((((Keep.refl S W).setCell (p := ⟨g, 0, none⟩) (fun _ => h) _).setCell (p := ⟨g, 1, none⟩) (fun _ => h) _).setCell (p := ⟨g, 2, none⟩) (fun _ => h) _).setCell (p := ⟨g, 3, none⟩) (fun _ => h) _).setCell (p := ⟨g, 4, none⟩) (fun _ => h) _).setCell (p := ⟨g, 5, none⟩) (fun _ => h) _).setCell (p := ⟨g, 6, none⟩) (fun _ => h) _)
theorem putEv_blk {W : World} {g : Nat} {a0 a1 a2 a3 a4 a5 a6 : Value} (h : Blk W g 44 #[a0, a1, a2, a3, a4, a5, a6]) (y : Ev) : Blk (putEv W g y) g 44 #[.int .i64 y.a, .int .i64 y.s, .int .i64 y.t, .int .i64 y.n, .int .i64 y.d, .int .i64 y.k, .int .i64 y.x] := by
  have := ((((((h.set_ 0 (.int .i64 y.a)).set_ 1 (.int .i64 y.s)).set_ 2 (.int .i64 y.t)).set_ 3 (.int .i64 y.n)).set_ 4 (.int .i64 y.d)).set_ 5 (.int .i64 y.k)).set_ 6 (.int .i64 y.x)
  simpa [putEv] using this
set_option maxHeartbeats 2000000 in
theorem late_any (g : Nat) (v : Value) (l : List Rec) (a : Int) (w : World) (h : OQ w g v l) (hl : l.length ≤ 100000) :
    Calls Try.prog 31 #[.pointer (some ⟨g, 0, none⟩), .int .i64 a] w (OLateP (lateO l a) w) := by
  have H := Lib.hid h
  obtain ⟨A, cap, rfl, hca, hcm⟩ := h.own.shape
  have hcm : cap ≤ 9223372036854775807 := by unfold maxLen at hcm; omega
  have F0 : Fresh w (w.alloc (.cells #[.int .i64 0, .int .i64 0, .int .i64 0, .int .i64 0, .int .i64 0, .int .i64 0, .int .i64 0] 44)) := (Keep.refl _ _).alloc _
  have B0 := Blk.new w 44 #[.int .i64 0, .int .i64 0, .int .i64 0, .int .i64 0, .int .i64 0, .int .i64 0, .int .i64 0]
  have cq := (h.fresh F0).blk.cell
  have lq := (h.fresh F0).blk.lt
  have lg := h.blk.lt
  have HF0 := Lib.hid F0
  have HB0 := Lib.hid B0
  clear h F0 B0
  by_cases h0 : l = []
  · subst h0
    go_enter Try.func31, Try.ntmps31
    go_wp2_with fail
    have c5 := HB0.out.cell
    refine bodyPost_ret (v := (.tuple #[.agg #[.int .i64 0, .int .i64 0, .int .i64 0, .int .i64 0, .int .i64 0, .int .i64 0, .int .i64 0], .bool false])) (by simp [results, Try.results31, go_sem, c5]; try rfl) rfl ?_
    exact ⟨rfl, HF0.out⟩
  · have hpos : 0 < l.length := List.length_pos_iff.2 h0
    obtain ⟨y, hy⟩ : ∃ y, l[l.length - 1]? = some y := ⟨_, List.getElem?_eq_getElem (by omega)⟩
    have hlast : l.getLast? = some y := by rw [List.getLast?_eq_getElem?]; exact hy
    have HL := Lib.hid hlast
    obtain ⟨g3, off3, _, hv3, hg3, _, _, hcc⟩ := H.out.own.form hpos
    injection hv3 with e1 e2 e3
    subst e1 e3
    obtain ⟨y0, y1, y2, y3, y4, y5, y6, y7⟩ := rcells_at l _ y hy
    have y0 := hcc _ _ y0
    have y1 := hcc _ _ y1
    have y2 := hcc _ _ y2
    have y3 := hcc _ _ y3
    have y4 := hcc _ _ y4
    have y5 := hcc _ _ y5
    have y6 := hcc _ _ y6
    have y7 := hcc _ _ y7
    rw [← Nat.add_assoc] at y1 y2 y3 y4 y5 y6 y7
    clear hcc hy e2 hlast h0
    obtain ⟨n, hn⟩ : ∃ n, l.length = n + 1 := ⟨l.length - 1, by omega⟩
    rw [hn] at cq y0 y1 y2 y3 y4 y5 y6 y7
    rw [Nat.add_sub_cancel] at y0 y1 y2 y3 y4 y5 y6 y7
    have HN := Lib.hid hn
    obtain ⟨y, b⟩ := y
    simp only at y0 y1 y2 y3 y4 y5 y6 y7
    have hn2 : n ≤ 100000 := by omega
    rw [hn] at hca
    clear hn hpos hl
    have wn : IntKind.i64.wrap (((n + 1 : Nat) : Int) - 1) = n := by rw [IntWalk.i64_in _ (by omega)]; omega
    have wn2 : IntKind.i64.wrap (n : Int) = n := by rw [IntWalk.i64_in _ (by omega)]
    have hn5 : 0 ≤ (n : Int) := by omega
    have hn3 : (n : Int) < (n : Int) + 1 := by omega
    have hn4 : ((n : Int)).toNat = n := by omega
    go_enter Try.func31, Try.ntmps31
    go_wp2_with fail
    have F2 : Hid (Fresh w ((w.alloc (.cells #[.int .i64 0, .int .i64 0, .int .i64 0, .int .i64 0, .int .i64 0, .int .i64 0, .int .i64 0] 44)).alloc (.cells #[.int .i64 y.a, .int .i64 y.s, .int .i64 y.t, .int .i64 y.n, .int .i64 y.d, .int .i64 y.k, .int .i64 y.x, .bool b] 79)).drew) := Lib.hid ((HF0.out.alloc _).drewN 1)
    have c6 := ((Blk.new w 44 #[.int .i64 y.a, .int .i64 y.s, .int .i64 y.t, .int .i64 y.n, .int .i64 y.d, .int .i64 y.k, .int .i64 y.x]).alloc (.cells #[.int .i64 y.a, .int .i64 y.s, .int .i64 y.t, .int .i64 y.n, .int .i64 y.d, .int .i64 y.k, .int .i64 y.x, .bool b] 79)).cell
    have F3 : Hid (Fresh w ((w.alloc (.cells #[.int .i64 y.a, .int .i64 y.s, .int .i64 y.t, .int .i64 y.n, .int .i64 y.d, .int .i64 y.k, .int .i64 y.x] 44)).alloc (.cells #[.int .i64 y.a, .int .i64 y.s, .int .i64 y.t, .int .i64 y.n, .int .i64 y.d, .int .i64 y.k, .int .i64 y.x, .bool b] 79)).drew) := Lib.hid ((((Keep.refl _ w).alloc _).alloc _).drewN 1)
    have c5 := (HB0.out.alloc (.cells #[.int .i64 y.a, .int .i64 y.s, .int .i64 y.t, .int .i64 y.n, .int .i64 y.d, .int .i64 y.k, .int .i64 y.x, .bool b] 79)).cell
    by_cases ht : y.t < a
    · have t1 : decide (y.t < a) = true := decide_eq_true ht
      have EQ : Hid (lateO l a = none) := Lib.hid (by unfold lateO; rw [HL.out]; simp [ht])
      clear ht
      go_region_law (fail)
      all_goals go_wp2_with fail
      all_goals (refine bodyPost_ret (v := (.tuple #[.agg #[.int .i64 0, .int .i64 0, .int .i64 0, .int .i64 0, .int .i64 0, .int .i64 0, .int .i64 0], .bool false])) (by simp [results, Try.results31, go_sem, c5]; try rfl) rfl ?_)
      all_goals (rw [EQ.out]; exact ⟨rfl, F2.out⟩)
    · have t1 : decide (y.t < a) = false := decide_eq_false ht
      have EQ : Hid (lateO l a = some y) := Lib.hid (by unfold lateO; rw [HL.out]; simp [ht])
      clear ht
      go_region_law (fail)
      all_goals go_wp2_with fail
      all_goals (refine bodyPost_ret (v := (.tuple #[.agg #[.int .i64 y.a, .int .i64 y.s, .int .i64 y.t, .int .i64 y.n, .int .i64 y.d, .int .i64 y.k, .int .i64 y.x], .bool true])) (by simp [results, Try.results31, go_sem, c6]; try rfl) rfl ?_)
      all_goals (rw [EQ.out]; exact ⟨rfl, F3.out⟩)
end Go.Proofs.Ytbplomnoapndnaa
