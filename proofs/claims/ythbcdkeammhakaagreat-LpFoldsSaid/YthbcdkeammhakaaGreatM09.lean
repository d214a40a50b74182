/- Chapter 13: OOQ2, OAllI, OTakeK, OTakeOOflush. -/
import Derived.Test.YthbcdkeammhakaaGreatM08
import Derived.Test.YthbcdkeammhakaaGreatM04
/-
  outq.Queue: Least, Len, Late, Clone, Copy.
-/
namespace Go.Proofs.YthbcdkeammhakaaGreat
open Go.RowKit
attribute [local go_sem ↓] Go.wp_at_zero Go.wp_at_succ

def leastL (l : List Rec) : Option Rec := l.find? (fun r => !r.2)
def LeastP (o : Option Rec) (w : World) (e : Ending) (w' : World) : Prop :=
  (match o with
   | some y => e = .returned (.tuple #[.int .i64 y.1.t, .bool true])
   | none => e = .returned (.tuple #[.int .i64 0, .bool false])) ∧ Fresh w w'
theorem LeastP.n {w w' : World} (f : Fresh w w') : LeastP none w (.returned (.tuple #[.int .i64 0, .bool false])) w' := ⟨rfl, f⟩
theorem LeastP.s {y : Rec} {w w' : World} (f : Fresh w w') : LeastP (some y) w (.returned (.tuple #[.int .i64 y.1.t, .bool true])) w' := ⟨rfl, f⟩
set_option maxHeartbeats 1000000 in
theorem least_any (g : Nat) (v : Value) (l : List Rec) (w : World) (h : OQ w g v l) (hl : l.length ≤ 100000) :
    Calls Tryz.prog 45 #[.pointer (some ⟨g, 0, none⟩)] w (LeastP (leastL l) w) := by
  have H := Lib.hid h
  have cq := h.blk.cell
  obtain ⟨A, cap, rfl, hca, hcm⟩ := h.own.shape
  have hcm : cap ≤ 9223372036854775807 := by unfold maxLen at hcm; omega
  clear h
  go_enter Tryz.func45, Tryz.ntmps45
  go_wp2_with fail
  go_loopg [13] l.length (fun gk u13 wr => ∃ i : Nat, i ≤ l.length ∧ gk = l.length - i ∧ u13 = .int .i64 i ∧ (∀ j r, j < i → l[j]? = some r → r.2 = true) ∧ Fresh w wr)
  case atStart => exact ⟨0, by omega, rfl, rfl, fun j r h => absurd h (by omega), Keep.refl _ _⟩
  case round =>
    obtain ⟨i, hi, rfl, rfl, hb, hF⟩ := hrel
    have HB := Lib.hid hb
    have HF := Lib.hid hF
    clear hb hF
    by_cases hlt : i < l.length
    · obtain ⟨y, hy⟩ : ∃ y, l[i]? = some y := ⟨_, List.getElem?_eq_getElem hlt⟩
      obtain ⟨g3, off3, _, hv3, hg3, _, _, hcc⟩ := (H.out.own.fresh HF.out).form (by omega)
      injection hv3 with e1 e2 e3
      subst e1 e3
      obtain ⟨y0, y1, y2, y3, y4, y5, y6, y7⟩ := rcells_at l i y hy
      have y0 := hcc _ _ y0
      have y1 := hcc _ _ y1
      have y2 := hcc _ _ y2
      have y3 := hcc _ _ y3
      have y4 := hcc _ _ y4
      have y5 := hcc _ _ y5
      have y6 := hcc _ _ y6
      have y7 := hcc _ _ y7
      rw [← Nat.add_assoc] at y1 y2 y3 y4 y5 y6 y7
      have HY := Lib.hid hy
      clear hcc hy e2
      obtain ⟨y, b⟩ := y
      simp only at y0 y1 y2 y3 y4 y5 y6 y7
      cases b
      · have hf : leastL l = some (y, false) := by
          unfold leastL
          obtain ⟨h1, h2⟩ := List.getElem?_eq_some_iff.1 HY.out
          rw [List.find?_eq_some_iff_append]
          refine ⟨rfl, l.take i, l.drop (i + 1), ?_, fun r hr => ?_⟩
          · rw [← h2, ← List.drop_eq_getElem_cons h1, List.take_append_drop]
          · obtain ⟨j, hj⟩ := List.mem_iff_getElem?.1 hr
            rw [List.getElem?_take] at hj
            split at hj
            · rw [HB.out j r ‹_› hj]; rfl
            · cases hj
        rw [hf]
        clear hf
        go_wp2_with fail
        go_ret2
        exact LeastP.s (y := (y, false)) (HF.out.alloc _)
      · go_wp2_with fail
        go_roundg (l.length - (i + 1))
        case measure => omega
        case rel => exact ⟨i + 1, by omega, rfl, by go_num, fun j r hj hr => by
              by_cases hjk : j = i
              · subst hjk
                rw [HY.out] at hr
                injection hr with hr
                rw [← hr]
              · exact HB.out j r (by omega) hr, HF.out.alloc _⟩
    · obtain rfl : i = l.length := by omega
      have hf : leastL l = none := by
        unfold leastL
        rw [List.find?_eq_none]
        intro r hr
        obtain ⟨j, hj⟩ := List.mem_iff_getElem?.1 hr
        rw [HB.out j r (List.getElem?_eq_some_iff.1 hj).1 hj]
        simp
      have HN := Lib.hid hf
      clear hf
      go_wp2_with fail
      go_ret2
      rw [HN.out]
      exact LeastP.n HF.out
def sures (l : List Rec) : Nat := l.countP (·.2)
set_option maxHeartbeats 1000000 in
theorem olen_any (g : Nat) (v : Value) (l : List Rec) (w : World) (h : OQ w g v l) (hl : l.length ≤ 100000) :
    Calls Tryz.prog 67 #[.pointer (some ⟨g, 0, none⟩)] w fun e w' => e = .returned (.tuple #[.int .i64 (sures l : Nat), .int .i64 ((l.length : Int) - (sures l : Int))]) ∧ Fresh w w' := by
  have H := Lib.hid h
  have cq := h.blk.cell
  obtain ⟨A, cap, rfl, hca, hcm⟩ := h.own.shape
  have hcm : cap ≤ 9223372036854775807 := by unfold maxLen at hcm; omega
  clear h
  go_enter Tryz.func67, Tryz.ntmps67
  go_wp2_with fail
  go_loopg [4, 14] l.length (fun gk u4 u14 wr => ∃ i : Nat, i ≤ l.length ∧ gk = l.length - i ∧ u4 = .int .i64 (sures (l.take i) : Nat) ∧ u14 = .int .i64 i ∧ Fresh w wr)
  case atStart => exact ⟨0, by omega, rfl, by simp [sures], rfl, Keep.refl _ _⟩
  case round =>
    obtain ⟨i, hi, rfl, rfl, rfl, hF⟩ := hrel
    have HF := Lib.hid hF
    have cq := (H.out.fresh hF).blk.cell
    have lq := (H.out.fresh hF).blk.lt
    clear hF
    have hsl : sures (l.take i) ≤ i := Nat.le_trans List.countP_le_length (List.length_take_le _ _)
    by_cases hlt : i < l.length
    · obtain ⟨y, hy⟩ : ∃ y, l[i]? = some y := ⟨_, List.getElem?_eq_getElem hlt⟩
      obtain ⟨g3, off3, _, hv3, hg3, _, _, hcc⟩ := (H.out.own.fresh HF.out).form (by omega)
      injection hv3 with e1 e2 e3
      subst e1 e3
      obtain ⟨y0, y1, y2, y3, y4, y5, y6, y7⟩ := rcells_at l i y hy
      have y0 := hcc _ _ y0
      have y1 := hcc _ _ y1
      have y2 := hcc _ _ y2
      have y3 := hcc _ _ y3
      have y4 := hcc _ _ y4
      have y5 := hcc _ _ y5
      have y6 := hcc _ _ y6
      have y7 := hcc _ _ y7
      rw [← Nat.add_assoc] at y1 y2 y3 y4 y5 y6 y7
      have hs : sures (l.take (i + 1)) = sures (l.take i) + (if y.2 then 1 else 0) := by
        unfold sures
        rw [List.take_add_one, hy, Option.toList_some, List.countP_append, List.countP_singleton]
      obtain ⟨N, hN⟩ : ∃ N, sures (l.take i) = N := ⟨_, rfl⟩
      rw [hN] at hs hsl ⊢
      have HS := Lib.hid hs
      clear hcc hy e2 hs hN
      obtain ⟨y, b⟩ := y
      simp only at y0 y1 y2 y3 y4 y5 y6 y7 HS
      cases b
      · go_wp2_with fail
        go_roundg (l.length - (i + 1))
        case measure => omega
        case rel => exact ⟨i + 1, by omega, rfl, by rw [HS.out]; rfl, by go_num, HF.out.alloc _⟩
      · go_wp2_with fail
        go_roundg (l.length - (i + 1))
        case measure => omega
        case rel => exact ⟨i + 1, by omega, rfl, by rw [HS.out]; go_num, by go_num, HF.out.alloc _⟩
    · obtain rfl : i = l.length := by omega
      rw [List.take_length] at hsl ⊢
      have hws : IntKind.i64.wrap ((l.length : Int) - (sures l : Int)) = (l.length : Int) - (sures l : Int) := IntWalk.i64_in _ (by omega)
      go_wp2_with fail
      go_quiet (fail)
      go_wp2_with fail
      go_ret2
      exact ⟨rfl, HF.out.drewN _⟩
theorem oisNil (w : World) (a : Option Addr) (n c : Nat) : (binOp .eql 133 (.slice a n c) (.slice none 0 0)).run Tryz.prog w = .ok (.bool a.isNone) w := Lib.run_eql_slice_nil w _ _ a n c 0 0 Tryz.underlying133
attribute [local go_sem] oisNil
theorem orclone_any (v : Value) (n : Nat) (xs : List Value) (w : World) (h : OwnS w 137 8 v n xs) (h1 : ∀ u ∈ xs, u.oneCell' = true) (hn : n ≤ 1000000) :
    Calls Tryz.prog 104 #[v] w fun e w' => ∃ v', e = .returned v' ∧ OwnS w' 137 8 v' n xs ∧ Fresh w w' ∧ ∀ k, v'.ownBlock = some k → w.heap.size ≤ k := by
  rcases h.2 with ⟨rfl, rfl⟩ | ⟨g', off, cap, cur, rfl, _⟩
  · have hx : xs = [] := List.eq_nil_of_length_eq_zero (by simpa using h.1)
    subst hx
    clear h h1
    go_enter Tryz.func104, Tryz.ntmps104
    go_wp2_with fail
    go_ret
    exact ⟨_, rfl, OwnS.nil _ _ _, Keep.refl _ _, by simp [Value.ownBlock]⟩
  have HO := Lib.hid h
  have H1 := Lib.hid h1
  clear h h1
  obtain ⟨i0, hi, hz0, hz1, hz2⟩ := info_parts info_rec
  have h04 : 0 < 8 := by omega
  have hL1 : 0 + n ≤ maxLen := one_le_maxLen (by omega)
  have hL2 : (0 + n) * 64 ≤ 140737488355328 := by omega
  have HN : Hid (OwnS (w.alloc (.cells #[] 137)) 137 8 (.slice (some ⟨w.heap.size, 0, none⟩) 0 0) 0 []) := OwnS.new_ (Blk.at_new rfl _ #[]) rfl (Nat.zero_le _)
  go_enter Tryz.func104, Tryz.ntmps104
  go_wp2_with (at_builtin; refine wpList_append_OwnS _ rfl _ _ 133 rfl 137 i0 (.agg #[.int .i64 0, .int .i64 0, .int .i64 0, .int .i64 0, .int .i64 0, .int .i64 0, .int .i64 0, .bool false]) 8 64 Tryz.underlying133 hi hz0 hz1 hz2 rfl h04 (.slice (some ⟨w.heap.size, 0, none⟩) 0 0) 0 [] rfl HN.out (.slice (some ⟨g', off, none⟩) n cap) n xs rfl (HO.out.alloc _).src H1.out hL1 hL2 ?_; intro v' w1 ho1 hk1 hat1)
  go_ret
  refine ⟨v', rfl, by simpa using ho1, Keep.step ((Keep.refl _ w).alloc _) hk1 (fun k hk hk' => by simp [Value.ownBlock] at hk'; omega), fun k hk => ?_⟩
  have := hat1 k hk
  simp [Value.ownBlock] at this
  omega
def OCopyP (l : List Rec) (w : World) (e : Ending) (w' : World) : Prop :=
  ∃ g' v', e = .returned (.pointer (some ⟨g', 0, none⟩)) ∧ OQ w' g' v' l ∧ Fresh w w' ∧ ∀ k, ofoot g' v' k → w.heap.size ≤ k
theorem ocopy_any (g : Nat) (v : Value) (l : List Rec) (w : World) (h : OQ w g v l) (hl : l.length ≤ 100000) :
    Calls Tryz.prog 59 #[.pointer (some ⟨g, 0, none⟩)] w (OCopyP l w) := by
  have H1 := Lib.hid (orclone_any v l.length (rcells l) w h.own (rcells_one _) (by omega))
  have S := Lib.hid h.srt
  have cq := h.blk.cell
  have lq := h.blk.lt
  obtain ⟨A, cap, rfl, _, _⟩ := h.own.shape
  clear h
  go_enter Tryz.func59, Tryz.ntmps59
  go_wp2_with fail
  refine H1.out.mono ?_
  rintro e w1 ⟨v1, rfl, o1, f1, n1⟩
  obtain ⟨A1, c1, rfl, _, _⟩ := o1.shape
  have O1 := Lib.hid o1
  have F1 := Lib.hid f1
  have N1 := Lib.hid n1
  have sz := f1.size
  clear o1 f1 n1
  go_wp2_with fail
  go_ret
  refine ⟨_, _, rfl, ⟨Blk.at_new rfl _ _, O1.out.alloc _, S.out⟩, F1.out.alloc _, fun k hk => ?_⟩
  rcases hk with rfl | hk
  · omega
  · exact N1.out k hk
/-- the last record from a time on -/
def lateO (l : List Rec) (a : Int) : Option Ev := match l.getLast? with
  | some r => if r.1.t < a then none else some r.1
  | none => none
def evVal (o : Option Ev) : Value := match o with
  | some e => e.val
  | none => .agg #[.int .i64 0, .int .i64 0, .int .i64 0, .int .i64 0, .int .i64 0, .int .i64 0, .int .i64 0]
def OLateP (o : Option Ev) (w : World) (e : Ending) (w' : World) : Prop := e = .returned (.tuple #[evVal o, .bool o.isSome]) ∧ Fresh w w'
/-- an event stored into a block of its kind -/
def putEv (W : World) (g : Nat) (y : Ev) : World := ((((((W.setCell ⟨g, 0, none⟩ (.int .i64 y.a)).setCell ⟨g, 1, none⟩ (.int .i64 y.s)).setCell ⟨g, 2, none⟩ (.int .i64 y.t)).setCell ⟨g, 3, none⟩ (.int .i64 y.n)).setCell ⟨g, 4, none⟩ (.int .i64 y.d)).setCell ⟨g, 5, none⟩ (.int .i64 y.k)).setCell ⟨g, 6, none⟩ (.int .i64 y.x)
theorem putEv_keep {S : Nat → Prop} (W : World) (g : Nat) (y : Ev) (h : S g) : Keep S W (putEv W g y) := by
  unfold putEv
  exact ((((((((Keep.refl S W).setCell (p := ⟨g, 0, none⟩) (fun _ => h) _).setCell (p := ⟨g, 1, none⟩) (fun _ => h) _).setCell (p := ⟨g, 2, none⟩) (fun _ => h) _).setCell (p := ⟨g, 3, none⟩) (fun _ => h) _).setCell (p := ⟨g, 4, none⟩) (fun _ => h) _).setCell (p := ⟨g, 5, none⟩) (fun _ => h) _).setCell (p := ⟨g, 6, none⟩) (fun _ => h) _)
theorem putEv_blk {W : World} {g : Nat} {a0 a1 a2 a3 a4 a5 a6 : Value} (h : Blk W g 41 #[a0, a1, a2, a3, a4, a5, a6]) (y : Ev) : Blk (putEv W g y) g 41 #[.int .i64 y.a, .int .i64 y.s, .int .i64 y.t, .int .i64 y.n, .int .i64 y.d, .int .i64 y.k, .int .i64 y.x] := by
  have := ((((((h.set_ 0 (.int .i64 y.a)).set_ 1 (.int .i64 y.s)).set_ 2 (.int .i64 y.t)).set_ 3 (.int .i64 y.n)).set_ 4 (.int .i64 y.d)).set_ 5 (.int .i64 y.k)).set_ 6 (.int .i64 y.x)
  simpa [putEv] using this
end Go.Proofs.YthbcdkeammhakaaGreat

/-
  outq.Queue's All: what it hands back, and how its rounds go.
-/
namespace Go.Proofs.YthbcdkeammhakaaGreat
open Go.RowKit Go.Shelf
attribute [local go_sem] Oper.semAt_some

/-- a record as a round takes it -/
def oenc (p : Rec) : Array Value := #[p.1.val, .bool p.2]
set_option maxRecDepth 100000 in
set_option maxHeartbeats 2000000 in
theorem all1_in (F : Fence) (n : Nat) (hF : F.fn 126) (hro : F.round = none) (hn : 1 ≤ n) (lp bx : Nat) (v : Value) (l : List Rec) (hlen : l.length ≤ 100000) (J Jx : List Rec → World → Prop)
    (hJ : ∀ pre W (o : Obj), J pre W → J pre (W.alloc o))
    (hY : ∀ pre (x : Rec) W, J pre W → pre.length < l.length → YieldAt F (n - 1) Tryz.prog lp (oenc x) W fun e W' =>
      (e = .returned (.bool true) ∧ J (pre ++ [x]) W' ∧ KeepsB (bk v) 137 W W') ∨ (e = .returned (.bool false) ∧ Jx (pre ++ [x]) W'))
    (W : World) (hb : W.cell? ⟨bx, 0, none⟩ = some v) (ho : OwnS W 137 8 v l.length (rcells l)) (h0 : J [] W) :
    CallsIn F n Tryz.prog 126 #[.func (.yield lp) #[] #[], .pointer (some ⟨bx, 0, none⟩)] W fun e W' => (∃ v, e = .returned v) ∧
      ((∃ ys, ys = l ∧ J ys W') ∨ (∃ pre, pre <+: l ∧ Jx pre W')) := by
  obtain ⟨A, cap, rfl, hnc, hmc⟩ := ho.shape
  have hmc : cap ≤ 9223372036854775807 := by unfold maxLen at hmc; omega
  obtain ⟨g', hg'⟩ : ∃ g', bk (.slice A l.length cap) = g' := ⟨_, rfl⟩
  rw [hg'] at hY
  have HG := Lib.hid hg'
  clear hg'
  refine callsIn_of_wp Tryz.func126 rfl hF ?_ hro
  simp only [Tryz.ntmps126, List.size_toArray, List.length_cons, List.length_nil, Nat.reduceAdd, Nat.reduceSub, Array.replicate_succ, Array.replicate_zero, List.push_toArray, List.append_toArray, List.nil_append, List.cons_append]
  have HC := Lib.hid ho
  clear ho
  gi_wp2
  gi_loopw [7] (fun i wr => ∃ k : Nat, k ≤ l.length ∧ i = .int .i64 k ∧ J (l.take k) wr ∧ KeepsB g' 137 W wr)
    (fun i _ => l.length - (intOf i).toNat)
  case atStart => exact ⟨0, Nat.zero_le _, rfl, by simpa using h0, KeepsB.refl _ _ _⟩
  case round =>
    obtain ⟨k, hk, rfl, hJs, hnx⟩ := hrel
    by_cases hlt : k < l.length
    · obtain ⟨⟨s, sb⟩, hs⟩ : ∃ s, l[k]? = some s := ⟨_, List.getElem?_eq_getElem hlt⟩
      have htake : l.take k ++ [(s, sb)] = l.take (k + 1) := by rw [List.take_add_one, hs]; rfl
      obtain ⟨g1, off, _, hv, hgl, _, _, hc⟩ := (OwnS.keepsV HC.out (HG.out.symm ▸ hnx)).form (by omega)
      injection hv with hv1 hv2 hv3
      subst hv1 hv3
      obtain ⟨c0, c1, c2, c3, c4, c5, c6, c7⟩ := rcells_at l k ⟨s, sb⟩ hs
      simp only at c0 c1 c2 c3 c4 c5 c6 c7
      have c0 := hc _ _ c0
      have c1 := hc _ _ c1
      have c2 := hc _ _ c2
      have c3 := hc _ _ c3
      have c4 := hc _ _ c4
      have c5 := hc _ _ c5
      have c6 := hc _ _ c6
      have c7 := hc _ _ c7
      rw [← Nat.add_assoc] at c1 c2 c3 c4 c5 c6 c7
      obtain ⟨fn, tmps, assign, body, hy, hR⟩ := hY _ (s, sb) _ (hJ _ _ (.cells #[.int .i64 s.a, .int .i64 s.s, .int .i64 s.t, .int .i64 s.n, .int .i64 s.d, .int .i64 s.k, .int .i64 s.x, .bool sb] 137) hJs) (by rw [List.length_take]; omega)
      have hnx2 : KeepsB g' 137 W (wr.alloc (.cells #[.int .i64 s.a, .int .i64 s.s, .int .i64 s.t, .int .i64 s.n, .int .i64 s.d, .int .i64 s.k, .int .i64 s.x, .bool sb] 137)) := hnx.alloc _
      have HX := Lib.hid hnx2
      have HT := Lib.hid htake
      clear hnx hnx2 htake hs hJs hc
      unfold oenc Ev.val at hy
      gi_wp2
      refine hR.mono ?_
      rintro e W3 (⟨rfl, hJ3, hk3⟩ | ⟨rfl, hJx3⟩)
      · have HJ := Lib.hid hJ3
        have HK := Lib.hid hk3
        clear hJ3 hk3
        gi_wp2
        go_roundw
        case rel => exact ⟨k + 1, by omega, by simp, by rw [← HT.out]; exact HJ.out, HX.out.trans HK.out⟩
        case measure => simp [intOf]; omega
      · have HJ := Lib.hid hJx3
        clear hJx3
        gi_wp2
        refine bodyPost_ret (results_none rfl _ _ _) rfl ?_
        exact ⟨⟨_, rfl⟩, .inr ⟨_, by rw [HT.out]; exact List.take_prefix _ _, HJ.out⟩⟩
    · obtain rfl : k = l.length := by omega
      have HJ := Lib.hid hJs
      clear hJs
      gi_wp2
      go_end0
      exact ⟨⟨_, rfl⟩, .inl ⟨_, List.take_length, HJ.out⟩⟩
/-- what All hands back, as a loop takes it -/
theorem all_stops (F : Fence) (n : Nat) (hF : F.fn 126) (hro : F.round = none) (hn : 1 ≤ n) (bx : Nat) (v : Value) (l : List Rec) (hlen : l.length ≤ 100000) (w : World)
    (hb : Blk w bx 133 #[v]) (ho : OwnS w 137 8 v l.length (rcells l)) :
    SeqStopsK F n Tryz.prog 126 #[.pointer (some ⟨bx, 0, none⟩)] oenc (KeepsB (bk v) 137) (fun ys => ys = l) (fun pre => pre <+: l) l.length w := fun lp J Jx W hW hJ hJx hY h0 => by
  have hbW := hb.below hW hb.lt
  have hoW : OwnS W 137 8 v l.length (rcells l) := ho.kept (Keep.of_below (S := fun _ => False) hW (fun k h1 h2 => by omega)) (fun _ _ h => h)
  exact all1_in F n hF hro hn lp bx v l hlen J Jx (fun pre X o hs => hJ pre X _ none hs (World.grownBy_alloc X o none) (fun r e => by cases e)) hY W (hbW.cell_ 0 rfl) hoW h0
/-- what All answers: a function over a list of its own -/
def AllP (l : List Rec) (w : World) (e : Ending) (w' : World) : Prop :=
  ∃ b v', e = .returned (.func (.func 126) #[] #[.pointer (some ⟨b, 0, none⟩)]) ∧ Blk w' b 133 #[v'] ∧ OwnS w' 137 8 v' l.length (rcells l) ∧ Fresh w w' ∧ w.heap.size ≤ b ∧ ∀ k, v'.ownBlock = some k → w.heap.size ≤ k
theorem oall_any (g : Nat) (v : Value) (l : List Rec) (w : World) (h : OQ w g v l) (hl : l.length ≤ 100000) :
    Calls Tryz.prog 87 #[.pointer (some ⟨g, 0, none⟩)] w (AllP l w) := by
  have F0 : Fresh w (w.alloc (.cells #[.slice none 0 0] 133)) := (Keep.refl _ w).alloc _
  have B0 := Lib.hid (Blk.new w 133 #[.slice none 0 0])
  have H1 := Lib.hid (orclone_any v l.length (rcells l) _ (h.own.fresh F0) (rcells_one _) (by omega))
  have cq := (h.fresh F0).blk.cell
  have lq := h.blk.lt
  have HF0 := Lib.hid F0
  obtain ⟨A, cap, rfl, _, _⟩ := h.own.shape
  clear h F0
  go_enter Tryz.func87, Tryz.ntmps87
  go_wp2_with fail
  refine H1.out.mono ?_
  rintro e w1 ⟨v1, rfl, o1, f1, n1⟩
  obtain ⟨A1, cap1, rfl, _, _⟩ := o1.shape
  have b1 := f1.blk_ B0.out
  have hne : (Value.slice A1 l.length cap1).ownBlock ≠ some w.heap.size := o1.ne_blk b1 (by decide)
  have O1 : Hid (OwnS (w1.setCell ⟨w.heap.size, 0, none⟩ (.slice A1 l.length cap1)) 137 8 (.slice A1 l.length cap1) l.length (rcells l)) := Lib.hid (o1.far (p := ⟨w.heap.size, 0, none⟩) hne (.slice A1 l.length cap1))
  have B1 : Hid (Blk (w1.setCell ⟨w.heap.size, 0, none⟩ (.slice A1 l.length cap1)) w.heap.size 133 #[.slice A1 l.length cap1]) := Lib.hid (by simpa using b1.set_ 0 (.slice A1 l.length cap1))
  have F1 : Hid (Fresh w (w1.setCell ⟨w.heap.size, 0, none⟩ (.slice A1 l.length cap1))) := Lib.hid ((HF0.out.step f1 (fun _ _ h => h)).setCell (p := ⟨w.heap.size, 0, none⟩) (fun h => by simp at h) (.slice A1 l.length cap1))
  have N1 := Lib.hid n1
  have c1 := b1.cell
  have l1 := b1.lt
  have r1 := b1.frozen
  have sz := f1.size
  clear o1 f1 n1 b1 hne HF0
  go_wp2_with fail
  go_ret
  refine ⟨_, _, rfl, B1.out, O1.out, F1.out, Nat.le_refl _, fun k hk => ?_⟩
  have := N1.out k hk
  simp at this
  omega
theorem all_nil (w : World) : Calls Tryz.prog 87 #[.pointer none] w (AllP [] w) := by
  go_enter Tryz.func87, Tryz.ntmps87
  go_wp2_with fail
  go_ret
  exact ⟨_, _, rfl, Blk.new w _ _, OwnS.nil _ _ _, (Keep.refl _ w).alloc _, Nat.le_refl _, by simp [Value.ownBlock]⟩
end Go.Proofs.YthbcdkeammhakaaGreat

/-
  outq.Queue's take: what holds of its lists from round to round.
-/
namespace Go.Proofs.YthbcdkeammhakaaGreat
open Go.RowKit Go.Shelf

/-- what a message tells: an event, and whether it is an anti -/
abbrev OMsg := Rec
theorem info_msg : (Tryz.prog.info? 43).map (fun i => (i.zero, i.size, i.bytes)) = some (some (.agg #[.int .i64 0, .int .i64 0, .int .i64 0, .int .i64 0, .int .i64 0, .int .i64 0, .int .i64 0, .bool false]), 8, 64) := by kernel_rfl
def antis (p : Rec → Bool) (l : List Rec) : List OMsg := (l.filter p).map (fun r => (r.1, true))
def stay (p : Rec → Bool) (l : List Rec) : List Rec := l.filter (fun r => !p r)
theorem antis_snoc (p : Rec → Bool) (pre : List Rec) (y : Rec) : antis p (pre ++ [y]) = antis p pre ++ (if p y then [(y.1, true)] else []) := by
  unfold antis
  rw [List.filter_append, List.map_append]
  congr 1
  cases h : p y <;> simp [List.filter, h]
theorem stay_snoc (p : Rec → Bool) (pre : List Rec) (y : Rec) : stay p (pre ++ [y]) = stay p pre ++ (if p y then [] else [y]) := by
  unfold stay
  rw [List.filter_append]
  congr 1
  cases h : p y <;> simp [List.filter, h]
theorem antis_le (p : Rec → Bool) (l : List Rec) : (antis p l).length ≤ l.length := by
  unfold antis
  rw [List.length_map]
  exact List.length_filter_le _ _
theorem stay_le (p : Rec → Bool) (l : List Rec) : (stay p l).length ≤ l.length := List.length_filter_le _ _
/-- a list in a block, its cells from B on -/
def Boxed (W : World) (b : Nat) (t e : TypeId) (B : Nat) (l : List Rec) : Prop := ∃ v, Blk W b t #[v] ∧ OwnS W e 8 v l.length (rcells l) ∧ ∀ k, v.ownBlock = some k → B ≤ k
structure TInv (p : Rec → Bool) (fv : Value) (w : World) (B : Nat) (pre : List Rec) (W : World) : Prop where
  f : Fresh w W
  sz : B ≤ W.heap.size
  bf : Blk W w.heap.size 145 #[fv]
  a : Boxed W (w.heap.size + 1) 35 43 B (antis p pre)
  r : Boxed W (w.heap.size + 2) 133 137 B (stay p pre)
section
variable {p : Rec → Bool} {fv : Value} {w X Y W : World} {B B' b : Nat} {t e : TypeId} {l pre : List Rec} {row : Option Nat}
theorem Boxed.grown (h : Boxed X b t e B l) (hg : X.grownBy Y row) (hr : ∀ r, row = some r → ∃ o : Obj, X.heap[r]? = some o ∧ o.isCells = false) : Boxed Y b t e B l := by
  obtain ⟨v, h1, h2, h3⟩ := h
  exact ⟨v, blk_grown h1 hg hr, ownS_grown h2 hg hr, h3⟩
theorem Boxed.fresh (h : Boxed X b t e B l) (f : Fresh X Y) : Boxed Y b t e B l := by
  obtain ⟨v, h1, h2, h3⟩ := h
  exact ⟨v, f.blk_ h1, h2.fresh f, h3⟩
theorem TInv.own (hB : w.heap.size ≤ B') (h : TInv p fv w B pre X) (hg : X.grownBy Y row) (hr : ∀ r, row = some r → B' ≤ r ∧ ∃ o : Obj, X.heap[r]? = some o ∧ o.isCells = false) : TInv p fv w B pre Y := by
  have hr' : ∀ r, row = some r → ∃ o : Obj, X.heap[r]? = some o ∧ o.isCells = false := fun r e => (hr r e).2
  exact ⟨ownFrom_fresh (β := Unit) hB () X Y row h.f hg hr, Nat.le_trans h.sz hg.size, blk_grown h.bf hg hr', h.a.grown hg hr', h.r.grown hg hr'⟩
theorem TInv.fresh (h : TInv p fv w B pre X) (f : Fresh X Y) : TInv p fv w B pre Y :=
  ⟨h.f.step f (fun _ _ h => h), Nat.le_trans h.sz f.size, f.blk_ h.bf, h.a.fresh f, h.r.fresh f⟩
end
/-- what take answers, and what it leaves -/
def TakeP (g : Nat) (v : Value) (l : List Rec) (p : Rec → Bool) (w : World) (e : Ending) (w' : World) : Prop :=
  ∃ va v', e = .returned va ∧ OwnS w' 43 8 va (antis p l).length (rcells (antis p l)) ∧ OQ w' g v' (stay p l) ∧ OTurn w w' g v v' ∧ ∀ k, va.ownBlock = some k → w.heap.size ≤ k
theorem OQ.grown {X Y : World} {row : Option Nat} {g : Nat} {v : Value} {l : List Rec} (h : OQ X g v l) (hg : X.grownBy Y row) (hr : ∀ r, row = some r → ∃ o : Obj, X.heap[r]? = some o ∧ o.isCells = false) : OQ Y g v l :=
  ⟨blk_grown h.blk hg hr, ownS_grown h.own hg hr, h.srt⟩
theorem OTurn.grown {w X Y : World} {row : Option Nat} {g : Nat} {v v' : Value} (h : OTurn w X g v v') (hg : X.grownBy Y row) (hr : ∀ r, row = some r → w.heap.size ≤ r) : OTurn w Y g v v' :=
  ⟨⟨hg.os.trans h.keep.os, hg.tape.trans h.keep.tape, hg.output.trans h.keep.output, Nat.le_trans h.keep.size hg.size, fun k hk hs =>
    (hg.block k (Nat.lt_of_lt_of_le hk h.keep.size) (fun e => by have := hr k e.symm; omega)).trans (h.keep.block k hk hs)⟩, h.later⟩
theorem RSrt.stay {l : List Rec} (h : RSrt l) (p : Rec → Bool) : RSrt (stay p l) := List.Pairwise.sublist List.filter_sublist h
end Go.Proofs.YthbcdkeammhakaaGreat

/-
  outq.Queue's take, at what Flush takes.
-/
namespace Go.Proofs.YthbcdkeammhakaaGreat
open Go.RowKit Go.Shelf
attribute [local go_sem] Oper.semAt_some
attribute [local go_sem ↓] Go.wp_at_zero Go.wp_at_succ

set_option maxRecDepth 100000 in
set_option maxHeartbeats 8000000 in
theorem take_anyFlush (g : Nat) (v : Value) (l : List Rec) (p : Rec → Bool) (x1 : Nat) (w : World) (h : OQ w g v l) (hl : l.length ≤ 100000)
    (hp : ∀ W r, Fresh w W → Calls Tryz.prog 101 #[Rec.val r, .pointer (some ⟨x1, 0, none⟩)] W fun e w' => e = .returned (.bool (p r)) ∧ Fresh W w') :
    Calls Tryz.prog 94 #[.pointer (some ⟨g, 0, none⟩), .func (.func 101) #[] #[.pointer (some ⟨x1, 0, none⟩)]] w (TakeP g v l p w) := by
  have HQ := Lib.hid h
  unfold Rec.val at hp
  have HP := Lib.hid hp
  obtain ⟨W0, hW0⟩ : ∃ W0, ((w.alloc (.cells #[.func (.func 101) #[] #[.pointer (some ⟨x1, 0, none⟩)]] 145)).alloc (.cells #[.slice none 0 0] 35)).alloc (.cells #[.slice none 0 0] 133) = W0 := ⟨_, rfl⟩
  have F0 : Fresh w W0 := hW0 ▸ (((Keep.refl _ w).alloc _).alloc _).alloc _
  have B0 : Blk W0 w.heap.size 145 #[.func (.func 101) #[] #[.pointer (some ⟨x1, 0, none⟩)]] := hW0 ▸ ((Blk.new w _ _).alloc _).alloc _
  have B1 : Blk W0 (w.heap.size + 1) 35 #[.slice none 0 0] := hW0 ▸ (Blk.at_new (by simp) _ _).alloc _
  have B2 : Blk W0 (w.heap.size + 2) 133 #[.slice none 0 0] := hW0 ▸ Blk.at_new (by simp) _ _
  have HA := Lib.hid (oall_any g v l W0 (h.fresh F0) hl)
  have KF := Lib.hid F0
  have KB0 := Lib.hid B0
  have KB1 := Lib.hid B1
  have KB2 := Lib.hid B2
  obtain ⟨i0, hi, hz0, hz1, hz2⟩ := info_parts info_rec
  obtain ⟨i1, hi1, hy0, hy1, hy2⟩ := info_parts info_msg
  clear h hp F0 B0 B1 B2
  refine (callsIn_wide (n := 6)).1 ?_
  refine callsIn_of_wp_marks Tryz.func94 rfl trivial ?_ rfl
  simp only [Tryz.ntmps94, List.size_toArray, List.length_cons, List.length_nil, Nat.reduceAdd, Nat.reduceSub, Array.replicate_succ, Array.replicate_zero, List.push_toArray, List.append_toArray, List.nil_append, List.cons_append]
  refine wpIn_wide.2 ?_
  go_wp2_with (go_at_call 87; (with_reducible refine HA.out.mono ?_); rintro e w1 ⟨b1, v1, rfl, B1, O1, F1, N1, M1⟩)
  have hbk : bk v1 < w1.heap.size := by
    unfold bk
    cases hv : v1.ownBlock with
    | none => have := B1.lt; simp; omega
    | some k => simpa using O1.lt hv
  have KO := Lib.hid O1
  have KB := Lib.hid B1
  have T0 : Hid (TInv p (.func (.func 101) #[] #[.pointer (some ⟨x1, 0, none⟩)]) w w1.heap.size [] w1) := Lib.hid ⟨KF.out.step F1 (fun _ _ h => h), Nat.le_refl _, F1.blk_ KB0.out, ⟨_, F1.blk_ KB1.out, OwnS.nil _ _ _, by simp [Value.ownBlock]⟩, ⟨_, F1.blk_ KB2.out, OwnS.nil _ _ _, by simp [Value.ownBlock]⟩⟩
  have szF := (KF.out.step F1 (fun _ _ h => h)).size
  clear O1 B1 F1 N1 M1 KF KB0 KB1 KB2 HA hW0
  refine (wpIn_wide (n := 6)).1 ?_
  refine wpIn_rangeFunc_ownH rfl (by omega) (gf := 126) (lb := #[.pointer (some ⟨b1, 0, none⟩)]) rfl trivial (enters_of Tryz.func126 (by kernel_rfl) rfl)
    (all_stops Fence.wide (6 - 1) trivial rfl (by omega) b1 v1 l (by omega) w1 KB.out KO.out) keepsB_t keepsB_b (Below.refl _ _) (fun _ => rfl)
    (TInv p (.func (.func 101) #[] #[.pointer (some ⟨x1, 0, none⟩)]) w w1.heap.size) (fun _ _ _ => False) (fun pre X Y row hs hg hr => hs.own (by omega) hg hr) (fun _ _ _ _ _ hs _ _ => hs)
    T0.out
    (fun y a' W => ∃ Bx, Blk W Bx 41 #[.int .i64 y.1.a, .int .i64 y.1.s, .int .i64 y.1.t, .int .i64 y.1.n, .int .i64 y.1.d, .int .i64 y.1.k, .int .i64 y.1.x] ∧ a' = { tmps := #[.pointer (some ⟨g, 0, none⟩), .func (.func 101) #[] #[.pointer (some ⟨x1, 0, none⟩)], undef, .pointer (some ⟨w.heap.size, 0, none⟩), .slice none 0 0, .pointer (some ⟨w.heap.size + 1, 0, none⟩), .pointer (some ⟨w.heap.size + 1 + 1, 0, none⟩), .pointer (some ⟨Bx, 0, none⟩), .bool y.2, undef, .pointer (some ⟨g, 0, none⟩), .func (.func 126) #[] #[.pointer (some ⟨b1, 0, none⟩)], .agg #[.int .i64 y.1.a, .int .i64 y.1.s, .int .i64 y.1.t, .int .i64 y.1.n, .int .i64 y.1.d, .int .i64 y.1.k, .int .i64 y.1.x], .bool y.2, undef, undef, undef, undef, undef, undef, undef, undef, undef, undef, undef, undef, undef, undef, undef, undef, undef, undef, undef, undef], defers := [] }) ?ax ?assign ?body ?done ?stop
  case ax =>
    rintro x a' u X Y row ⟨Bx, h2, h3⟩ hg hr
    exact ⟨Bx, blk_grown h2 hg (fun r e => (hr r e).2), h3⟩
  case assign =>
    rintro lp pre y W K f hK
    unfold oenc Ev.val
    gi_wp2
    refine hK _ _ ((KeepsOthers.alloc _ _).from _) ((KeepsB.refl _ _ _).alloc _) (f.fresh ((Keep.refl _ _).alloc _)) ⟨W.heap.size, Blk.new W _ _, rfl⟩
  case body =>
    rintro lp pre y a' W hlp hrec ⟨f2, sz, bf, ⟨va, ba, oa, na⟩, ⟨vr, br, orr, nr⟩⟩ ⟨Bx, bx, rfl⟩ hlt
    obtain ⟨A2, cap2, rfl, _, _⟩ := oa.shape
    obtain ⟨A3, cap3, rfl, _, _⟩ := orr.shape
    have al := antis_le p pre
    have rl := stay_le p pre
    have hL1 := Lib.hid (show (antis p pre).length + 1 ≤ maxLen from one_le_maxLen (by omega))
    have hL2 := Lib.hid (show ((antis p pre).length + 1) * 64 ≤ 140737488355328 by omega)
    have hM1 := Lib.hid (show (stay p pre).length + 1 ≤ maxLen from one_le_maxLen (by omega))
    have hM2 := Lib.hid (show ((stay p pre).length + 1) * 64 ≤ 140737488355328 by omega)
    have HFA := Lib.hid (antis_snoc p pre y)
    have HFR := Lib.hid (stay_snoc p pre y)
    obtain ⟨P, hP⟩ : ∃ P, antis p pre = P := ⟨_, rfl⟩
    obtain ⟨R, hR⟩ : ∃ R, stay p pre = R := ⟨_, rfl⟩
    rw [hP] at ba oa na hL1 hL2 HFA
    rw [hR] at br orr nr hM1 hM2 HFR
    clear hP hR al rl
    have h08 : Hid (0 < 8) := Lib.hid (by omega)
    have cX := bx.cell
    have cF := bf.cell
    have lF := bf.lt
    have lX := bx.lt
    have c2 := ba.cell
    have c3 := br.cell
    have UX := Lib.hid bx
    have UA := Lib.hid ba
    have UB := Lib.hid oa
    have UC := Lib.hid na
    have UD := Lib.hid br
    have UE := Lib.hid orr
    have UF := Lib.hid nr
    have UG := Lib.hid f2
    have UH := Lib.hid bf
    have SZ := Lib.hid sz
    clear bx ba oa na br orr nr f2 bf hrec hlt sz
    have HPY := Lib.hid (HP.out (W.alloc (.cells #[.int .i64 y.1.a, .int .i64 y.1.s, .int .i64 y.1.t, .int .i64 y.1.n, .int .i64 y.1.d, .int .i64 y.1.k, .int .i64 y.1.x, .bool y.2] 137)) y (UG.out.alloc _))
    have BR := Lib.hid (Blk.new W 137 #[.int .i64 y.1.a, .int .i64 y.1.s, .int .i64 y.1.t, .int .i64 y.1.n, .int .i64 y.1.d, .int .i64 y.1.k, .int .i64 y.1.x, .bool y.2])
    cases hq : p y
    · rw [hq] at HFA HFR HPY
      clear hq
      gi_wp2_with (first
        | (refine ⟨trivial, ?_⟩; gi_at_call 101; go_loud (refine (CallsIn.inRound lp (callsIn_wide.2 HPY.out)).mono ?_; rintro e w3 ⟨rfl, f3⟩; have g3 : Hid (Fresh W w3) := Lib.hid (((Keep.refl (fun _ => False) W).alloc _).step f3 (fun _ _ h => h)); have bx3 := g3.out.blk_ UX.out; have br3 := g3.out.blk_ UD.out; have bR3 := f3.blk_ BR.out; have cX3 := bx3.cell; have cR3 := bR3.cell; have cB3 := br3.cell; have lX3 := bx3.lt; have lR3 := bR3.lt; have lB3 := br3.lt; have O3 := Lib.hid (UE.out.fresh g3.out); have B3 := Lib.hid br3; have HC : Hid (Src (w3.alloc (.cells #[.int .i64 y.1.a, .int .i64 y.1.s, .int .i64 y.1.t, .int .i64 y.1.n, .int .i64 y.1.d, .int .i64 y.1.k, .int .i64 y.1.x, .bool y.2] 137)) 8 (.slice (some ⟨w3.heap.size, 0, none⟩) 1 1) 1 (rcells [y])) := Lib.hid (Src.one_new w3 137 8 #[.int .i64 y.1.a, .int .i64 y.1.s, .int .i64 y.1.t, .int .i64 y.1.n, .int .i64 y.1.d, .int .i64 y.1.k, .int .i64 y.1.x, .bool y.2] rfl); clear f3 bx3 br3 bR3))
        | (gi_at_builtin; go_loud (refine wpListIn_append_OwnS _ rfl _ _ 133 rfl 137 i0 _ 8 64 Tryz.underlying133 hi hz0 hz1 hz2 rfl h08.out (.slice A3 R.length cap3) R.length (rcells R) rfl (O3.out.alloc _) (.slice (some ⟨w3.heap.size, 0, none⟩) 1 1) 1 (rcells [y]) rfl HC.out (rcells_one _) hM1.out hM2.out ?_; intro v4 w4 o4 k4 n4; obtain ⟨A4, cap4, rfl, _, _⟩ := o4.shape; have b4 := (B3.out.alloc (.cells #[.int .i64 y.1.a, .int .i64 y.1.s, .int .i64 y.1.t, .int .i64 y.1.n, .int .i64 y.1.d, .int .i64 y.1.k, .int .i64 y.1.x, .bool y.2] 137)).keep k4 (O3.out.ne_blk B3.out (by decide)); have c4 := b4.cell; have r4 := b4.frozen; have l4 := b4.lt; have V1 := Lib.hid b4; have V2 := Lib.hid o4; have V3 := Lib.hid k4; have V4 := Lib.hid n4; have V5 := Lib.hid g3.out; clear b4 o4 k4 n4)))


      have K1 : Hid (Keep (fun k => k = w.heap.size + 2 ∨ (Value.slice A3 R.length cap3).ownBlock = some k) W (w4.setCell ⟨w.heap.size + 2, 0, none⟩ (.slice A4 (R.length + 1) cap4))) := Lib.hid
        ((((V5.out.more (fun _ _ h => h.elim)).alloc _).step V3.out (fun _ _ h => .inr h)).setCell (p := ⟨w.heap.size + 2, 0, none⟩) (fun _ => .inl rfl) _)
      have NB : Hid (Boxed (w4.setCell ⟨w.heap.size + 2, 0, none⟩ (.slice A4 (R.length + 1) cap4)) (w.heap.size + 2) 133 137 w1.heap.size (R ++ [y])) := Lib.hid (by
        refine ⟨_, by simpa using V1.out.set_ 0 (.slice A4 (R.length + 1) cap4), ?_, ?_⟩
        · have := V2.out.far (p := ⟨w.heap.size + 2, 0, none⟩) (V2.out.ne_blk V1.out (by decide)) (.slice A4 (R.length + 1) cap4)
          simp only [List.length_append, rcells_append, List.length_cons, List.length_nil, Nat.zero_add]
          exact this
        · intro k hk
          rcases V4.out k hk with h | h
          · exact UF.out k h
          · have := V5.out.size
            have := SZ.out
            simp at h
            omega)
      refine ⟨(keepsOthers_of_keep K1.out ?_).from _, KeepsB.of_keep' K1.out ?_, ⟨UG.out.step K1.out ?_, Nat.le_trans SZ.out K1.out.size, UH.out.keep K1.out ?_, by rw [HFA.out]; simp only [Bool.false_eq_true, if_false, List.append_nil]; exact ⟨_, UA.out.keep K1.out (by rintro (h | h) ; (· omega); (· exact (UE.out.ne_blk UA.out (by decide)) h)), UB.out.kept K1.out (fun i hi h => by rcases h with rfl | h; (· exact (UB.out.ne_blk UD.out (by decide)) hi); (· exact UB.out.ne_own UE.out (by decide) i hi h)), UC.out⟩, by rw [HFR.out]; exact NB.out⟩⟩
      · rintro k o (rfl | hk) ho
        · exact blk_isCells UD.out ho
        · exact own_isCells UE.out hk ho
      · rintro cur hcur (h | h)
        · rw [h] at hcur
          have := UD.out
          unfold Blk at this
          rw [this] at hcur
          cases hcur
        · have := UF.out _ h
          omega
      · rintro k hk (h | h)
        · omega
        · have := UF.out k h
          omega
      · rintro (h | h)
        · omega
        · exact (UE.out.ne_blk UH.out (by decide)) h
    · rw [hq] at HFA HFR HPY
      clear hq
      gi_wp2_with (first
        | (refine ⟨trivial, ?_⟩; gi_at_call 101; go_loud (refine (CallsIn.inRound lp (callsIn_wide.2 HPY.out)).mono ?_; rintro e w3 ⟨rfl, f3⟩; have g3 : Hid (Fresh W w3) := Lib.hid (((Keep.refl (fun _ => False) W).alloc _).step f3 (fun _ _ h => h)); have bx3 := g3.out.blk_ UX.out; have br3 := g3.out.blk_ UA.out; have bR3 := f3.blk_ BR.out; have cX3 := bx3.cell; have cR3 := bR3.cell; have cB3 := br3.cell; have lX3 := bx3.lt; have lR3 := bR3.lt; have lB3 := br3.lt; have O3 := Lib.hid (UB.out.fresh g3.out); have B3 := Lib.hid br3; have HC : Hid (Src (w3.alloc (.cells #[.int .i64 y.1.a, .int .i64 y.1.s, .int .i64 y.1.t, .int .i64 y.1.n, .int .i64 y.1.d, .int .i64 y.1.k, .int .i64 y.1.x, .bool true] 43)) 8 (.slice (some ⟨w3.heap.size, 0, none⟩) 1 1) 1 (rcells [(y.1, true)])) := Lib.hid (Src.one_new w3 43 8 #[.int .i64 y.1.a, .int .i64 y.1.s, .int .i64 y.1.t, .int .i64 y.1.n, .int .i64 y.1.d, .int .i64 y.1.k, .int .i64 y.1.x, .bool true] rfl); clear f3 bx3 br3 bR3))
        | (gi_at_builtin; go_loud (refine wpListIn_append_OwnS _ rfl _ _ 35 rfl 43 i1 _ 8 64 Tryz.underlying35 hi1 hy0 hy1 hy2 rfl h08.out (.slice A2 P.length cap2) P.length (rcells P) rfl (O3.out.alloc _) (.slice (some ⟨w3.heap.size, 0, none⟩) 1 1) 1 (rcells [(y.1, true)]) rfl HC.out (rcells_one _) hL1.out hL2.out ?_; intro v4 w4 o4 k4 n4; obtain ⟨A4, cap4, rfl, _, _⟩ := o4.shape; have b4 := (B3.out.alloc (.cells #[.int .i64 y.1.a, .int .i64 y.1.s, .int .i64 y.1.t, .int .i64 y.1.n, .int .i64 y.1.d, .int .i64 y.1.k, .int .i64 y.1.x, .bool true] 43)).keep k4 (O3.out.ne_blk B3.out (by decide)); have c4 := b4.cell; have r4 := b4.frozen; have l4 := b4.lt; have V1 := Lib.hid b4; have V2 := Lib.hid o4; have V3 := Lib.hid k4; have V4 := Lib.hid n4; have V5 := Lib.hid g3.out; clear b4 o4 k4 n4)))
      have K1 : Hid (Keep (fun k => k = w.heap.size + 1 ∨ (Value.slice A2 P.length cap2).ownBlock = some k) W (w4.setCell ⟨w.heap.size + 1, 0, none⟩ (.slice A4 (P.length + 1) cap4))) := Lib.hid
        ((((V5.out.more (fun _ _ h => h.elim)).alloc _).step V3.out (fun _ _ h => .inr h)).setCell (p := ⟨w.heap.size + 1, 0, none⟩) (fun _ => .inl rfl) _)
      have NB : Hid (Boxed (w4.setCell ⟨w.heap.size + 1, 0, none⟩ (.slice A4 (P.length + 1) cap4)) (w.heap.size + 1) 35 43 w1.heap.size (P ++ [(y.1, true)])) := Lib.hid (by
        refine ⟨_, by simpa using V1.out.set_ 0 (.slice A4 (P.length + 1) cap4), ?_, ?_⟩
        · have := V2.out.far (p := ⟨w.heap.size + 1, 0, none⟩) (V2.out.ne_blk V1.out (by decide)) (.slice A4 (P.length + 1) cap4)
          simp only [List.length_append, rcells_append, List.length_cons, List.length_nil, Nat.zero_add]
          exact this
        · intro k hk
          rcases V4.out k hk with h | h
          · exact UC.out k h
          · have := V5.out.size
            have := SZ.out
            simp at h
            omega)
      refine ⟨(keepsOthers_of_keep K1.out ?_).from _, KeepsB.of_keep' K1.out ?_, ⟨UG.out.step K1.out ?_, Nat.le_trans SZ.out K1.out.size, UH.out.keep K1.out ?_, by rw [HFA.out]; exact NB.out, by rw [HFR.out]; simp only [if_true, List.append_nil]; exact ⟨_, UD.out.keep K1.out (by rintro (h | h) ; (· omega); (· exact (UB.out.ne_blk UD.out (by decide)) h)), UE.out.kept K1.out (fun i hi h => by rcases h with rfl | h; (· exact (UE.out.ne_blk UA.out (by decide)) hi); (· exact UE.out.ne_own UB.out (by decide) i hi h)), UF.out⟩⟩⟩
      · rintro k o (rfl | hk) ho
        · exact blk_isCells UA.out ho
        · exact own_isCells UB.out hk ho
      · rintro cur hcur (h | h)
        · rw [h] at hcur
          have := UA.out
          unfold Blk at this
          rw [this] at hcur
          cases hcur
        · have := UC.out _ h
          omega
      · rintro k hk (h | h)
        · omega
        · have := UC.out k h
          omega
      · rintro (h | h)
        · omega
        · exact (UB.out.ne_blk UH.out (by decide)) h
  case done =>
    rintro D ys W hD rfl ⟨f2, sz, bf, ⟨va, ba, oa, na⟩, ⟨vr, br, orr, nr⟩⟩ hK
    obtain ⟨A2, cap2, rfl, _, _⟩ := oa.shape
    obtain ⟨A3, cap3, rfl, _, _⟩ := orr.shape
    have Q := HQ.out.fresh f2
    obtain ⟨q4, t4⟩ := HQ.out.put (S := fun _ => False) orr (HQ.out.srt.stay p) f2 (fun _ h => h.elim) (fun i hi => .inr (by have := nr i hi; omega))
    have OA := Lib.hid (oa.far (p := ⟨g, 0, none⟩) (oa.ne_blk Q.blk (by decide)) (.slice A3 (stay p ys).length cap3))
    have bA := ba.far (p := ⟨g, 0, none⟩) (show w.heap.size + 1 ≠ g by have := HQ.out.blk.lt; omega) (.slice A3 (stay p ys).length cap3)
    have hDl := (Array.getElem?_eq_some_iff.1 hK).1
    have hDg : ¬ D = g := by have := HQ.out.blk.lt; omega
    have cQ := Q.blk.cell
    have rQ := Q.blk.frozen
    have lQ := Q.blk.lt
    have cR := br.cell
    have cA := bA.cell
    have KK : Hid ((W.setCell ⟨g, 0, none⟩ (.slice A3 (stay p ys).length cap3)).heap[D]? = some (.deferred (some []))) := Lib.hid (((Keep.setCell (S := fun k => k = g) (Keep.refl _ W) (p := ⟨g, 0, none⟩) (fun _ => rfl) (.slice A3 (stay p ys).length cap3)).block D hDl hDg).trans hK)
    have Q4 := Lib.hid q4
    have T4 := Lib.hid t4
    have NA := Lib.hid na
    have HD := Lib.hid hD
    clear q4 t4 oa orr ba br bA na nr bf sz f2 Q hK hDl hDg hD
    obtain ⟨N, hN⟩ : ∃ N, (stay p ys).length = N := ⟨_, rfl⟩
    obtain ⟨M, hM⟩ : ∃ M, (antis p ys).length = M := ⟨_, rfl⟩
    rw [hN] at OA cR cA KK Q4 T4
    rw [hM] at OA cA NA
    have HN := Lib.hid hN
    have HM := Lib.hid hM
    clear hN hM
    go_wp2_with fail
    refine ⟨by simp, .inl ⟨_, _, rfl, run_takeDeferred KK.out, ?_⟩⟩
    have hr : ∀ r, some D = some r → ∃ o : Obj, (W.setCell ⟨g, 0, none⟩ (.slice A3 N cap3)).heap[r]? = some o ∧ o.isCells = false := fun r e => by cases e; exact ⟨_, KK.out, rfl⟩
    have hg := grownBy_putObj' (W.setCell ⟨g, 0, none⟩ (.slice A3 N cap3)) D (.deferred none)
    have hm := HM.out
    subst hm
    exact ⟨_, results_tmp rfl _ _ _, .slice A2 (antis p ys).length cap2, .slice A3 N cap3, rfl, ownS_grown OA.out hg hr, Q4.out.grown hg hr, T4.out.grown hg (fun r e => by cases e; have := HD.out; omega), fun k hk => by have := NA.out k hk; omega⟩
  case stop =>
    rintro D c pre W _ _ h _
    exact h.elim
end Go.Proofs.YthbcdkeammhakaaGreat
