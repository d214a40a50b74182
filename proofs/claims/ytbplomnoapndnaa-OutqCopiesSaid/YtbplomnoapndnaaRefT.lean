/-
  The document's answer: take.
-/
import Derived.Test.YtbplomnoapndnaaRefQ
namespace Go.Proofs.Ytbplomnoapndnaa
open Go.RowKit
attribute [local go_sem ↓] Go.wp_at_zero Go.wp_at_succ

/-- three lists of a call's own -/
structure T3 (W0 : World) (G L S : List Rec) (v9 v10 v11 : Value) (wr : World) : Prop where
  f : Fresh W0 wr
  o9 : OwnS wr 44 7 v9 G.length (cells (evs G))
  o10 : OwnS wr 44 7 v10 L.length (cells (evs L))
  o11 : OwnS wr 4 1 v11 S.length (bools S)
  n9 : ∀ k, v9.ownBlock = some k → W0.heap.size ≤ k
  n10 : ∀ k, v10.ownBlock = some k → W0.heap.size ≤ k
  n11 : ∀ k, v11.ownBlock = some k → W0.heap.size ≤ k
  dis : ∀ k, v9.ownBlock = some k → v10.ownBlock ≠ some k
section
variable {W0 wr w2 W : World} {G L S : List Rec} {v9 v10 v11 v' : Value} {y : Rec}
theorem T3.fresh (h : T3 W0 G L S v9 v10 v11 wr) (f : Fresh wr w2) : T3 W0 G L S v9 v10 v11 w2 :=
  ⟨h.f.step f (fun _ _ h => h), h.o9.fresh f, h.o10.fresh f, h.o11.fresh f, h.n9, h.n10, h.n11, h.dis⟩
theorem T3.app9 (h : T3 W0 G L S v9 v10 v11 wr) (o : OwnS w2 44 7 v' (G.length + 1) (cells (evs G) ++ cells [y.1])) (k : Keep (fun k => v9.ownBlock = some k) wr w2) (n : ∀ i, v'.ownBlock = some i → v9.ownBlock = some i ∨ wr.heap.size ≤ i) : T3 W0 (G ++ [y]) L S v' v10 v11 w2 := by
  refine ⟨h.f.step k (fun i hi e => by have := h.n9 i e; omega), by rw [List.length_append, evs_append, cells_append]; exact o, h.o10.kept k (fun i h1 h2 => h.dis i h2 h1), h.o11.kept k (fun i h1 h2 => h.o9.ne_own h.o11 (by decide) i h2 h1), fun i hi => ?_, h.n10, h.n11, fun i h1 h2 => ?_⟩
  · rcases n i hi with h1 | h1
    · exact h.n9 i h1
    · have := h.f.size; omega
  · rcases n i h1 with h3 | h3
    · exact h.dis i h3 h2
    · have := h.o10.lt h2; omega
theorem T3.app10 (h : T3 W0 G L S v9 v10 v11 wr) (o : OwnS w2 44 7 v' (L.length + 1) (cells (evs L) ++ cells [y.1])) (k : Keep (fun k => v10.ownBlock = some k) wr w2) (n : ∀ i, v'.ownBlock = some i → v10.ownBlock = some i ∨ wr.heap.size ≤ i) : T3 W0 G (L ++ [y]) S v9 v' v11 w2 := by
  refine ⟨h.f.step k (fun i hi e => by have := h.n10 i e; omega), h.o9.kept k (fun i h1 h2 => h.dis i h1 h2), by rw [List.length_append, evs_append, cells_append]; exact o, h.o11.kept k (fun i h1 h2 => h.o10.ne_own h.o11 (by decide) i h2 h1), h.n9, fun i hi => ?_, h.n11, fun i h1 h2 => ?_⟩
  · rcases n i hi with h1 | h1
    · exact h.n10 i h1
    · have := h.f.size; omega
  · rcases n i h2 with h3 | h3
    · exact h.dis i h1 h3
    · have := h.o9.lt h1; omega
theorem T3.app11 (h : T3 W0 G L S v9 v10 v11 wr) (o : OwnS w2 4 1 v' (S.length + 1) (bools S ++ bools [y])) (k : Keep (fun k => v11.ownBlock = some k) wr w2) (n : ∀ i, v'.ownBlock = some i → v11.ownBlock = some i ∨ wr.heap.size ≤ i) : T3 W0 G L (S ++ [y]) v9 v10 v' w2 := by
  refine ⟨h.f.step k (fun i hi e => by have := h.n11 i e; omega), h.o9.kept k (fun i h1 h2 => h.o9.ne_own h.o11 (by decide) i h1 h2), h.o10.kept k (fun i h1 h2 => h.o10.ne_own h.o11 (by decide) i h1 h2), by rw [List.length_append, bools_append]; exact o, h.n9, h.n10, fun i hi => ?_, h.dis⟩
  rcases n i hi with h1 | h1
  · exact h.n11 i h1
  · have := h.f.size; omega
end
theorem evs_at' {q : List Rec} {i : Nat} {y : Rec} (h : q[i]? = some y) : (evs q)[i]? = some y.1 := by
  unfold evs
  rw [List.getElem?_map, h]
  rfl
def keepR (p : Rec → Bool) (R : List Rec) : List Rec := R.filter p
def goneR (p : Rec → Bool) (R : List Rec) : List Rec := R.filter (fun r => !p r)
theorem keepR_take (p : Rec → Bool) (R : List Rec) (i : Nat) (y : Rec) (h : R[i]? = some y) : keepR p (R.take (i + 1)) = keepR p (R.take i) ++ (if p y then [y] else []) := by
  unfold keepR
  rw [List.take_add_one, h, Option.toList_some, List.filter_append]
  congr 1
  cases hh : p y <;> simp [List.filter, hh]
theorem goneR_take (p : Rec → Bool) (R : List Rec) (i : Nat) (y : Rec) (h : R[i]? = some y) : goneR p (R.take (i + 1)) = goneR p (R.take i) ++ (if p y then [] else [y]) := by
  unfold goneR
  rw [List.take_add_one, h, Option.toList_some, List.filter_append]
  congr 1
  cases hh : p y <;> simp [List.filter, hh]
def RTakeP (g : Nat) (v1 v2 : Value) (p : Rec → Bool) (R : List Rec) (w : World) (e : Ending) (w' : World) : Prop :=
  ∃ vg v1' v2', e = .returned vg ∧ OwnS w' 44 7 vg (goneR p R).length (cells (evs (goneR p R))) ∧ RQ w' g v1' v2' (keepR p R) ∧ RTurn w w' g v1 v2 v1' v2' ∧ (∀ k, vg.ownBlock = some k → w.heap.size ≤ k) ∧ (∀ k, rfoot g v1' v2' k → k = g ∨ w.heap.size ≤ k) ∧ Keep (fun k => k = g) w w'
set_option maxHeartbeats 4000000 in
set_option maxRecDepth 100000 in
theorem rtake_any (g : Nat) (v1 v2 vs : Value) (p : Rec → Bool) (R : List Rec) (w : World) (h : RQ w g v1 v2 R) (hs : OwnS w 4 1 vs R.length (boolsP p R)) (hl : R.length ≤ 100000) :
    Calls Try.prog 65 #[.pointer (some ⟨g, 0, none⟩), vs] w (RTakeP g v1 v2 p R w) := by
  have H := Lib.hid h
  have HS := Lib.hid hs
  obtain ⟨A1, c1, rfl, hc1, hm1⟩ := h.o1.shape
  obtain ⟨A2, c2, rfl, hc2, hm2⟩ := h.o2.shape
  obtain ⟨As, cs, rfl, hcs, hms⟩ := hs.shape
  have hm1 : c1 ≤ 9223372036854775807 := by unfold maxLen at hm1; omega
  clear h hs
  obtain ⟨i0, hi, hz0, hz1, hz2⟩ := info_parts info_ev
  obtain ⟨i1, hi1, hy0, hy1, hy2⟩ := info_parts info_bool
  have h07 : Hid (0 < 7) := Lib.hid (by omega)
  have h01 : Hid (0 < 1) := Lib.hid (by omega)
  go_enter Try.func65, Try.ntmps65
  go_wp2_with fail
  go_loopg [5, 6, 7, 8] R.length (fun gk u5 u6 u7 u8 wr => ∃ (i : Nat) (v5 v6 v7 : Value), i ≤ R.length ∧ gk = R.length - i ∧ u5 = v5 ∧ u6 = v6 ∧ u7 = v7 ∧ u8 = .int .i64 i ∧ T3 w (goneR p (R.take i)) (keepR p (R.take i)) (keepR p (R.take i)) v5 v6 v7 wr)
  case atStart => exact ⟨0, _, _, _, by omega, rfl, rfl, rfl, rfl, rfl, ⟨Keep.refl _ _, OwnS.nil _ _ _, OwnS.nil _ _ _, OwnS.nil _ _ _, by simp [Value.ownBlock], by simp [Value.ownBlock], by simp [Value.ownBlock], by simp [Value.ownBlock]⟩⟩
  case round =>
    obtain ⟨i, v5, v6, v7, hi', rfl, rfl, rfl, rfl, rfl, hG⟩ := hrel
    have HG := Lib.hid hG
    have cQ := (H.out.fresh hG.f).blk.cell
    have lQ := (H.out.fresh hG.f).blk.lt
    obtain ⟨A5, c5, rfl, hc5, hm5⟩ := hG.o9.shape
    obtain ⟨A6, c6, rfl, hc6, hm6⟩ := hG.o10.shape
    obtain ⟨A7, c7, rfl, hc7, hm7⟩ := hG.o11.shape
    have hgl : (goneR p (R.take i)).length ≤ R.length := Nat.le_trans (List.length_filter_le _ _) (by rw [List.length_take]; omega)
    have hgr : (keepR p (R.take i)).length ≤ R.length := Nat.le_trans (List.length_filter_le _ _) (by rw [List.length_take]; omega)
    clear hG
    by_cases hlt : i < R.length
    · obtain ⟨y, hy⟩ : ∃ y, R[i]? = some y := ⟨_, List.getElem?_eq_getElem hlt⟩
      obtain ⟨g3, off3, _, hv3, hg3, _, _, hcc⟩ := (H.out.o1.fresh HG.out.f).form (by omega)
      injection hv3 with e1 e2 e3
      subst e1 e3
      obtain ⟨y0, y1, y2, y3, y4, y5, y6⟩ := cells_at (evs R) i y.1 (evs_at' hy)
      have y0 := hcc _ _ y0
      have y1 := hcc _ _ y1
      have y2 := hcc _ _ y2
      have y3 := hcc _ _ y3
      have y4 := hcc _ _ y4
      have y5 := hcc _ _ y5
      have y6 := hcc _ _ y6
      rw [← Nat.add_assoc] at y1 y2 y3 y4 y5 y6
      obtain ⟨g4, off4, _, hv4, hg4, _, _, hcb⟩ := (H.out.o2.fresh HG.out.f).form (by omega)
      injection hv4 with f1 f2 f3
      subst f1 f3
      have z0 := hcb _ _ (bools_at hy)
      obtain ⟨g5, off5, _, hv5, hg5, _, _, hcs'⟩ := (HS.out.fresh HG.out.f).form (by omega)
      injection hv5 with k1 k2 k3
      subst k1 k3
      have s0 := hcs' _ _ (boolsP_at hy)
      have HT := Lib.hid (keepR_take p R i y hy)
      have HR := Lib.hid (goneR_take p R i y hy)
      have S2 : Hid (∀ W : World, Src (W.alloc (.cells #[.int .i64 y.1.a, .int .i64 y.1.s, .int .i64 y.1.t, .int .i64 y.1.n, .int .i64 y.1.d, .int .i64 y.1.k, .int .i64 y.1.x] 44)) 7 (.slice (some ⟨W.heap.size, 0, none⟩) 1 1) 1 (cells [y.1])) := Lib.hid (fun W => Src.one_new W 44 7 #[.int .i64 y.1.a, .int .i64 y.1.s, .int .i64 y.1.t, .int .i64 y.1.n, .int .i64 y.1.d, .int .i64 y.1.k, .int .i64 y.1.x] rfl)
      have S1 : Hid (∀ W : World, Src (W.alloc (.cells #[.bool y.2] 4)) 1 (.slice (some ⟨W.heap.size, 0, none⟩) 1 1) 1 (bools [y])) := Lib.hid (fun W => Src.one_new W 4 1 #[.bool y.2] rfl)
      have ZF : Hid (∀ W, Fresh w W → W.cell? ⟨g4, off4 + i, none⟩ = some (.bool y.2)) := Lib.hid (fun W f => by
        obtain ⟨g6, off6, _, hv6, _, _, _, hcd⟩ := (H.out.o2.fresh f).form (by omega)
        injection hv6 with f4 f5 f6
        injection f4 with f4
        injection f4 with f7 f8 _
        subst f7 f8
        exact hcd _ _ (bools_at hy))
      clear hcc hcb hcs' hy e2 f2 k2
      cases hq : p y
      · rw [hq] at HT HR s0
        have HT2 : Hid (keepR p (R.take (i + 1)) = keepR p (R.take i)) := Lib.hid (HT.out.trans (by simp))
        have HR2 : Hid (goneR p (R.take (i + 1)) = goneR p (R.take i) ++ [y]) := Lib.hid (HR.out.trans (by simp))
        have hL1 : (goneR p (R.take i)).length + 1 ≤ maxLen := one_le_maxLen (by omega)
        have hL2 : ((goneR p (R.take i)).length + 1) * 56 ≤ 140737488355328 := by omega
        clear HT HR z0
        go_wp2_with (at_builtin; refine wpList_append_OwnS _ rfl (.tmp 42) (.tmp 50) 28 rfl 44 i0 (.agg #[.int .i64 0, .int .i64 0, .int .i64 0, .int .i64 0, .int .i64 0, .int .i64 0, .int .i64 0]) 7 56 Try.underlying28 hi hz0 hz1 hz2 rfl h07.out (.slice A5 (goneR p (R.take i)).length c5) (goneR p (R.take i)).length (cells (evs (goneR p (R.take i)))) rfl (HG.out.o9.alloc _) (.slice (some ⟨wr.heap.size, 0, none⟩) 1 1) 1 (cells [y.1]) rfl (S2.out _) (cells_one _) hL1 hL2 ?_; intro v4 w4 o4 k4 n4; obtain ⟨A4, cap4, rfl, hc4, hm4⟩ := o4.shape; have G4 := Lib.hid ((HG.out.fresh ((Keep.refl _ wr).alloc (.cells #[.int .i64 y.1.a, .int .i64 y.1.s, .int .i64 y.1.t, .int .i64 y.1.n, .int .i64 y.1.d, .int .i64 y.1.k, .int .i64 y.1.x] 44))).app9 o4 k4 n4); clear o4 k4 n4)
        go_roundg (R.length - (i + 1))
        case measure => omega
        case rel => exact ⟨i + 1, _, _, _, by omega, rfl, rfl, rfl, rfl, by go_num, by rw [HT2.out, HR2.out]; exact G4.out⟩
      · rw [hq] at HT HR s0
        have HT2 : Hid (keepR p (R.take (i + 1)) = keepR p (R.take i) ++ [y]) := Lib.hid (HT.out.trans (by simp))
        have HR2 : Hid (goneR p (R.take (i + 1)) = goneR p (R.take i)) := Lib.hid (HR.out.trans (by simp))
        have hL1 : (keepR p (R.take i)).length + 1 ≤ maxLen := one_le_maxLen (by omega)
        have hL2 : ((keepR p (R.take i)).length + 1) * 56 ≤ 140737488355328 := by omega
        have hL3 : ((keepR p (R.take i)).length + 1) * 1 ≤ 140737488355328 := by omega
        clear HT HR
        go_wp2_with (first
          | (at_builtin; refine wpList_append_OwnS _ rfl (.tmp 22) (.tmp 30) 28 rfl 44 i0 (.agg #[.int .i64 0, .int .i64 0, .int .i64 0, .int .i64 0, .int .i64 0, .int .i64 0, .int .i64 0]) 7 56 Try.underlying28 hi hz0 hz1 hz2 rfl h07.out (.slice A6 (keepR p (R.take i)).length c6) (keepR p (R.take i)).length (cells (evs (keepR p (R.take i)))) rfl (HG.out.o10.alloc _) (.slice (some ⟨wr.heap.size, 0, none⟩) 1 1) 1 (cells [y.1]) rfl (S2.out _) (cells_one _) hL1 hL2 ?_; intro v4 w4 o4 k4 n4; have G4 := Lib.hid ((HG.out.fresh ((Keep.refl _ wr).alloc (.cells #[.int .i64 y.1.a, .int .i64 y.1.s, .int .i64 y.1.t, .int .i64 y.1.n, .int .i64 y.1.d, .int .i64 y.1.k, .int .i64 y.1.x] 44))).app10 o4 k4 n4); obtain ⟨A4, cap4, rfl, hc4, hm4⟩ := o4.shape; have cQ4 := (H.out.fresh G4.out.f).blk.cell; have lQ4 := (H.out.fresh G4.out.f).blk.lt; have zz := ZF.out _ G4.out.f; have gz := (H.out.o2.fresh G4.out.f).lt rfl; clear o4 k4 n4)
          | (at_builtin; refine wpList_append_OwnS _ rfl (.tmp 32) (.tmp 40) 57 rfl 4 i1 (.bool false) 1 1 Try.underlying57 hi1 hy0 hy1 hy2 rfl h01.out (.slice A7 (keepR p (R.take i)).length c7) (keepR p (R.take i)).length (bools (keepR p (R.take i))) rfl (G4.out.o11.alloc _) (.slice (some ⟨w4.heap.size, 0, none⟩) 1 1) 1 (bools [y]) rfl (S1.out _) (bools_one _) hL1 hL3 ?_; intro v8 w8 o8 k8 n8; have G8 := Lib.hid ((G4.out.fresh ((Keep.refl _ w4).alloc (.cells #[.bool y.2] 4))).app11 o8 k8 n8); obtain ⟨A8, cap8, rfl, hc8, hm8⟩ := o8.shape; clear o8 k8 n8))
        go_roundg (R.length - (i + 1))
        case measure => omega
        case rel => exact ⟨i + 1, _, _, _, by omega, rfl, rfl, rfl, rfl, by go_num, by rw [HT2.out, HR2.out]; exact G8.out⟩
    · obtain rfl : i = R.length := by omega
      rw [List.take_length] at HG hgl hgr ⊢
      obtain ⟨r, t⟩ := H.out.put HG.out.f HG.out.o10 HG.out.o11 HG.out.n10 HG.out.n11
      have fQ := (H.out.fresh HG.out.f).blk.frozen
      have RR := Lib.hid r
      have TT := Lib.hid t
      have KG : Hid (Keep (fun k => k = g) w ((wr.setCell ⟨g, 0, none⟩ (.slice A6 (keepR p R).length c6)).setCell ⟨g, 1, none⟩ (.slice A7 (keepR p R).length c7))) := Lib.hid (Keep.setCell (S := fun k => k = g) (p := ⟨g, 1, none⟩) (Keep.setCell (S := fun k => k = g) (p := ⟨g, 0, none⟩) (HG.out.f.more (fun _ _ h => h.elim)) (fun _ => rfl) _) (fun _ => rfl) _)
      have b3 := HG.out.f.blk_ H.out.blk
      have O9 := Lib.hid ((HG.out.o9.far (p := ⟨g, 0, none⟩) (HG.out.o9.ne_blk b3 (by decide)) (.slice A6 (keepR p R).length c6)).far (p := ⟨g, 1, none⟩) (HG.out.o9.ne_blk b3 (by decide)) (.slice A7 (keepR p R).length c7))
      clear r t b3
      go_wp2_with fail
      go_ret
      exact ⟨_, _, _, rfl, O9.out, RR.out, TT.out, HG.out.n9, fun k hk => by
        rcases hk with rfl | hk | hk
        · exact .inl rfl
        · exact .inr (HG.out.n10 k hk)
        · exact .inr (HG.out.n11 k hk), KG.out⟩
end Go.Proofs.Ytbplomnoapndnaa
