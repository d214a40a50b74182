/-
  The document's answer: Drop.
-/
import Derived.Test.YtecobebndjnhnaaROft
namespace Go.Proofs.Ytecobebndjnhnaa
open Go.RowKit
attribute [local go_sem ↓] Go.wp_at_zero Go.wp_at_succ

/-- two lists of the law's own -/
structure BX (W0 : World) (L9 L10 : List Ev) (v9 v10 : Value) (wr : World) : Prop where
  f : Fresh W0 wr
  o9 : OwnS wr 25 7 v9 L9.length (cells L9)
  o10 : OwnS wr 25 7 v10 L10.length (cells L10)
  n9 : ∀ k, v9.ownBlock = some k → W0.heap.size ≤ k
  n10 : ∀ k, v10.ownBlock = some k → W0.heap.size ≤ k
  dis : ∀ k, v9.ownBlock = some k → v10.ownBlock ≠ some k
section
variable {W0 wr w2 : World} {L9 L10 bq : List Ev} {v9 v10 v9' : Value}
theorem BX.fresh (h : BX W0 L9 L10 v9 v10 wr) (f : Fresh wr w2) : BX W0 L9 L10 v9 v10 w2 :=
  ⟨h.f.step f (fun _ _ h => h), h.o9.fresh f, h.o10.fresh f, h.n9, h.n10, h.dis⟩
theorem BX.flip (h : BX W0 L9 L10 v9 v10 wr) : BX W0 L10 L9 v10 v9 wr := ⟨h.f, h.o10, h.o9, h.n10, h.n9, fun k h1 h2 => h.dis k h2 h1⟩
theorem BX.app (h : BX W0 L9 L10 v9 v10 wr) (o : OwnS w2 25 7 v9' (L9.length + bq.length) (cells L9 ++ cells bq)) (k : Keep (fun k => v9.ownBlock = some k) wr w2) (n : ∀ i, v9'.ownBlock = some i → v9.ownBlock = some i ∨ wr.heap.size ≤ i) : BX W0 (L9 ++ bq) L10 v9' v10 w2 := by
  refine ⟨h.f.step k (fun i hi e => by have := h.n9 i e; omega), by rw [List.length_append, cells_append]; exact o, h.o10.kept k (fun i h1 h2 => h.dis i h2 h1), fun i hi => ?_, h.n10, fun i h1 h2 => ?_⟩
  · rcases n i hi with h1 | h1
    · exact h.n9 i h1
    · have := h.f.size; omega
  · rcases n i h1 with h3 | h3
    · exact h.dis i h3 h2
    · have := h.o10.lt h2; omega
theorem BX.off (h : BX W0 L9 L10 v9 v10 wr) {v : Value} (hv : ∀ k, v.ownBlock = some k → wr.heap.size ≤ k) : ∀ k, v.ownBlock = some k → v9.ownBlock ≠ some k := fun k h1 h2 => by have := hv k h1; have := h.o9.lt h2; omega
end

theorem BX.app' {W0 wr : World} {L9 L10 : List Ev} {v9 v10 : Value} (h : BX W0 L9 L10 v9 v10 wr) {W w2 : World} {bq : List Ev} {v9' : Value} (fW : Fresh wr W) (o : OwnS w2 25 7 v9' (L9.length + bq.length) (cells L9 ++ cells bq)) (k : Keep (fun k => v9.ownBlock = some k) W w2) (n : ∀ i, v9'.ownBlock = some i → v9.ownBlock = some i ∨ W.heap.size ≤ i) : BX W0 (L9 ++ bq) L10 v9' v10 w2 := (h.fresh fW).app o k n
def below (L : List Ev) (b : Int) : List Ev := L.filter (fun y => decide (y.a < b))
def rest (L : List Ev) (b : Int) : List Ev := L.filter (fun y => !decide (y.a < b))
def RDropP (g : Nat) (v1 v2 : Value) (L B : List Ev) (b : Int) (w : World) (e : Ending) (w' : World) : Prop :=
  ∃ v' out v1', e = .returned v' ∧ Srt out ∧ out.Perm (below L b) ∧ OwnS w' 25 7 v' out.length (cells out) ∧ RQ w' g v1' v2 (rest L b) B ∧ Turn w w' g v1 v2 v1' v2 ∧ ∀ k, v'.ownBlock = some k → w.heap.size ≤ k
set_option maxHeartbeats 4000000 in
set_option maxRecDepth 100000 in
theorem rdrop_any (g : Nat) (v1 v2 : Value) (L B : List Ev) (b : Int) (w : World) (h : RQ w g v1 v2 L B) (hl : L.length ≤ 100000) :
    Calls Try.prog 44 #[.pointer (some ⟨g, 0, none⟩), .int .i64 b] w (RDropP g v1 v2 L B b w) := by
  have H := Lib.hid h
  obtain ⟨A1, c1, rfl, hc1, hm1⟩ := h.own1.shape
  have hm1 : c1 ≤ 9223372036854775807 := by unfold maxLen at hm1; omega
  clear h
  obtain ⟨i0, hi, hz0, hz1, hz2⟩ := info_parts info_ev
  have h07 : Hid (0 < 7) := Lib.hid (by omega)
  go_enter Try.func44, Try.ntmps44
  go_wp2_with fail
  go_loopg [5, 6, 7] L.length (fun gk u5 u6 u7 wr => ∃ (i : Nat) (v5 v6 : Value), i ≤ L.length ∧ gk = L.length - i ∧ u5 = v5 ∧ u6 = v6 ∧ u7 = .int .i64 i ∧ BX w (below (L.take i) b) (rest (L.take i) b) v5 v6 wr)
  case atStart => exact ⟨0, _, _, by omega, rfl, rfl, rfl, rfl, ⟨Keep.refl _ _, OwnS.nil _ _ _, OwnS.nil _ _ _, by simp [Value.ownBlock], by simp [Value.ownBlock], by simp [Value.ownBlock]⟩⟩
  case round =>
    obtain ⟨i, v5, v6, hi', rfl, rfl, rfl, rfl, hG⟩ := hrel
    have HG := Lib.hid hG
    have cQ := (H.out.fresh hG.f).blk.cell
    have lQ := (H.out.fresh hG.f).blk.lt
    obtain ⟨A5, c5, rfl, hc5, hm5⟩ := hG.o9.shape
    obtain ⟨A6, c6, rfl, hc6, hm6⟩ := hG.o10.shape
    have hgl : (below (L.take i) b).length ≤ L.length := Nat.le_trans (List.length_filter_le _ _) (by rw [List.length_take]; omega)
    have hgr : (rest (L.take i) b).length ≤ L.length := Nat.le_trans (List.length_filter_le _ _) (by rw [List.length_take]; omega)
    clear hG
    by_cases hlt : i < L.length
    · obtain ⟨y, hy⟩ : ∃ y, L[i]? = some y := ⟨_, List.getElem?_eq_getElem hlt⟩
      obtain ⟨g3, off3, _, hv3, hg3, _, _, hcc⟩ := (H.out.own1.fresh HG.out.f).form (by omega)
      injection hv3 with e1 e2 e3
      subst e1 e3
      obtain ⟨y0, y1, y2, y3, y4, y5, y6⟩ := cells_at L i y hy
      have y0 := hcc _ _ y0
      have y1 := hcc _ _ y1
      have y2 := hcc _ _ y2
      have y3 := hcc _ _ y3
      have y4 := hcc _ _ y4
      have y5 := hcc _ _ y5
      have y6 := hcc _ _ y6
      rw [← Nat.add_assoc] at y1 y2 y3 y4 y5 y6
      have HT : Hid (below (L.take (i + 1)) b = below (L.take i) b ++ (if decide (y.a < b) = true then [y] else [])) := Lib.hid (by
        unfold below
        rw [List.take_add_one, hy, Option.toList_some, List.filter_append]
        congr 1
        cases hh : decide (y.a < b) <;> simp [List.filter, hh])
      have HR : Hid (rest (L.take (i + 1)) b = rest (L.take i) b ++ (if decide (y.a < b) = true then [] else [y])) := Lib.hid (by
        unfold rest
        rw [List.take_add_one, hy, Option.toList_some, List.filter_append]
        congr 1
        cases hh : decide (y.a < b) <;> simp [List.filter, hh])
      have S2 : Hid (Src (wr.alloc (.cells #[.int .i64 y.a, .int .i64 y.s, .int .i64 y.t, .int .i64 y.n, .int .i64 y.d, .int .i64 y.k, .int .i64 y.x] 25)) 7 (.slice (some ⟨wr.heap.size, 0, none⟩) 1 1) 1 (cells [y])) := Lib.hid (Src.one_new wr 25 7 #[.int .i64 y.a, .int .i64 y.s, .int .i64 y.t, .int .i64 y.n, .int .i64 y.d, .int .i64 y.k, .int .i64 y.x] rfl)
      have fA : Hid (Fresh wr (wr.alloc (.cells #[.int .i64 y.a, .int .i64 y.s, .int .i64 y.t, .int .i64 y.n, .int .i64 y.d, .int .i64 y.k, .int .i64 y.x] 25))) := Lib.hid ((Keep.refl _ wr).alloc _)
      clear hcc hy e2
      cases hq : decide (y.a < b)
      · rw [hq] at HT HR
        have HT2 : Hid (below (L.take (i + 1)) b = below (L.take i) b) := Lib.hid (HT.out.trans (by simp))
        have HR2 : Hid (rest (L.take (i + 1)) b = rest (L.take i) b ++ [y]) := Lib.hid (HR.out.trans (by simp))
        have hL1 : (rest (L.take i) b).length + 1 ≤ maxLen := one_le_maxLen (by omega)
        have hL2 : ((rest (L.take i) b).length + 1) * 56 ≤ 140737488355328 := by omega
        go_wp2_with (at_builtin; refine wpList_append_OwnS _ rfl (.tmp 38) (.tmp 46) 42 rfl 25 i0 (.agg #[.int .i64 0, .int .i64 0, .int .i64 0, .int .i64 0, .int .i64 0, .int .i64 0, .int .i64 0]) 7 56 Try.underlying42 hi hz0 hz1 hz2 rfl h07.out (.slice A6 (rest (L.take i) b).length c6) (rest (L.take i) b).length (cells (rest (L.take i) b)) rfl (HG.out.o10.alloc _) (.slice (some ⟨wr.heap.size, 0, none⟩) 1 1) 1 (cells [y]) rfl S2.out (cells_one _) hL1 hL2 ?_; intro v4 w4 o4 k4 n4; obtain ⟨A4, cap4, rfl, hc4, hm4⟩ := o4.shape; have G4 := Lib.hid (HG.out.flip.app' (bq := [y]) fA.out o4 k4 n4).flip; clear o4 k4 n4)
        go_roundg (L.length - (i + 1))
        case measure => omega
        case rel => exact ⟨i + 1, _, _, by omega, rfl, rfl, rfl, by go_num, by rw [HT2.out, HR2.out]; exact G4.out⟩
      · rw [hq] at HT HR
        have HT2 : Hid (below (L.take (i + 1)) b = below (L.take i) b ++ [y]) := Lib.hid (HT.out.trans (by simp))
        have HR2 : Hid (rest (L.take (i + 1)) b = rest (L.take i) b) := Lib.hid (HR.out.trans (by simp))
        have hL1 : (below (L.take i) b).length + 1 ≤ maxLen := one_le_maxLen (by omega)
        have hL2 : ((below (L.take i) b).length + 1) * 56 ≤ 140737488355328 := by omega
        go_wp2_with (at_builtin; refine wpList_append_OwnS _ rfl (.tmp 28) (.tmp 36) 42 rfl 25 i0 (.agg #[.int .i64 0, .int .i64 0, .int .i64 0, .int .i64 0, .int .i64 0, .int .i64 0, .int .i64 0]) 7 56 Try.underlying42 hi hz0 hz1 hz2 rfl h07.out (.slice A5 (below (L.take i) b).length c5) (below (L.take i) b).length (cells (below (L.take i) b)) rfl (HG.out.o9.alloc _) (.slice (some ⟨wr.heap.size, 0, none⟩) 1 1) 1 (cells [y]) rfl S2.out (cells_one _) hL1 hL2 ?_; intro v4 w4 o4 k4 n4; obtain ⟨A4, cap4, rfl, hc4, hm4⟩ := o4.shape; have G4 := Lib.hid (HG.out.app' (bq := [y]) fA.out o4 k4 n4); clear o4 k4 n4)
        go_roundg (L.length - (i + 1))
        case measure => omega
        case rel => exact ⟨i + 1, _, _, by omega, rfl, rfl, rfl, by go_num, by rw [HT2.out, HR2.out]; exact G4.out⟩
    · obtain rfl : i = L.length := by omega
      rw [List.take_length] at HG hgl hgr ⊢
      obtain ⟨r, t⟩ := H.out.put0 HG.out.o10 HG.out.f (fun _ h => h.elim) (fun k hk => .inr (HG.out.n10 k hk))
      have fQ := (H.out.fresh HG.out.f).blk.frozen
      have o5 := HG.out.o9.far (p := ⟨g, 0, none⟩) (HG.out.o9.ne_blk (H.out.fresh HG.out.f).blk (by decide)) (.slice A6 (rest L b).length c6)
      have HS := Lib.hid (sort_any _ _ _ o5.evs (by omega))
      have RR := Lib.hid r
      have TT := Lib.hid t
      clear r t o5
      go_wp2_with fail
      refine HS.out.mono ?_
      rintro e w5 ⟨v5, out, rfl, s1, s2, s3, s4, s5⟩
      obtain ⟨A5', c5', rfl, _, _⟩ := s3.shape
      have FIN : Hid (RDropP g (.slice A1 L.length c1) v2 L B b w (.returned (.slice A5' out.length c5')) w5) := Lib.hid ⟨_, out, _, rfl, s1, s2, s3, RR.out.fresh s4, Turn.two TT.out (Turn.fresh s4), fun k hk => by have := s5 k hk; have := TT.out.keep.size; omega⟩
      clear s1 s2 s3 s4 s5
      go_wp2_with fail
      go_ret
      exact FIN.out
end Go.Proofs.Ytecobebndjnhnaa
