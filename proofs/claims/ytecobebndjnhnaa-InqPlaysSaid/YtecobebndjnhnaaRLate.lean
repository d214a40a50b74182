/-
  The document's answer: Late.
-/
import Derived.Test.YtecobebndjnhnaaROft
namespace Go.Proofs.Ytecobebndjnhnaa
open Go.RowKit
attribute [local go_sem ↓] Go.wp_at_zero Go.wp_at_succ

/-- the event sent last; of several the last one -/
def lateS (o : Option Ev) (y : Ev) : Option Ev := match o with
  | none => some y
  | some z => if z.t ≤ y.t then some y else some z
def lateL (l : List Ev) : Option Ev := l.foldl lateS none
theorem lateL_snoc (l : List Ev) (y : Ev) : lateL (l ++ [y]) = lateS (lateL l) y := by
  unfold lateL
  rw [List.foldl_append]
  rfl
theorem lateL_some : ∀ {l : List Ev}, l ≠ [] → ∃ z, lateL l = some z := by
  intro l hl
  obtain ⟨r, y, rfl⟩ : ∃ r y, l = r ++ [y] := ⟨l.dropLast, l.getLast hl, (List.dropLast_concat_getLast hl).symm⟩
  rw [lateL_snoc]
  unfold lateS
  cases lateL r with
  | none => exact ⟨y, rfl⟩
  | some z =>
    simp only
    split
    · exact ⟨y, rfl⟩
    · exact ⟨z, rfl⟩
/-- an event stored into a block of its kind -/
def putEv (W : World) (g : Nat) (y : Ev) : World := ((((((W.setCell ⟨g, 0, none⟩ (.int .i64 y.a)).setCell ⟨g, 1, none⟩ (.int .i64 y.s)).setCell ⟨g, 2, none⟩ (.int .i64 y.t)).setCell ⟨g, 3, none⟩ (.int .i64 y.n)).setCell ⟨g, 4, none⟩ (.int .i64 y.d)).setCell ⟨g, 5, none⟩ (.int .i64 y.k)).setCell ⟨g, 6, none⟩ (.int .i64 y.x)
theorem putEv_keep {S : Nat → Prop} (W : World) (g : Nat) (y : Ev) (h : S g) : Keep S W (putEv W g y) := by
  unfold putEv
  exact ((((((((Keep.refl S W).setCell (p := ⟨g, 0, none⟩) (fun _ => h) _).setCell (p := ⟨g, 1, none⟩) (fun _ => h) _).setCell (p := ⟨g, 2, none⟩) (fun _ => h) _).setCell (p := ⟨g, 3, none⟩) (fun _ => h) _).setCell (p := ⟨g, 4, none⟩) (fun _ => h) _).setCell (p := ⟨g, 5, none⟩) (fun _ => h) _).setCell (p := ⟨g, 6, none⟩) (fun _ => h) _)
theorem putEv_blk {W : World} {g : Nat} {a0 a1 a2 a3 a4 a5 a6 : Value} (h : Blk W g 25 #[a0, a1, a2, a3, a4, a5, a6]) (y : Ev) : Blk (putEv W g y) g 25 #[.int .i64 y.a, .int .i64 y.s, .int .i64 y.t, .int .i64 y.n, .int .i64 y.d, .int .i64 y.k, .int .i64 y.x] := by
  have := ((((((h.set_ 0 (.int .i64 y.a)).set_ 1 (.int .i64 y.s)).set_ 2 (.int .i64 y.t)).set_ 3 (.int .i64 y.n)).set_ 4 (.int .i64 y.d)).set_ 5 (.int .i64 y.k)).set_ 6 (.int .i64 y.x)
  simpa [putEv] using this
def Ev.zero : Ev := ⟨0, 0, 0, 0, 0, 0, 0⟩
def lateV (l : List Ev) : Ev := (lateL l).getD Ev.zero
set_option maxHeartbeats 4000000 in
set_option maxRecDepth 100000 in
theorem rlate_any (g : Nat) (v1 v2 : Value) (L B l : List Ev) (w : World) (h : RQ w g v1 v2 L B) (sl : Srt l) (pl : L.Perm l) (hl : L.length ≤ 100000) :
    Calls Try.prog 48 #[.pointer (some ⟨g, 0, none⟩)] w fun e w' => e = .returned (lateV l).val ∧ Fresh w w' := by
  have HS := Lib.hid (fun W (f : Fresh w W) => sort_any v1 L W (h.own1.fresh f).evs hl)
  have cQ := fun (W : World) (f : Fresh w W) (i : Nat) => (f.blk_ h.blk).cell i
  obtain ⟨A1, c1, rfl, hc1, hm1⟩ := h.own1.shape
  have SL := Lib.hid sl
  have PL := Lib.hid pl
  have F1 : Fresh w (w.alloc (.cells #[.int .i64 0, .int .i64 0, .int .i64 0, .int .i64 0, .int .i64 0, .int .i64 0, .int .i64 0] 25)) := (Keep.refl _ w).alloc _
  have B1 := Lib.hid (Blk.new w 25 #[.int .i64 0, .int .i64 0, .int .i64 0, .int .i64 0, .int .i64 0, .int .i64 0, .int .i64 0])
  have c0 := cQ _ F1
  have lg := Nat.lt_of_lt_of_le h.blk.lt F1.size
  have HF1 := Lib.hid F1
  clear h sl pl cQ F1
  go_enter Try.func48, Try.ntmps48
  go_wp2_with fail
  refine (HS.out _ HF1.out).mono ?_
  rintro e w2 ⟨v3, s, rfl, s1, s2, s3, s4, s5⟩
  have e1 : s = l := by
    refine srt_ext s1 SL.out (fun x => ?_)
    rw [cnt_count, cnt_count]
    exact (s2.trans PL.out).count_eq x
  subst e1
  obtain ⟨A3, c3, rfl, hc3, hm3⟩ := s3.shape
  have hm3 : c3 ≤ 9223372036854775807 := by unfold maxLen at hm3; omega
  have hsl : s.length ≤ 100000 := by rw [s2.length_eq]; exact hl
  have B2 := Lib.hid (s4.blk_ B1.out)
  have lB2 := (s4.blk_ B1.out).lt
  have O2 := Lib.hid s3
  have F2 : Hid (Fresh w w2) := Lib.hid (HF1.out.step s4 (fun _ _ h => h))
  have K3 : Hid (Fresh w2 (w2.alloc (.cells #[.int .i64 0, .int .i64 0, .int .i64 0, .int .i64 0, .int .i64 0, .int .i64 0, .int .i64 0] 25))) := Lib.hid ((Keep.refl _ w2).alloc _)
  have B3 := Lib.hid (Blk.new w2 25 #[.int .i64 0, .int .i64 0, .int .i64 0, .int .i64 0, .int .i64 0, .int .i64 0, .int .i64 0])
  clear s1 s2 s3 s4 s5 c0 lg HS HF1
  go_wp2_with fail
  go_loopg [5] s.length (fun gk u5 wr => ∃ (i : Nat) (z : Ev), i ≤ s.length ∧ gk = s.length - i ∧ u5 = .int .i64 i ∧ z = lateV (s.take i) ∧ Blk wr w2.heap.size 25 z.enc.toArray ∧ Fresh w2 wr)
  case atStart => exact ⟨0, Ev.zero, by omega, rfl, rfl, rfl, B3.out, K3.out⟩
  case round =>
    obtain ⟨i, z, hi', rfl, rfl, hz, hB, hF⟩ := hrel
    have HF := Lib.hid hF
    have HZ := Lib.hid hz
    have HB := Lib.hid hB
    have cz := hB.cell
    have fz := hB.frozen
    have lz := hB.lt
    clear hF hz hB
    unfold Ev.enc at cz HB
    by_cases hlt : i < s.length
    · obtain ⟨y, hy⟩ : ∃ y, s[i]? = some y := ⟨_, List.getElem?_eq_getElem hlt⟩
      obtain ⟨g3, off3, _, hv3, hg3, _, _, hcc⟩ := (O2.out.fresh HF.out).form (by omega)
      injection hv3 with e1 e2 e3
      subst e1 e3
      obtain ⟨y0, y1, y2, y3, y4, y5, y6⟩ := cells_at s i y hy
      have y0 := hcc _ _ y0
      have y1 := hcc _ _ y1
      have y2 := hcc _ _ y2
      have y3 := hcc _ _ y3
      have y4 := hcc _ _ y4
      have y5 := hcc _ _ y5
      have y6 := hcc _ _ y6
      rw [← Nat.add_assoc] at y1 y2 y3 y4 y5 y6
      have HT : Hid (lateL (s.take (i + 1)) = lateS (lateL (s.take i)) y) := Lib.hid (by rw [List.take_add_one, hy, Option.toList_some, lateL_snoc])
      clear hcc hy e2
      by_cases h0 : i = 0
      · have t0 : ((i : Int) == 0) = true := by simp [h0]
        have NZ : Hid (y = lateV (s.take (i + 1))) := Lib.hid (by unfold lateV; rw [HT.out, h0]; rfl)
        clear h0
        go_wp2_with fail
        go_quiet (fail)
        go_wp2_with fail
        go_roundg (s.length - (i + 1))
        case measure => omega
        case rel => exact ⟨i + 1, y, by omega, rfl, by go_num, NZ.out, putEv_blk (HB.out.drewN nq) y, (HF.out.drewN nq).step (putEv_keep (S := fun k => k = w2.heap.size) _ _ y rfl) (by rintro k hk rfl; omega)⟩
      · have t0 : ((i : Int) == 0) = false := by rw [beq_eq_false_iff_ne]; omega
        obtain ⟨u, hu⟩ := lateL_some (l := s.take i) (by
          intro he
          have h2 : (s.take i).length = 0 := by rw [he]; rfl
          rw [List.length_take] at h2
          omega)
        have hzu : z = u := by rw [HZ.out]; unfold lateV; rw [hu]; rfl
        have HT2 := Lib.hid (HT.out.trans (by rw [hu]))
        clear hu h0 HZ
        subst hzu
        by_cases ht : z.t ≤ y.t
        · have t1 : decide (z.t ≤ y.t) = true := decide_eq_true ht
          have NZ : Hid (y = lateV (s.take (i + 1))) := Lib.hid (by unfold lateV; rw [HT2.out]; unfold lateS; simp only; rw [if_pos ht]; rfl)
          clear ht
          go_wp2_with fail
          go_quiet (fail)
          go_wp2_with fail
          go_roundg (s.length - (i + 1))
          case measure => omega
          case rel => exact ⟨i + 1, y, by omega, rfl, by go_num, NZ.out, putEv_blk (HB.out.drewN nq) y, (HF.out.drewN nq).step (putEv_keep (S := fun k => k = w2.heap.size) _ _ y rfl) (by rintro k hk rfl; omega)⟩
        · have t1 : decide (z.t ≤ y.t) = false := decide_eq_false ht
          have NZ : Hid (z = lateV (s.take (i + 1))) := Lib.hid (by unfold lateV; rw [HT2.out]; unfold lateS; simp only; rw [if_neg ht]; rfl)
          clear ht
          go_wp2_with fail
          go_quiet (fail)
          go_wp2_with fail
          go_roundg (s.length - (i + 1))
          case measure => omega
          case rel => exact ⟨i + 1, z, by omega, rfl, by go_num, NZ.out, HB.out.drewN nq, HF.out.drewN nq⟩
    · obtain rfl : i = s.length := by omega
      rw [List.take_length] at HZ
      have b2 := HF.out.blk_ B2.out
      have c2 := b2.cell
      have f2 := b2.frozen
      have l2 := b2.lt
      have HB2 := Lib.hid b2
      clear b2
      have F3 : Hid (Fresh w (putEv wr w.heap.size z)) := Lib.hid ((F2.out.step HF.out (fun _ _ h => h)).step (putEv_keep (S := fun k => k = w.heap.size) _ _ z rfl) (by rintro k hk rfl; omega))
      have B5 := Lib.hid (putEv_blk HB2.out z)
      have hzz := HZ.out
      subst hzz
      go_wp2_with fail
      have c5 := B5.out.cell
      unfold putEv at c5
      refine bodyPost_ret (v := (lateV s).val) (by unfold Ev.val; simp [results, Try.results48, go_sem, c5]; try rfl) rfl ?_
      exact ⟨rfl, F3.out⟩
end Go.Proofs.Ytecobebndjnhnaa
