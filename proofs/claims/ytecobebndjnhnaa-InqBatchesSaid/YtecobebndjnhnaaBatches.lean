/- InqBatches returns true at every input: batches, time by time, are all events, in order, and Drop takes away those of all batches ahead of a time. No conditions. -/
import Derived.Test.YtecobebndjnhnaaBatchP
namespace Go.Proofs.Ytecobebndjnhnaa
open Go.RowKit
attribute [local go_sem ↓] Go.wp_at_zero Go.wp_at_succ

/-- two lists of the law's own -/
structure BX (W0 : World) (L9 L10 : List Ev) (v9 v10 : Value) (wr : World) : Prop where
  f : Fresh W0 wr
  o9 : OwnS wr 25 7 v9 L9.length (cells L9)
  o10 : OwnS wr 25 7 v10 L10.length (cells L10)
  n9 : ∀ k, v9.ownBlock = some k → W0.heap.size ≤ k
  n10 : ∀ k, v10.ownBlock = some k → W0.heap.size ≤ k
  dis : ∀ k, v9.ownBlock = some k → v10.ownBlock ≠ some k
section
variable {W0 wr w2 : World} {L9 L10 bq : List Ev} {v9 v10 v9' : Value}
theorem BX.fresh (h : BX W0 L9 L10 v9 v10 wr) (f : Fresh wr w2) : BX W0 L9 L10 v9 v10 w2 :=
  ⟨h.f.step f (fun _ _ h => h), h.o9.fresh f, h.o10.fresh f, h.n9, h.n10, h.dis⟩
theorem BX.flip (h : BX W0 L9 L10 v9 v10 wr) : BX W0 L10 L9 v10 v9 wr := ⟨h.f, h.o10, h.o9, h.n10, h.n9, fun k h1 h2 => h.dis k h2 h1⟩
theorem BX.app (h : BX W0 L9 L10 v9 v10 wr) (o : OwnS w2 25 7 v9' (L9.length + bq.length) (cells L9 ++ cells bq)) (k : Keep (fun k => v9.ownBlock = some k) wr w2) (n : ∀ i, v9'.ownBlock = some i → v9.ownBlock = some i ∨ wr.heap.size ≤ i) : BX W0 (L9 ++ bq) L10 v9' v10 w2 := by
  refine ⟨h.f.step k (fun i hi e => by have := h.n9 i e; omega), by rw [List.length_append, cells_append]; exact o, h.o10.kept k (fun i h1 h2 => h.dis i h2 h1), fun i hi => ?_, h.n10, fun i h1 h2 => ?_⟩
  · rcases n i hi with h1 | h1
    · exact h.n9 i h1
    · have := h.f.size; omega
  · rcases n i h1 with h3 | h3
    · exact h.dis i h3 h2
    · have := h.o10.lt h2; omega
theorem BX.off (h : BX W0 L9 L10 v9 v10 wr) {v : Value} (hv : ∀ k, v.ownBlock = some k → wr.heap.size ≤ k) : ∀ k, v.ownBlock = some k → v9.ownBlock ≠ some k := fun k h1 h2 => by have := hv k h1; have := h.o9.lt h2; omega
end
def DropQ (g : Nat) (v1 v2 : Value) (m l gl : List Ev) (w : World) (e : Ending) (w' : World) : Prop :=
  ∃ v' v1', e = .returned v' ∧ OwnS w' 25 7 v' gl.length (cells gl) ∧ SQ w' g v1' v2 (l.drop gl.length) m ∧ Turn w w' g v1 v2 v1' v2 ∧ ∀ k, v'.ownBlock = some k → w.heap.size ≤ k
/-- behind i batches, up to a time -/
structure BR (W0 : World) (l : List Ev) (b : Int) (i : Nat) (t : Int) (v9 v10 : Value) (wr : World) : Prop where
  x : BX W0 (upTo l t) (early l t b) v9 v10 wr
  few : (later l t).length + i ≤ 60
theorem BR.fresh {W0 wr w2 : World} {l : List Ev} {b t : Int} {i : Nat} {v9 v10 : Value} (h : BR W0 l b i t v9 v10 wr) (f : Fresh wr w2) : BR W0 l b i t v9 v10 w2 := ⟨h.x.fresh f, h.few⟩
theorem batches_many (A : Option Addr) (n c : Nat) (b : Int) (w : World) (h : 60 < n) : Law Try.prog 7 #[.slice A n c, .int .i64 b] w := by
  unfold Law
  have t1 : decide (60 < n) = true := decide_eq_true h
  have t2 : decide ((60 : Int) < (n : Int)) = true := decide_eq_true (by omega)
  go_enter Try.func7, Try.ntmps7
  go_wp2_with fail
  refine (new_aq w).mono ?_
  rintro e w1 ⟨g, rfl, q1⟩
  have F1 := Lib.hid q1.fr
  clear q1
  go_wp2_with fail
  refine (awake_any _).mono ?_
  rintro e w2 ⟨rfl, f2⟩
  have F2 := Lib.hid f2
  clear f2
  go_wp2_with fail
  go_ret
  exact ⟨rfl, Fresh.below_ (F1.out.step F2.out (fun _ _ h => h)) (Nat.le_refl _)⟩
set_option maxHeartbeats 8000000 in
set_option maxRecDepth 100000 in
theorem batches_any (A : Option Addr) (c : Nat) (ms : List Msg) (b : Int) (w : World) (h : Msgs w A ms) (hn : ms.length ≤ 60) : Law Try.prog 7 #[.slice A ms.length c, .int .i64 b] w := by
  unfold Law
  have H := Lib.hid h
  have t1 : decide (60 < ms.length) = false := decide_eq_false (by omega)
  have t2 : decide ((60 : Int) < (ms.length : Int)) = false := decide_eq_false (by omega)
  clear h
  go_enter Try.func7, Try.ntmps7
  go_wp2_with fail
  refine (new_aq w).mono ?_
  rintro e w1 ⟨g, rfl, q1⟩
  have HP := Lib.hid (puts_any A c ms w w1 g _ _ H.out (by omega) ⟨q1, ⟨_, QIs.nil⟩, rfl, by simp⟩)
  clear q1
  go_wp2_with fail
  refine HP.out.mono ?_
  rintro e w2 ⟨n, en, v1, v2, l, m, rfl, hnk, hc⟩
  clear HP
  rcases hc with ⟨rfl, f2⟩ | ⟨rfl, hI⟩
  · have F2 := Lib.hid f2
    clear f2
    go_wp2_with fail
    refine (awake_any _).mono ?_
    rintro e w3 ⟨rfl, f3⟩
    have F3 := Lib.hid f3
    clear f3
    go_wp2_with fail
    go_ret
    exact ⟨rfl, Fresh.below_ (F2.out.step F3.out (fun _ _ h => h)) (Nat.le_refl _)⟩
  have HI := Lib.hid hI
  have hlen := hI.len
  have hl : l.length ≤ 60 := by omega
  have hm : m.length ≤ 60 := by omega
  have HLEN := Lib.hid hlen
  clear hI hlen
  go_wp2_with fail
  refine (all_any g v1 v2 l m w2 HI.out.aq.q (by omega)).mono ?_
  rintro e w3 ⟨b3, v3, rfl, k3, o3, f3⟩
  have Q3 := Lib.hid (HI.out.aq.fresh f3)
  have HL := Lib.hid (listed_any b3 v3 l w3 k3 o3 (by omega))
  clear f3 k3 o3
  go_wp2_with fail
  refine HL.out.mono ?_
  rintro e w4 ⟨v8, rfl, o4, f4, n4⟩
  obtain ⟨A8, c8, rfl, _, _⟩ := o4.shape
  have Q4 := Lib.hid (Q3.out.fresh f4)
  have O8 := Lib.hid o4
  have N8 : Hid (∀ k, (Value.slice A8 l.length c8).ownBlock = some k → ¬ foot g v1 v2 k) := Lib.hid (fun k hk hf => by have := n4 k hk; have := Q3.out.q.lt k hf; omega)
  clear f4 o4 n4 HL Q3
  have SRT := Lib.hid Q4.out.q.s1
  have ST : Hid (BR w4 l b 0 (-1) (.slice none 0 0) (.slice none 0 0) w4) := Lib.hid (by
    have e1 := upTo_start HI.out.ok
    refine ⟨⟨Keep.refl _ _, ?_, ?_, by simp [Value.ownBlock], by simp [Value.ownBlock], by simp [Value.ownBlock]⟩, ?_⟩
    · rw [e1]; exact OwnS.nil _ _ _
    · unfold early; rw [e1]; exact OwnS.nil _ _ _
    · have := List.length_filter_le (fun z : Ev => decide (-1 < z.a)) l
      unfold later
      omega)
  clear HI
  obtain ⟨i0, hi, hz0, hz1, hz2⟩ := info_parts info_ev
  have h07 : Hid (0 < 7) := Lib.hid (by omega)
  go_wp2_with fail
  go_loopg [9, 10, 11, 12] 61 (fun gk u9 u10 u11 u12 wr => ∃ (i : Nat) (t : Int) (v9 v10 : Value), i ≤ 60 ∧ gk = 61 - i ∧ u9 = v9 ∧ u10 = v10 ∧ u11 = .int .i64 t ∧ u12 = .int .i64 i ∧ BR w4 l b i t v9 v10 wr)
  case atStart => exact ⟨0, -1, _, _, by omega, rfl, rfl, rfl, rfl, rfl, ST.out⟩
  case round =>
    clear ST
    obtain ⟨i, t, v9, v10, hi60, rfl, rfl, rfl, rfl, rfl, hB⟩ := hrel
    have HB := Lib.hid hB
    clear hB
    obtain ⟨A9, c9, rfl, hc9, hm9⟩ := HB.out.x.o9.shape
    obtain ⟨A10, c10, rfl, hc10, hm10⟩ := HB.out.x.o10.shape
    have li : decide ((i : Int) ≤ 60) = true := decide_eq_true (by omega)
    have HN := Lib.hid (next_any g v1 v2 l m t wr (Q4.out.q.fresh HB.out.x.f) (by omega))
    cases hne : nextE l t with
    | none =>
      rw [hne] at HN
      have hfull := Lib.hid (next_none hne)
      clear hne
      go_wp2_with fail
      refine HN.out.mono ?_
      rintro e w5 ⟨rfl, f5⟩
      have B5 := Lib.hid (HB.out.fresh f5)
      clear f5 HN HB
      have HGONE : (upTo l t).filter (fun z => decide (z.a < b)) = l.filter (fun z => decide (z.a < b)) := by rw [hfull.out]
      have hfl : (l.filter (fun z => decide (z.a < b))).length ≤ l.length := List.length_filter_le _ _
      have HE1 := Lib.hid (show decide (upTo l t = l) = true from decide_eq_true hfull.out)
      have HE2 := Lib.hid (show decide (l.filter (fun z => decide (z.a < b)) = early l t b) = true from decide_eq_true HGONE.symm)
      have HDR : Hid (∀ W, Fresh w5 W → Calls Try.prog 20 #[.pointer (some ⟨g, 0, none⟩), .int .i64 b] W (DropQ g v1 v2 m l (l.filter (fun z => decide (z.a < b))) W)) := Lib.hid (fun W (f : Fresh w5 W) => (drop_any g v1 v2 l m b W (Q4.out.q.fresh ((B5.out.x.f).step f (fun _ _ h => h))) (by omega)).mono fun _ _ ⟨v', v1', h1, h2, h3, h4, h5⟩ => ⟨v', v1', h1, h2, h3, h4, h5⟩)
      have HL1 := Lib.hid (fun W (f : Fresh w5 W) => len_any g v1 v2 l m W (Q4.out.q.fresh ((B5.out.x.f).step f (fun _ _ h => h))))
      obtain ⟨gl, hgl⟩ : ∃ gl, l.filter (fun z => decide (z.a < b)) = gl := ⟨_, rfl⟩
      rw [hgl] at HE2 hfl HDR
      clear HGONE hgl
      have hll : (l.drop gl.length).length = l.length - gl.length := List.length_drop
      have hws : IntKind.i64.wrap ((l.length : Int) - (gl.length : Int)) = ((l.length - gl.length : Nat) : Int) := by rw [IntWalk.i64_in _ (by omega)]; omega
      have hwa : IntKind.i64.wrap ((l.length : Int) + (m.length : Int)) = (l.length : Int) + (m.length : Int) := IntWalk.i64_in _ (by omega)
      have hwm : IntKind.i64.wrap (2 * (n : Int)) = 2 * (n : Int) := IntWalk.i64_in _ (by omega)
      have hwz : IntKind.i64.wrap ((ms.length : Int) - 2 * (n : Int)) = (l.length : Int) + (m.length : Int) := by rw [IntWalk.i64_in _ (by have := HLEN.out; omega)]; have := HLEN.out; omega
      go_wp2_with fail
      refine (HL1.out _ (Keep.refl _ _)).mono ?_
      rintro e w6 ⟨rfl, f6⟩
      have F6 := Lib.hid f6
      clear f6
      go_wp2_with fail
      refine (HDR.out _ F6.out).mono ?_
      rintro e w7 ⟨v19, v1', rfl, o7, q7, t7, n7⟩
      obtain ⟨A19, c19, rfl, _, _⟩ := o7.shape
      have F65 := B5.out.x.f.step F6.out (fun _ _ h => h)
      have hft : ∀ k, foot g v1 v2 k → k < w4.heap.size := fun k hk => Q4.out.q.lt k hk
      have O9 := Lib.hid (((B5.out.x.o9.fresh F6.out).kept t7.keep (fun i hi hs => by have := B5.out.x.n9 i hi; have := hft i hs; omega)).evs)
      have O10 := Lib.hid (((B5.out.x.o10.fresh F6.out).kept t7.keep (fun i hi hs => by have := B5.out.x.n10 i hi; have := hft i hs; omega)).evs)
      have O88 := Lib.hid (((O8.out.fresh F65).kept t7.keep (fun i hi hs => N8.out i hi hs)).evs)
      have O19 := Lib.hid o7.evs
      have FE := Lib.hid (((Q4.out.fresh F65).next q7 t7).fr)
      have HL2 := Lib.hid (len_any g v1' v2 (l.drop gl.length) m w7 q7)
      rw [hll] at HL2
      have hul : (upTo l t).length ≤ 60 := Nat.le_trans (List.length_filter_le _ _) hl
      have hel : (early l t b).length ≤ 60 := Nat.le_trans (List.length_filter_le _ _) hul
      have EV1 : Hid (∀ W, Fresh w7 W → Calls Try.prog 26 #[.slice A9 (upTo l t).length c9, .slice A8 l.length c8] W fun e w' => e = .returned (.bool true) ∧ Fresh W w') := Lib.hid (fun W f => (events_any _ _ _ _ W (O9.out.fresh f) (O88.out.fresh f) (by omega) (by omega)).mono fun _ _ ⟨h1, h2⟩ => ⟨by rw [h1, HE1.out], h2⟩)
      have EV2 : Hid (∀ W, Fresh w7 W → Calls Try.prog 26 #[.slice A19 gl.length c19, .slice A10 (early l t b).length c10] W fun e w' => e = .returned (.bool true) ∧ Fresh W w') := Lib.hid (fun W f => (events_any _ _ _ _ W (O19.out.fresh f) (O10.out.fresh f) (by omega) (by omega)).mono fun _ _ ⟨h1, h2⟩ => ⟨by rw [h1, HE2.out], h2⟩)
      clear o7 q7 t7 n7 F65 hft hul hel hll
      go_wp2_with fail
      refine HL2.out.mono ?_
      rintro e w8 ⟨rfl, f8⟩
      have F8 := Lib.hid f8
      clear f8
      go_wp2_with fail
      refine (EV1.out _ F8.out).mono ?_
      rintro e w9 ⟨rfl, f9⟩
      have F9 := Lib.hid (F8.out.step f9 (fun _ _ h => h))
      clear f9
      go_wp2_with fail
      refine (EV2.out _ F9.out).mono ?_
      rintro e w10 ⟨rfl, f10⟩
      have F10 := Lib.hid (F9.out.step f10 (fun _ _ h => h))
      clear f10
      go_wp2_with fail
      refine (awake_any _).mono ?_
      rintro e w11 ⟨rfl, f11⟩
      have F11 := Lib.hid (F10.out.step f11 (fun _ _ h => h))
      clear f11
      go_wp2_with fail
      go_ret
      exact ⟨rfl, Fresh.below_ (FE.out.step F11.out (fun _ _ h => h)) (Nat.le_refl _)⟩
    | some y =>
      rw [hne] at HN
      have hsome := Lib.hid (next_some SRT.out hne)
      clear hne
      go_wp2_with fail
      refine HN.out.mono ?_
      rintro e w5 ⟨rfl, f5⟩
      have B5 := Lib.hid (HB.out.fresh f5)
      clear f5 HN HB
      have HBt : Hid (Calls Try.prog 25 #[.pointer (some ⟨g, 0, none⟩), .int .i64 y.a] w5 (ListedP (atT l y.a) w5)) := Lib.hid (batch_any g v1 v2 l m y.a w5 (Q4.out.q.fresh B5.out.x.f) (by omega))
      have hsome2 := hsome.out
      have HUP := Lib.hid (upTo_next SRT.out.asc hsome2.2.1 hsome2.2.2)
      have HEA := Lib.hid (early_next (b := b) HUP.out)
      have HPOS := atT_pos hsome2.1
      have HFEW := Lib.hid (later_less hsome2.1 hsome2.2.1)
      have HAT := Lib.hid (atT_a (l := l) (t := y.a))
      have hbl : (atT l y.a).length ≤ 60 := Nat.le_trans (List.length_filter_le _ _) hl
      have tn : decide (y.a ≤ t) = false := decide_eq_false (by have := hsome2.2.1; omega)
      obtain ⟨bq, hbq⟩ : ∃ bq, atT l y.a = bq := ⟨_, rfl⟩
      rw [hbq] at HBt HUP HEA HPOS HAT hbl
      have tb : decide (bq.length = 0) = false := decide_eq_false (by omega)
      have tb2 : ((bq.length : Int) == 0) = false := by rw [beq_eq_false_iff_ne]; omega
      have tb3 : (bq.length == 0) = false := by rw [beq_eq_false_iff_ne]; omega
      have tb4 : ¬ bq.length = 0 := by omega
      have tb5 : ¬ bq = [] := fun e => by rw [e] at HPOS; simp at HPOS
      clear hsome2 hbq HPOS
      go_wp2_with fail
      refine HBt.out.mono ?_
      rintro e w6 ⟨v15, rfl, o6, f6, n6⟩
      obtain ⟨A15, c15, rfl, hc15, hm15⟩ := o6.shape
      have hm15 : c15 ≤ 9223372036854775807 := by unfold maxLen at hm15; omega
      have B6 := Lib.hid (B5.out.fresh f6)
      have O6 := Lib.hid o6
      have N6 := Lib.hid (B5.out.x.off n6)
      have N6' := Lib.hid (B5.out.x.flip.off n6)
      clear o6 f6 n6 HBt
      go_wp2_with fail
      go_loopg [16] bq.length (fun gk u16 wr => ∃ k : Nat, k ≤ bq.length ∧ gk = bq.length - k ∧ u16 = .int .i64 k ∧ Fresh w6 wr)
      case atStart => exact ⟨0, by omega, rfl, rfl, Keep.refl _ _⟩
      case round =>
        obtain ⟨k, hk, rfl, rfl, hF⟩ := hrel
        have HF := Lib.hid hF
        clear hF
        by_cases hkl : k < bq.length
        · obtain ⟨z, hz⟩ : ∃ z, bq[k]? = some z := ⟨_, List.getElem?_eq_getElem hkl⟩
          obtain ⟨g6, off6, _, hv6, hg6, _, _, hc⟩ := (O6.out.fresh HF.out).form (by omega)
          injection hv6 with e1 e2 e3
          subst e1 e3
          have c0 := hc _ _ (cells_at bq k z hz).1
          rw [HAT.out z (List.mem_of_getElem? hz)] at c0
          clear hc hz
          go_wp2_with fail
          go_roundg (bq.length - (k + 1))
          case measure => omega
          case rel => exact ⟨k + 1, by omega, rfl, by go_num, HF.out⟩
        · obtain rfl : k = bq.length := by omega
          have BE := Lib.hid (B6.out.fresh HF.out)
          have SRC := Lib.hid (O6.out.fresh HF.out)
          have hul : (upTo l t).length ≤ 60 := Nat.le_trans (List.length_filter_le _ _) hl
          have hel : (early l t b).length ≤ 60 := Nat.le_trans (List.length_filter_le _ _) hul
          have hL1 := Lib.hid (show (upTo l t).length + bq.length ≤ maxLen from one_le_maxLen (by omega))
          have hL2 := Lib.hid (show ((upTo l t).length + bq.length) * 56 ≤ 140737488355328 by omega)
          have hL3 := Lib.hid (show (early l t b).length + bq.length ≤ maxLen from one_le_maxLen (by omega))
          have hL4 := Lib.hid (show ((early l t b).length + bq.length) * 56 ≤ 140737488355328 by omega)
          have FEW2 : Hid ((later l y.a).length + (i + 1) ≤ 60) := Lib.hid (by have := HFEW.out; have := B6.out.few; omega)
          by_cases hyb : y.a < b
          · have ty : decide (y.a < b) = true := decide_eq_true hyb
            have HEN := Lib.hid (HEA.out.trans (by rw [if_pos hyb]))
            clear hyb
            go_wp2_with (first
              | (at_builtin; refine wpList_append_OwnS _ rfl (.tmp 92) (.tmp 93) 42 rfl 25 i0 (.agg #[.int .i64 0, .int .i64 0, .int .i64 0, .int .i64 0, .int .i64 0, .int .i64 0, .int .i64 0]) 7 56 Try.underlying42 hi hz0 hz1 hz2 rfl h07.out (.slice A9 (upTo l t).length c9) (upTo l t).length (cells (upTo l t)) rfl BE.out.x.o9 (.slice A15 bq.length c15) bq.length (cells bq) rfl SRC.out.src (cells_one _) hL1.out hL2.out ?_; intro v7 w7 o7 k7 n7; obtain ⟨A7, c7, rfl, _, _⟩ := o7.shape; have X7 := Lib.hid (BE.out.x.app o7 k7 n7); have SRC7 := Lib.hid (SRC.out.kept k7 N6.out); clear o7 k7 n7)
              | (at_builtin; refine wpList_append_OwnS _ rfl (.tmp 98) (.tmp 99) 42 rfl 25 i0 (.agg #[.int .i64 0, .int .i64 0, .int .i64 0, .int .i64 0, .int .i64 0, .int .i64 0, .int .i64 0]) 7 56 Try.underlying42 hi hz0 hz1 hz2 rfl h07.out (.slice A10 (early l t b).length c10) (early l t b).length (cells (early l t b)) rfl X7.out.o10 (.slice A15 bq.length c15) bq.length (cells bq) rfl SRC7.out.src (cells_one _) hL3.out hL4.out ?_; intro v8 w8 o8 k8 n8; obtain ⟨A8', c8', rfl, _, _⟩ := o8.shape; have X8 := Lib.hid (X7.out.flip.app o8 k8 n8).flip; clear o8 k8 n8))
            have NX : Hid (BR w4 l b (i + 1) y.a (.slice A7 ((upTo l t).length + bq.length) c7) (.slice A8' ((early l t b).length + bq.length) c8') w8) := Lib.hid ⟨by rw [HUP.out, HEN.out]; exact X8.out, FEW2.out⟩
            go_roundg (61 - (i + 1))
            case measure => omega
            case rel => exact ⟨i + 1, y.a, _, _, by have := FEW2.out; omega, rfl, rfl, rfl, rfl, by go_num, NX.out⟩
          · have ty : decide (y.a < b) = false := decide_eq_false hyb
            have HEN := Lib.hid (HEA.out.trans (by rw [if_neg hyb, List.append_nil]))
            clear hyb
            go_wp2_with (at_builtin; refine wpList_append_OwnS _ rfl (.tmp 92) (.tmp 93) 42 rfl 25 i0 (.agg #[.int .i64 0, .int .i64 0, .int .i64 0, .int .i64 0, .int .i64 0, .int .i64 0, .int .i64 0]) 7 56 Try.underlying42 hi hz0 hz1 hz2 rfl h07.out (.slice A9 (upTo l t).length c9) (upTo l t).length (cells (upTo l t)) rfl BE.out.x.o9 (.slice A15 bq.length c15) bq.length (cells bq) rfl SRC.out.src (cells_one _) hL1.out hL2.out ?_; intro v7 w7 o7 k7 n7; obtain ⟨A7, c7, rfl, _, _⟩ := o7.shape; have X7 := Lib.hid (BE.out.x.app o7 k7 n7); clear o7 k7 n7)
            have NX : Hid (BR w4 l b (i + 1) y.a (.slice A7 ((upTo l t).length + bq.length) c7) (.slice A10 (early l t b).length c10) w7) := Lib.hid ⟨by rw [HUP.out, HEN.out]; exact X7.out, FEW2.out⟩
            go_roundg (61 - (i + 1))
            case measure => omega
            case rel => exact ⟨i + 1, y.a, _, _, by have := FEW2.out; omega, rfl, rfl, rfl, rfl, by go_num, NX.out⟩
open Go.ChangeShapes Go.WideShapes Go.ChangeAt
set_option maxRecDepth 100000 in
theorem inqBatches_lifted (os : Os) (started : os.Started) (H : Type) (enc : TypeId × Value → H) :
    ReturnsInHanded {} Try.checked os 7 .any (Rows.inqBatchesSpec.pre6 enc Try.prog Try.f7 Rows.inqBatchesRow.domain false) (Rows.inqBatchesSpec.post enc Try.prog Try.f7 false true false false) := by
  refine law_lifted (C := Try.checked) (tb := 4) (by kernel_rfl) (by kernel_rfl) started (by kernel_rfl) Try.func7 rfl ?_ rfl Try.underlying4 (by kernel_rfl)
    (ChangeSpec.witness6 (enc := enc) (C := Try.checked) false ⟨#[], #[.slice none 0 0, .int .i64 0], []⟩ 12 (by kernel_rfl) (by kernel_rfl) (by kernel_rfl) (by kernel_rfl)) ?_
  · intro ds hds
    match ds, hds with
    | [e0, e1], _ => rfl
  · intro W base args ds p hval hA hreach
    rw [Try.params7] at hA hval hreach
    obtain ⟨v0, vs0, d0, ds0, p0, q0, hargs, rfl, rfl, h0, r0⟩ := trodAll_cons hA
    obtain ⟨v1, vs1, d1, ds1, p1, q1, rfl, rfl, rfl, h1, r1⟩ := trodAll_cons r0
    obtain ⟨rfl, rfl, rfl⟩ := trodAll_nil r1
    obtain rfl : args = #[v0, v1] := by cases args; simp_all
    obtain ⟨A_l, n_l, c_l, rows_l, rfl, len_l, cap_l, max_l, leaf_l, at_l⟩ := arg_slice (n := 6) Try.underlying30 (by kernel_rfl) (by kernel_rfl) (by rw [show Try.prog.cellsOf 34 = 8 by kernel_rfl]; decide) (hval 0 30 v0 rfl rfl) h0
    rw [show flat Try.prog 6 34 = [3, 3, 3, 3, 3, 3, 3, 4] by kernel_rfl] at leaf_l
    rw [show Try.prog.cellsOf 34 = 8 by kernel_rfl] at at_l
    obtain ⟨b, rfl, w_b⟩ := arg_int Try.underlying3 (hval 1 3 v1 rfl rfl) h1
    obtain ⟨ms, hms, hat⟩ := msgs_arg leaf_l at_l
    have hn : ms.length = n_l := hms.trans len_l
    subst hn
    by_cases hm : 60 < ms.length
    · exact batches_many A_l ms.length c_l b W hm
    · exact batches_any A_l c_l ms b W hat (by omega)

theorem inqBatches_holds : Rows.InqBatchesSaid :=
  OpenClaim.holds_of_wide 7 Try.f7 rfl rfl rfl rfl rfl rfl rfl ⟨rfl, rfl, rfl, rfl, rfl⟩ rfl rfl rfl rfl rfl (by kernel_rfl) Try.func7 (by kernel_rfl)
    (of_decide_eq_true (by kernel_rfl)) (by unfold Func.isWrapper; first | (rw [if_pos (by decide +kernel)]; kernel_rfl) | (rw [if_neg (by decide +kernel)]; exact ⟨rfl, rfl⟩))
    (fun os started H enc _ => inqBatches_lifted os started H enc)
end Go.Proofs.Ytecobebndjnhnaa
