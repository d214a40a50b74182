/- Chapter 13: RunM. -/
import Derived.Test.YthbcdkeammhakaaGreatP06
import Derived.Test.YthbcdkeammhakaaGreatP11
import Derived.Test.YthbcdkeammhakaaGreatP12
import Derived.Deep.DeepCutAuto
set_option maxRecDepth 100000
set_option maxHeartbeats 16000000
namespace Go.Proofs.YthbcdkeammhakaaGreat
open Go.RowKit
attribute [local go_sem ↓] Go.wp_at_zero Go.wp_at_succ
def runS (lp : Int) (s : St) (e : Ev) : St := ⟨(s.s0 * 31 + e.x + e.a + e.s + lp + 1000) % 997, wrap64 (s.s1 + 1), (s.s2 + (s.s0 * 31 + e.x + e.a + e.s + lp + 1000) % 997) % 10007, s.s3⟩
def runO (md lp : Int) (s : St) (e : Ev) (n : Nat) : List Ev := if md < 1 ∨ s.s0 % md = 0 then [] else if e.a + 1 + s.s0 % 5 ≤ 1073741824 then [⟨e.a + 1 + s.s0 % 5, lp, e.a, n, s.s0 % 3, s.s0 % 2, s.s2 % 7⟩] else []
def runStep (md lp : Int) (st : St × List Ev) (e : Ev) : St × List Ev := (runS lp st.1 e, st.2 ++ runO md lp (runS lp st.1 e) e st.2.length)
def runP (md lp : Int) (s : St) (l : List Ev) : St × List Ev := l.foldl (runStep md lp) (s, [])
def OkS (s : St) : Prop := 0 ≤ s.s0 ∧ s.s0 ≤ 1000000 ∧ 0 ≤ s.s2 ∧ s.s2 ≤ 1000000
def SmE (e : Ev) : Prop := -1 ≤ e.s ∧ e.s ≤ 1000 ∧ 0 ≤ e.x ∧ e.x ≤ 1000000
theorem runP_succ {md lp : Int} {s : St} {l : List Ev} {q : Nat} {e : Ev} (he : l[q]? = some e) : runP md lp s (l.take (q + 1)) = runStep md lp (runP md lp s (l.take q)) e := by
 unfold runP
 rw [List.take_add_one, he, Option.toList_some, List.foldl_append]
 rfl
theorem run_any (md lp : Int) (s : St) (v : Value) (l : List Ev) (w : World) (hlp : 0 ≤ lp ∧ lp ≤ 31) (hmd : md < 1000) (hs : OkS s) (hev : ∀ e ∈ l, SmE e ∧ 0 ≤ e.a ∧ e.a ≤ 1073741824) (hu : EvAt w v l) (hl : l.length ≤ 1000) :
  Calls Tryz.prog 48 #[.agg #[.int .i64 md], .int .i64 lp, s.val, v] w fun en w' => ∃ v', en = .returned (.tuple #[(runP md lp s l).1.val, v']) ∧ OwnS w' 41 7 v' (runP md lp s l).2.length (cells (runP md lp s l).2) ∧ Fresh w w' ∧ ∀ k, v'.ownBlock = some k → w.heap.size ≤ k := by
 obtain ⟨A, cA, rfl, hat⟩ := hu
 have HA := Lib.hid hat
 have HS := Lib.hid hs
 have HE := Lib.hid hev
 clear hat hs hev
 obtain ⟨W0, hW0⟩ : ∃ W0, (((w.alloc (.cells #[.int .i64 md] 55)).alloc (.cells #[.int .i64 s.s0, .int .i64 s.s1, .int .i64 s.s2, .int .i64 s.s3] 23)).alloc (.cells #[.int .i64 0, .int .i64 0, .int .i64 0, .int .i64 0] 23)) = W0 := ⟨_, rfl⟩
 have F0 : Hid (Fresh w W0) := Lib.hid (hW0 ▸ (((Keep.refl _ w).alloc _).alloc _).alloc _)
 have B0 : Hid (Blk W0 w.heap.size 55 #[.int .i64 md]) := Lib.hid (hW0 ▸ ((Blk.new w _ _).alloc _).alloc _)
 have B1 : Hid (Blk W0 (w.heap.size + 1) 23 #[.int .i64 s.s0, .int .i64 s.s1, .int .i64 s.s2, .int .i64 s.s3]) := Lib.hid (hW0 ▸ (Blk.at_new (by simp) _ _).alloc _)
 have B2 : Hid (Blk W0 (w.heap.size + 2) 23 #[.int .i64 0, .int .i64 0, .int .i64 0, .int .i64 0]) := Lib.hid (hW0 ▸ Blk.at_new (by simp) _ _)
 obtain ⟨RP, hRP⟩ : ∃ RP, runP md lp s l = RP := ⟨_, rfl⟩
 have HRP := Lib.hid hRP
 rw [hRP]
 clear hRP
 obtain ⟨s0, s1, s2, s3⟩ := s
 unfold St.val
 simp only at hW0 B1 ⊢
 go_enter Tryz.func48, Tryz.ntmps48
 go_wp2_with fail
 clear hW0
 go_loopg [10, 11, 12, 13, 14] l.length (fun gk ov iv ev nv av wr => ∃ q : Nat, q ≤ l.length ∧ gk = l.length - q ∧ iv = .int .i64 q ∧ OkS (runP md lp ⟨s0, s1, s2, s3⟩ (l.take q)).1 ∧ Blk wr w.heap.size 55 #[.int .i64 md] ∧ Blk wr (w.heap.size + 1) 23 #[.int .i64 (runP md lp ⟨s0, s1, s2, s3⟩ (l.take q)).1.s0, .int .i64 (runP md lp ⟨s0, s1, s2, s3⟩ (l.take q)).1.s1, .int .i64 (runP md lp ⟨s0, s1, s2, s3⟩ (l.take q)).1.s2, .int .i64 (runP md lp ⟨s0, s1, s2, s3⟩ (l.take q)).1.s3] ∧ Blk wr (w.heap.size + 2) 23 #[.int .i64 0, .int .i64 0, .int .i64 0, .int .i64 0] ∧ OwnS wr 41 7 ov (runP md lp ⟨s0, s1, s2, s3⟩ (l.take q)).2.length (cells (runP md lp ⟨s0, s1, s2, s3⟩ (l.take q)).2) ∧ Fresh w wr ∧ (∀ k, ov.ownBlock = some k → w.heap.size + 3 ≤ k) ∧ (runP md lp ⟨s0, s1, s2, s3⟩ (l.take q)).2.length ≤ q)
 case atStart => exact ⟨0, by omega, rfl, rfl, HS.out, B0.out, B1.out, B2.out, OwnS.nil _ _ _, F0.out, fun k h => by simp [Value.ownBlock] at h, by simp [runP]⟩
 case round =>
  obtain ⟨q, hq, rfl, rfl, hok, hb0, hb1, hb2, hO, hF, hN, hlen⟩ := hrel
  obtain ⟨⟨⟨t0, t1, t2, t3⟩, out⟩, hR⟩ : ∃ R, runP md lp ⟨s0, s1, s2, s3⟩ (l.take q) = R := ⟨_, rfl⟩
  rw [hR] at hok hb1 hO hlen
  simp only at hok hb1 hO hlen
  have HR := Lib.hid hR
  have HB0 := Lib.hid hb0
  have HB1 := Lib.hid hb1
  have HB2 := Lib.hid hb2
  have HO := Lib.hid hO
  have HF := Lib.hid hF
  have HN := Lib.hid hN
  have HOK := Lib.hid hok
  obtain ⟨A10, c10, rfl, hc10, hm10⟩ := hO.shape
  have hm10 : c10 ≤ 9223372036854775807 := by unfold maxLen at hm10; omega
  clear hR hO hF hN
  by_cases hlt : q < l.length
  ·obtain ⟨e, he⟩ : ∃ e, l[q]? = some e := ⟨_, List.getElem?_eq_getElem hlt⟩
   obtain ⟨b, off, rfl, lt, hc⟩ := HA.out q e he
   have hc := fun j u hu => HF.out.cell_ (hc j u hu)
   have c0 : wr.cell? ⟨b, off + q * 7, none⟩ = some (.int .i64 e.a) := hc 0 _ rfl
   have c1 := hc 1 _ rfl
   have c2 := hc 2 _ rfl
   have c3 := hc 3 _ rfl
   have c4 := hc 4 _ rfl
   have c5 := hc 5 _ rfl
   have c6 := hc 6 _ rfl
   obtain ⟨⟨hs1, hs2, hx1, hx2⟩, ha1, ha2⟩ := HE.out e (List.mem_of_getElem? he)
   obtain ⟨hk1, hk2, hk3, hk4⟩ := hok
   simp only at hk1 hk2 hk3 hk4
   have d0 := hb0.cell
   have d1 := hb1.cell
   have f1 := hb1.frozen
   have l0 := hb0.lt
   have l1 := hb1.lt
   have tq : decide ((q : Int) < (l.length : Int)) = true := decide_eq_true (by omega)
   have tq' : decide (q < l.length) = true := decide_eq_true hlt
   have q1 : (q : Int) < (l.length : Int) := by omega
   obtain ⟨ea, es, et, en, ed, ek, ex⟩ := e
   simp only at hs1 hs2 hx1 hx2 ha1 ha2
   clear hc hb0 hb1 hb2 B0 B1 B2 F0
   go_upto_region 9 with (fail)
   have hz1 : 0 ≤ (t0 * 31 + ex + ea + es + lp + 1000) % 997 := Int.emod_nonneg _ (by omega)
   have hz2 : (t0 * 31 + ex + ea + es + lp + 1000) % 997 < 997 := Int.emod_lt_of_pos _ (by omega)
   have HST : Hid (runS lp ⟨t0, t1, t2, t3⟩ ⟨ea, es, et, en, ed, ek, ex⟩ = ⟨(t0 * 31 + ex + ea + es + lp + 1000) % 997, wrap64 (t1 + 1), (t2 + (t0 * 31 + ex + ea + es + lp + 1000) % 997) % 10007, t3⟩) := Lib.hid rfl
   obtain ⟨a0, ha0⟩ : ∃ a0, (t0 * 31 + ex + ea + es + lp + 1000) % 997 = a0 := ⟨_, rfl⟩
   rw [ha0] at hz1 hz2 HST ⊢
   have hz3 : 0 ≤ (t2 + a0) % 10007 := Int.emod_nonneg _ (by omega)
   have hz4 : (t2 + a0) % 10007 < 10007 := Int.emod_lt_of_pos _ (by omega)
   obtain ⟨a2, ha2'⟩ : ∃ a2, (t2 + a0) % 10007 = a2 := ⟨_, rfl⟩
   rw [ha2'] at hz3 hz4 HST ⊢
   obtain ⟨a1, ha1'⟩ : ∃ a1, wrap64 (t1 + 1) = a1 := ⟨_, rfl⟩
   rw [ha1'] at HST ⊢
   clear ha0 ha2' ha1'
   obtain ⟨W9, hW9⟩ : ∃ W9, (((wr.setCell ⟨w.heap.size + 1, 0, none⟩ (.int .i64 a0)).setCell ⟨w.heap.size + 1, 1, none⟩ (.int .i64 a1)).setCell ⟨w.heap.size + 1, 2, none⟩ (.int .i64 a2)).alloc (.cells #[.int .i64 ea, .int .i64 es, .int .i64 et, .int .i64 en, .int .i64 ed, .int .i64 ek, .int .i64 ex] 41) = W9 := ⟨_, rfl⟩
   have hFs := HF.out.size
   have F9 : Hid (Fresh w W9) := Lib.hid (by
    rw [← hW9]
    refine Keep.alloc (Keep.setCell (Keep.setCell (Keep.setCell HF.out (p := ⟨w.heap.size + 1, 0, none⟩) ?_ _) (p := ⟨w.heap.size + 1, 1, none⟩) ?_ _) (p := ⟨w.heap.size + 1, 2, none⟩) ?_ _) _ <;> (intro h; simp at h; try omega))
   have G0 : Hid (Blk W9 w.heap.size 55 #[.int .i64 md]) := Lib.hid (by
    rw [← hW9]
    exact (((HB0.out.far (p := ⟨w.heap.size + 1, 0, none⟩) (by simp) _).far (p := ⟨w.heap.size + 1, 1, none⟩) (by simp) _).far (p := ⟨w.heap.size + 1, 2, none⟩) (by simp) _).alloc _)
   have G1 : Hid (Blk W9 (w.heap.size + 1) 23 #[.int .i64 a0, .int .i64 a1, .int .i64 a2, .int .i64 t3]) := Lib.hid (by
    rw [← hW9]
    exact ((((HB1.out.set_ 0 _).set_ 1 _).set_ 2 _).alloc _))
   have G2 : Hid (Blk W9 (w.heap.size + 2) 23 #[.int .i64 0, .int .i64 0, .int .i64 0, .int .i64 0]) := Lib.hid (by
    rw [← hW9]
    exact (((HB2.out.far (p := ⟨w.heap.size + 1, 0, none⟩) (by simp) _).far (p := ⟨w.heap.size + 1, 1, none⟩) (by simp) _).far (p := ⟨w.heap.size + 1, 2, none⟩) (by simp) _).alloc _)
   have G3 : Hid (Blk W9 wr.heap.size 41 #[.int .i64 ea, .int .i64 es, .int .i64 et, .int .i64 en, .int .i64 ed, .int .i64 ek, .int .i64 ex]) := Lib.hid (by
    rw [← hW9]
    exact Blk.at_new (by simp) _ _)
   have O9 : Hid (OwnS W9 41 7 (.slice A10 out.length c10) out.length (cells out)) := Lib.hid (by
    rw [← hW9]
    refine (((HO.out.far (p := ⟨w.heap.size + 1, 0, none⟩) (fun h => ?_) _).far (p := ⟨w.heap.size + 1, 1, none⟩) (fun h => ?_) _).far (p := ⟨w.heap.size + 1, 2, none⟩) (fun h => ?_) _).alloc _ <;> (have := HN.out _ h; simp only at this; omega))
   have hl3 : wr.heap.size < W9.heap.size := G3.out.lt
   rw [hW9]
   clear hW9 c0 c1 c2 c3 c4 c5 c6 d0 d1 f1 l0 l1 lt
   have d0 := G0.out.cell
   have d1 := G1.out.cell
   have d3 := G3.out.cell
   have l0 := G0.out.lt
   have l1 := G1.out.lt
   have HSUC : Hid (runP md lp ⟨s0, s1, s2, s3⟩ (l.take (q + 1)) = (⟨a0, a1, a2, t3⟩, out ++ runO md lp ⟨a0, a1, a2, t3⟩ ⟨ea, es, et, en, ed, ek, ex⟩ out.length)) := Lib.hid (by
    rw [runP_succ he, HR.out]
    unfold runStep
    rw [HST.out])
   have HO2 : Hid (OkS ⟨a0, a1, a2, t3⟩) := Lib.hid ⟨hz1, by show a0 ≤ 1000000; omega, hz3, by show a2 ≤ 1000000; omega⟩
   have FINN : Hid (runO md lp ⟨a0, a1, a2, t3⟩ ⟨ea, es, et, en, ed, ek, ex⟩ out.length = [] → ∃ q' : Nat, q' ≤ l.length ∧ l.length - (q + 1) = l.length - q' ∧ Value.int .i64 ((q : Int) + 1) = .int .i64 q' ∧ OkS (runP md lp ⟨s0, s1, s2, s3⟩ (l.take q')).1 ∧ Blk W9 w.heap.size 55 #[.int .i64 md] ∧ Blk W9 (w.heap.size + 1) 23 #[.int .i64 (runP md lp ⟨s0, s1, s2, s3⟩ (l.take q')).1.s0, .int .i64 (runP md lp ⟨s0, s1, s2, s3⟩ (l.take q')).1.s1, .int .i64 (runP md lp ⟨s0, s1, s2, s3⟩ (l.take q')).1.s2, .int .i64 (runP md lp ⟨s0, s1, s2, s3⟩ (l.take q')).1.s3] ∧ Blk W9 (w.heap.size + 2) 23 #[.int .i64 0, .int .i64 0, .int .i64 0, .int .i64 0] ∧ OwnS W9 41 7 (.slice A10 out.length c10) (runP md lp ⟨s0, s1, s2, s3⟩ (l.take q')).2.length (cells (runP md lp ⟨s0, s1, s2, s3⟩ (l.take q')).2) ∧ Fresh w W9 ∧ (∀ k, (Value.slice A10 out.length c10).ownBlock = some k → w.heap.size + 3 ≤ k) ∧ (runP md lp ⟨s0, s1, s2, s3⟩ (l.take q')).2.length ≤ q') := Lib.hid (fun h0 => by
    refine ⟨q + 1, by omega, rfl, by go_num, ?_⟩
    rw [HSUC.out, h0, List.append_nil]
    exact ⟨HO2.out, G0.out, G1.out, G2.out, O9.out, F9.out, HN.out, Nat.le_succ_of_le hlen⟩)
   clear hq he
   by_cases hm1 : md < 1
   ·have t1 : decide (md < 1) = true := decide_eq_true hm1
    have h0 : runO md lp ⟨a0, a1, a2, t3⟩ ⟨ea, es, et, en, ed, ek, ex⟩ out.length = [] := by unfold runO; rw [if_pos (.inl hm1)]
    have FIN := Lib.hid (FINN.out h0)
    clear hm1 h0
    go_wp2_with fail
    go_roundg (l.length - (q + 1))
    case measure => omega
    case rel => exact FIN.out
   ·have t1 : decide (md < 1) = false := decide_eq_false hm1
    by_cases hm2 : a0 % md = 0
    ·have t2 : (a0 % md == 0) = true := by simp [hm2]
     have h0 : runO md lp ⟨a0, a1, a2, t3⟩ ⟨ea, es, et, en, ed, ek, ex⟩ out.length = [] := by unfold runO; rw [if_pos (.inr hm2)]
     have FIN := Lib.hid (FINN.out h0)
     have hmt : a0.tmod md = a0 % md := Int.tmod_eq_emod_of_nonneg hz1
     have hmm : 0 ≤ a0 % md ∧ a0 % md < md := ⟨Int.emod_nonneg _ (by omega), Int.emod_lt_of_pos _ (by omega)⟩
     clear h0
     go_wp2_with fail
     go_roundg (l.length - (q + 1))
     case measure => omega
     case rel => exact FIN.out
    ·have t2 : (a0 % md == 0) = false := by simp [hm2]
     have hmm : 0 ≤ a0 % md ∧ a0 % md < md := ⟨Int.emod_nonneg _ (by omega), Int.emod_lt_of_pos _ (by omega)⟩
     have h5 : 0 ≤ a0 % 5 ∧ a0 % 5 < 5 := ⟨Int.emod_nonneg _ (by omega), Int.emod_lt_of_pos _ (by omega)⟩
     by_cases hat : ea + 1 + a0 % 5 ≤ 1073741824
     ·have t3' : decide (ea + 1 + a0 % 5 ≤ 1073741824) = true := decide_eq_true hat
      have h0 : runO md lp ⟨a0, a1, a2, t3⟩ ⟨ea, es, et, en, ed, ek, ex⟩ out.length = [⟨ea + 1 + a0 % 5, lp, ea, out.length, a0 % 3, a0 % 2, a2 % 7⟩] := by
       unfold runO
       rw [if_neg (by simp; omega), if_pos hat]
      rw [h0] at HSUC
      clear h0 FINN hat
      obtain ⟨i0, hi, hz0, hz1', hz2'⟩ := info_parts info_ev
      have h07 : Hid (0 < 7) := Lib.hid (by omega)
      have g1 : out.length + 1 ≤ maxLen := one_le_maxLen (by omega)
      have g2 : (out.length + 1) * 56 ≤ 140737488355328 := by omega
      go_wp2_with (at_builtin; (refine wpList_append_OwnS _ rfl _ _ 24 rfl 41 i0 (.agg #[.int .i64 0, .int .i64 0, .int .i64 0, .int .i64 0, .int .i64 0, .int .i64 0, .int .i64 0]) 7 56 Tryz.underlying24 hi hz0 hz1' hz2' rfl h07.out (.slice A10 out.length c10) out.length (cells out) rfl (O9.out.alloc _) (.slice (some ⟨W9.heap.size, 0, none⟩) 1 1) 1 (cells [⟨ea + 1 + a0 % 5, lp, ea, out.length, a0 % 3, a0 % 2, a2 % 7⟩]) rfl (Src.one_new W9 41 7 #[.int .i64 (ea + 1 + a0 % 5), .int .i64 lp, .int .i64 ea, .int .i64 out.length, .int .i64 (a0 % 3), .int .i64 (a0 % 2), .int .i64 (a2 % 7)] rfl) (cells_one _) g1 g2 ?_); intro v7 w7 o7 k7 n7; rw [← cells_append] at o7; have O7 := Lib.hid o7; have K7 := Lib.hid k7; have N7 := Lib.hid n7; clear o7 k7 n7)
      go_roundg (l.length - (q + 1))
      case measure => omega
      case rel =>
       have hfs := F9.out.size
       have kk : ∀ g (cs : Array Value) t, Blk W9 g t cs → t ≠ 41 → Blk w7 g t cs := fun g cs t hb hne => (hb.alloc (.cells #[.int .i64 (ea + 1 + a0 % 5), .int .i64 lp, .int .i64 ea, .int .i64 out.length, .int .i64 (a0 % 3), .int .i64 (a0 % 2), .int .i64 (a2 % 7)] 41)).keep K7.out ((O9.out.alloc (.cells #[.int .i64 (ea + 1 + a0 % 5), .int .i64 lp, .int .i64 ea, .int .i64 out.length, .int .i64 (a0 % 3), .int .i64 (a0 % 2), .int .i64 (a2 % 7)] 41)).ne_blk (hb.alloc (.cells #[.int .i64 (ea + 1 + a0 % 5), .int .i64 lp, .int .i64 ea, .int .i64 out.length, .int .i64 (a0 % 3), .int .i64 (a0 % 2), .int .i64 (a2 % 7)] 41)) (Ne.symm hne))
       refine ⟨q + 1, by omega, rfl, by go_num, ?_⟩
       rw [HSUC.out]
       refine ⟨HO2.out, kk _ _ _ G0.out (by decide), kk _ _ _ G1.out (by decide), kk _ _ _ G2.out (by decide), by rw [List.length_append]; exact O7.out, (F9.out.alloc _).step K7.out (fun k hk h => by have := HN.out k h; omega), fun k hk => ?_, by rw [List.length_append]; simp only [List.length_singleton]; omega⟩
       rcases N7.out k hk with h | h
       ·exact HN.out k h
       ·simp at h; omega
     ·have t3' : decide (ea + 1 + a0 % 5 ≤ 1073741824) = false := decide_eq_false hat
      have h0 : runO md lp ⟨a0, a1, a2, t3⟩ ⟨ea, es, et, en, ed, ek, ex⟩ out.length = [] := by
       unfold runO
       rw [if_neg (by simp; omega), if_neg hat]
      have FIN := Lib.hid (FINN.out h0)
      clear h0 hat
      go_wp2_with fail
      go_roundg (l.length - (q + 1))
      case measure => omega
      case rel => exact FIN.out
  ·obtain rfl : q = l.length := by omega
   rw [List.take_length] at HR
   have hRP : RP = (⟨t0, t1, t2, t3⟩, out) := HRP.out.symm.trans HR.out
   subst hRP
   have tq : decide ((l.length : Int) < (l.length : Int)) = false := decide_eq_false (by omega)
   have d1 := hb1.cell
   have l1 := hb1.lt
   have d2 := hb2.cell
   have f2 := hb2.frozen
   have l2 := hb2.lt
   clear hb0 hb1 hb2
   go_wp2_with fail
   have BF := (((HB2.out.set_ 0 (.int .i64 t0)).set_ 1 (.int .i64 t1)).set_ 2 (.int .i64 t2)).set_ 3 (.int .i64 t3)
   have CF := BF.cell
   have hfs := HF.out.size
   refine bodyPost_ret (v := .tuple #[.agg #[.int .i64 t0, .int .i64 t1, .int .i64 t2, .int .i64 t3], .slice A10 out.length c10]) (by simp [results, Tryz.results48, go_sem, CF]; try rfl) rfl ⟨_, rfl, ?_, ?_, fun k hk => by have := HN.out k hk; omega⟩
   ·refine (((HO.out.far (p := ⟨w.heap.size + 1 + 1, 0, none⟩) (fun h => ?_) _).far (p := ⟨w.heap.size + 1 + 1, 1, none⟩) (fun h => ?_) _).far (p := ⟨w.heap.size + 1 + 1, 2, none⟩) (fun h => ?_) _).far (p := ⟨w.heap.size + 1 + 1, 3, none⟩) (fun h => ?_) _ <;> (have := HN.out _ h; simp only at this; omega)
   ·refine Keep.setCell (Keep.setCell (Keep.setCell (Keep.setCell HF.out (p := ⟨w.heap.size + 1 + 1, 0, none⟩) ?_ _) (p := ⟨w.heap.size + 1 + 1, 1, none⟩) ?_ _) (p := ⟨w.heap.size + 1 + 1, 2, none⟩) ?_ _) (p := ⟨w.heap.size + 1 + 1, 3, none⟩) ?_ _ <;> (intro h; simp at h; try omega)
end Go.Proofs.YthbcdkeammhakaaGreat
