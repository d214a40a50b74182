/- Chapter 13: RunM, PBatch, PNext, OEvFns. -/
import Derived.Test.YthbcdkeammhakaaGreatM01
import Derived.Test.YthbcdkeammhakaaGreatM06
import Derived.Deep.DeepCutAuto
import Derived.Test.YthbcdkeammhakaaGreatRows
import Derived.Test.YthbcdkeammhakaaGreatM02
import Derived.Handy
import Derived.BigQuiet
import Derived.BigRegion
import Derived.Deep.QuietTactic
import Derived.Deep.RegionHeld3
import Derived.Deep.RegionLaw
import Derived.Deep.DrawnRows
import Derived.Deep.LoopGhost
import Derived.StillTailTactics
import Derived.LaidEqlPtr
import Derived.Lib.LazyBuf
/-
  The rules: what events of one time do.
-/
namespace Go.Proofs.YthbcdkeammhakaaGreat
open Go.RowKit
attribute [local go_sem ↓] Go.wp_at_zero Go.wp_at_succ
def runS (lp : Int) (s : St) (e : Ev) : St := ⟨(s.s0 * 31 + e.x + e.a + e.s + lp + 1000) % 997, wrap64 (s.s1 + 1), (s.s2 + (s.s0 * 31 + e.x + e.a + e.s + lp + 1000) % 997) % 10007, s.s3⟩
def runO (md lp : Int) (s : St) (e : Ev) (n : Nat) : List Ev := if md < 1 ∨ s.s0 % md = 0 then [] else if e.a + 1 + s.s0 % 5 ≤ 1073741824 then [⟨e.a + 1 + s.s0 % 5, lp, e.a, n, s.s0 % 3, s.s0 % 2, s.s2 % 7⟩] else []
def runStep (md lp : Int) (st : St × List Ev) (e : Ev) : St × List Ev := (runS lp st.1 e, st.2 ++ runO md lp (runS lp st.1 e) e st.2.length)
def runP (md lp : Int) (s : St) (l : List Ev) : St × List Ev := l.foldl (runStep md lp) (s, [])
/-- states and events that the small rules take -/
def OkS (s : St) : Prop := 0 ≤ s.s0 ∧ s.s0 ≤ 1000000 ∧ 0 ≤ s.s2 ∧ s.s2 ≤ 1000000
def SmE (e : Ev) : Prop := -1 ≤ e.s ∧ e.s ≤ 1000 ∧ 0 ≤ e.x ∧ e.x ≤ 1000000
theorem runP_succ {md lp : Int} {s : St} {l : List Ev} {q : Nat} {e : Ev} (he : l[q]? = some e) : runP md lp s (l.take (q + 1)) = runStep md lp (runP md lp s (l.take q)) e := by
  unfold runP
  rw [List.take_add_one, he, Option.toList_some, List.foldl_append]
  rfl
set_option maxRecDepth 100000 in
set_option maxHeartbeats 8000000 in
theorem run_any (md lp : Int) (s : St) (v : Value) (l : List Ev) (w : World) (hlp : 0 ≤ lp ∧ lp ≤ 31) (hmd : md < 1000) (hs : OkS s) (hev : ∀ e ∈ l, SmE e ∧ 0 ≤ e.a ∧ e.a ≤ 1073741824) (hu : EvAt w v l) (hl : l.length ≤ 1000) :
    Calls Tryz.prog 48 #[.agg #[.int .i64 md], .int .i64 lp, s.val, v] w fun en w' => ∃ v', en = .returned (.tuple #[(runP md lp s l).1.val, v']) ∧ OwnS w' 41 7 v' (runP md lp s l).2.length (cells (runP md lp s l).2) ∧ Fresh w w' ∧ ∀ k, v'.ownBlock = some k → w.heap.size ≤ k := by
  obtain ⟨A, cA, rfl, hat⟩ := hu
  have HA := Lib.hid hat
  have HS := Lib.hid hs
  have HE := Lib.hid hev
  clear hat hs hev
  obtain ⟨W0, hW0⟩ : ∃ W0, (((w.alloc (.cells #[.int .i64 md] 55)).alloc (.cells #[.int .i64 s.s0, .int .i64 s.s1, .int .i64 s.s2, .int .i64 s.s3] 23)).alloc (.cells #[.int .i64 0, .int .i64 0, .int .i64 0, .int .i64 0] 23)) = W0 := ⟨_, rfl⟩
  have F0 : Hid (Fresh w W0) := Lib.hid (hW0 ▸ (((Keep.refl _ w).alloc _).alloc _).alloc _)
  have B0 : Hid (Blk W0 w.heap.size 55 #[.int .i64 md]) := Lib.hid (hW0 ▸ ((Blk.new w _ _).alloc _).alloc _)
  have B1 : Hid (Blk W0 (w.heap.size + 1) 23 #[.int .i64 s.s0, .int .i64 s.s1, .int .i64 s.s2, .int .i64 s.s3]) := Lib.hid (hW0 ▸ (Blk.at_new (by simp) _ _).alloc _)
  have B2 : Hid (Blk W0 (w.heap.size + 2) 23 #[.int .i64 0, .int .i64 0, .int .i64 0, .int .i64 0]) := Lib.hid (hW0 ▸ Blk.at_new (by simp) _ _)
  obtain ⟨RP, hRP⟩ : ∃ RP, runP md lp s l = RP := ⟨_, rfl⟩
  have HRP := Lib.hid hRP
  rw [hRP]
  clear hRP
  obtain ⟨s0, s1, s2, s3⟩ := s
  unfold St.val
  simp only at hW0 B1 ⊢
  go_enter Tryz.func48, Tryz.ntmps48
  go_wp2_with fail
  clear hW0
  go_loopg [10, 11, 12, 13, 14] l.length (fun gk ov iv ev nv av wr => ∃ q : Nat, q ≤ l.length ∧ gk = l.length - q ∧ iv = .int .i64 q ∧ OkS (runP md lp ⟨s0, s1, s2, s3⟩ (l.take q)).1 ∧ Blk wr w.heap.size 55 #[.int .i64 md] ∧ Blk wr (w.heap.size + 1) 23 #[.int .i64 (runP md lp ⟨s0, s1, s2, s3⟩ (l.take q)).1.s0, .int .i64 (runP md lp ⟨s0, s1, s2, s3⟩ (l.take q)).1.s1, .int .i64 (runP md lp ⟨s0, s1, s2, s3⟩ (l.take q)).1.s2, .int .i64 (runP md lp ⟨s0, s1, s2, s3⟩ (l.take q)).1.s3] ∧ Blk wr (w.heap.size + 2) 23 #[.int .i64 0, .int .i64 0, .int .i64 0, .int .i64 0] ∧ OwnS wr 41 7 ov (runP md lp ⟨s0, s1, s2, s3⟩ (l.take q)).2.length (cells (runP md lp ⟨s0, s1, s2, s3⟩ (l.take q)).2) ∧ Fresh w wr ∧ (∀ k, ov.ownBlock = some k → w.heap.size + 3 ≤ k) ∧ (runP md lp ⟨s0, s1, s2, s3⟩ (l.take q)).2.length ≤ q)
  case atStart => exact ⟨0, by omega, rfl, rfl, HS.out, B0.out, B1.out, B2.out, OwnS.nil _ _ _, F0.out, fun k h => by simp [Value.ownBlock] at h, by simp [runP]⟩
  case round =>
    obtain ⟨q, hq, rfl, rfl, hok, hb0, hb1, hb2, hO, hF, hN, hlen⟩ := hrel
    obtain ⟨⟨⟨t0, t1, t2, t3⟩, out⟩, hR⟩ : ∃ R, runP md lp ⟨s0, s1, s2, s3⟩ (l.take q) = R := ⟨_, rfl⟩
    rw [hR] at hok hb1 hO hlen
    simp only at hok hb1 hO hlen
    have HR := Lib.hid hR
    have HB0 := Lib.hid hb0
    have HB1 := Lib.hid hb1
    have HB2 := Lib.hid hb2
    have HO := Lib.hid hO
    have HF := Lib.hid hF
    have HN := Lib.hid hN
    have HOK := Lib.hid hok
    obtain ⟨A10, c10, rfl, hc10, hm10⟩ := hO.shape
    have hm10 : c10 ≤ 9223372036854775807 := by unfold maxLen at hm10; omega
    clear hR hO hF hN
    by_cases hlt : q < l.length
    · obtain ⟨e, he⟩ : ∃ e, l[q]? = some e := ⟨_, List.getElem?_eq_getElem hlt⟩
      obtain ⟨b, off, rfl, lt, hc⟩ := HA.out q e he
      have hc := fun j u hu => HF.out.cell_ (hc j u hu)
      have c0 : wr.cell? ⟨b, off + q * 7, none⟩ = some (.int .i64 e.a) := hc 0 _ rfl
      have c1 := hc 1 _ rfl
      have c2 := hc 2 _ rfl
      have c3 := hc 3 _ rfl
      have c4 := hc 4 _ rfl
      have c5 := hc 5 _ rfl
      have c6 := hc 6 _ rfl
      obtain ⟨⟨hs1, hs2, hx1, hx2⟩, ha1, ha2⟩ := HE.out e (List.mem_of_getElem? he)
      obtain ⟨hk1, hk2, hk3, hk4⟩ := hok
      simp only at hk1 hk2 hk3 hk4
      have d0 := hb0.cell
      have d1 := hb1.cell
      have f1 := hb1.frozen
      have l0 := hb0.lt
      have l1 := hb1.lt
      have tq : decide ((q : Int) < (l.length : Int)) = true := decide_eq_true (by omega)
      have tq' : decide (q < l.length) = true := decide_eq_true hlt
      have q1 : (q : Int) < (l.length : Int) := by omega
      obtain ⟨ea, es, et, en, ed, ek, ex⟩ := e
      simp only at hs1 hs2 hx1 hx2 ha1 ha2
      clear hc hb0 hb1 hb2 B0 B1 B2 F0
      go_upto_region 9 with (fail)
      have hz1 : 0 ≤ (t0 * 31 + ex + ea + es + lp + 1000) % 997 := Int.emod_nonneg _ (by omega)
      have hz2 : (t0 * 31 + ex + ea + es + lp + 1000) % 997 < 997 := Int.emod_lt_of_pos _ (by omega)
      have HST : Hid (runS lp ⟨t0, t1, t2, t3⟩ ⟨ea, es, et, en, ed, ek, ex⟩ = ⟨(t0 * 31 + ex + ea + es + lp + 1000) % 997, wrap64 (t1 + 1), (t2 + (t0 * 31 + ex + ea + es + lp + 1000) % 997) % 10007, t3⟩) := Lib.hid rfl
      obtain ⟨a0, ha0⟩ : ∃ a0, (t0 * 31 + ex + ea + es + lp + 1000) % 997 = a0 := ⟨_, rfl⟩
      rw [ha0] at hz1 hz2 HST ⊢
      have hz3 : 0 ≤ (t2 + a0) % 10007 := Int.emod_nonneg _ (by omega)
      have hz4 : (t2 + a0) % 10007 < 10007 := Int.emod_lt_of_pos _ (by omega)
      obtain ⟨a2, ha2'⟩ : ∃ a2, (t2 + a0) % 10007 = a2 := ⟨_, rfl⟩
      rw [ha2'] at hz3 hz4 HST ⊢
      obtain ⟨a1, ha1'⟩ : ∃ a1, wrap64 (t1 + 1) = a1 := ⟨_, rfl⟩
      rw [ha1'] at HST ⊢
      clear ha0 ha2' ha1'
      obtain ⟨W9, hW9⟩ : ∃ W9, (((wr.setCell ⟨w.heap.size + 1, 0, none⟩ (.int .i64 a0)).setCell ⟨w.heap.size + 1, 1, none⟩ (.int .i64 a1)).setCell ⟨w.heap.size + 1, 2, none⟩ (.int .i64 a2)).alloc (.cells #[.int .i64 ea, .int .i64 es, .int .i64 et, .int .i64 en, .int .i64 ed, .int .i64 ek, .int .i64 ex] 41) = W9 := ⟨_, rfl⟩
      have hFs := HF.out.size
      have F9 : Hid (Fresh w W9) := Lib.hid (by
        rw [← hW9]
        refine Keep.alloc (Keep.setCell (Keep.setCell (Keep.setCell HF.out (p := ⟨w.heap.size + 1, 0, none⟩) ?_ _) (p := ⟨w.heap.size + 1, 1, none⟩) ?_ _) (p := ⟨w.heap.size + 1, 2, none⟩) ?_ _) _ <;> (intro h; simp at h; try omega))
      have G0 : Hid (Blk W9 w.heap.size 55 #[.int .i64 md]) := Lib.hid (by
        rw [← hW9]
        exact (((HB0.out.far (p := ⟨w.heap.size + 1, 0, none⟩) (by simp) _).far (p := ⟨w.heap.size + 1, 1, none⟩) (by simp) _).far (p := ⟨w.heap.size + 1, 2, none⟩) (by simp) _).alloc _)
      have G1 : Hid (Blk W9 (w.heap.size + 1) 23 #[.int .i64 a0, .int .i64 a1, .int .i64 a2, .int .i64 t3]) := Lib.hid (by
        rw [← hW9]
        exact ((((HB1.out.set_ 0 _).set_ 1 _).set_ 2 _).alloc _))
      have G2 : Hid (Blk W9 (w.heap.size + 2) 23 #[.int .i64 0, .int .i64 0, .int .i64 0, .int .i64 0]) := Lib.hid (by
        rw [← hW9]
        exact (((HB2.out.far (p := ⟨w.heap.size + 1, 0, none⟩) (by simp) _).far (p := ⟨w.heap.size + 1, 1, none⟩) (by simp) _).far (p := ⟨w.heap.size + 1, 2, none⟩) (by simp) _).alloc _)
      have G3 : Hid (Blk W9 wr.heap.size 41 #[.int .i64 ea, .int .i64 es, .int .i64 et, .int .i64 en, .int .i64 ed, .int .i64 ek, .int .i64 ex]) := Lib.hid (by
        rw [← hW9]
        exact Blk.at_new (by simp) _ _)
      have O9 : Hid (OwnS W9 41 7 (.slice A10 out.length c10) out.length (cells out)) := Lib.hid (by
        rw [← hW9]
        refine (((HO.out.far (p := ⟨w.heap.size + 1, 0, none⟩) (fun h => ?_) _).far (p := ⟨w.heap.size + 1, 1, none⟩) (fun h => ?_) _).far (p := ⟨w.heap.size + 1, 2, none⟩) (fun h => ?_) _).alloc _ <;> (have := HN.out _ h; simp only at this; omega))
      have hl3 : wr.heap.size < W9.heap.size := G3.out.lt
      rw [hW9]
      clear hW9 c0 c1 c2 c3 c4 c5 c6 d0 d1 f1 l0 l1 lt
      have d0 := G0.out.cell
      have d1 := G1.out.cell
      have d3 := G3.out.cell
      have l0 := G0.out.lt
      have l1 := G1.out.lt
      have HSUC : Hid (runP md lp ⟨s0, s1, s2, s3⟩ (l.take (q + 1)) = (⟨a0, a1, a2, t3⟩, out ++ runO md lp ⟨a0, a1, a2, t3⟩ ⟨ea, es, et, en, ed, ek, ex⟩ out.length)) := Lib.hid (by
        rw [runP_succ he, HR.out]
        unfold runStep
        rw [HST.out])
      have HO2 : Hid (OkS ⟨a0, a1, a2, t3⟩) := Lib.hid ⟨hz1, by show a0 ≤ 1000000; omega, hz3, by show a2 ≤ 1000000; omega⟩
      have FINN : Hid (runO md lp ⟨a0, a1, a2, t3⟩ ⟨ea, es, et, en, ed, ek, ex⟩ out.length = [] → ∃ q' : Nat, q' ≤ l.length ∧ l.length - (q + 1) = l.length - q' ∧ Value.int .i64 ((q : Int) + 1) = .int .i64 q' ∧ OkS (runP md lp ⟨s0, s1, s2, s3⟩ (l.take q')).1 ∧ Blk W9 w.heap.size 55 #[.int .i64 md] ∧ Blk W9 (w.heap.size + 1) 23 #[.int .i64 (runP md lp ⟨s0, s1, s2, s3⟩ (l.take q')).1.s0, .int .i64 (runP md lp ⟨s0, s1, s2, s3⟩ (l.take q')).1.s1, .int .i64 (runP md lp ⟨s0, s1, s2, s3⟩ (l.take q')).1.s2, .int .i64 (runP md lp ⟨s0, s1, s2, s3⟩ (l.take q')).1.s3] ∧ Blk W9 (w.heap.size + 2) 23 #[.int .i64 0, .int .i64 0, .int .i64 0, .int .i64 0] ∧ OwnS W9 41 7 (.slice A10 out.length c10) (runP md lp ⟨s0, s1, s2, s3⟩ (l.take q')).2.length (cells (runP md lp ⟨s0, s1, s2, s3⟩ (l.take q')).2) ∧ Fresh w W9 ∧ (∀ k, (Value.slice A10 out.length c10).ownBlock = some k → w.heap.size + 3 ≤ k) ∧ (runP md lp ⟨s0, s1, s2, s3⟩ (l.take q')).2.length ≤ q') := Lib.hid (fun h0 => by
        refine ⟨q + 1, by omega, rfl, by go_num, ?_⟩
        rw [HSUC.out, h0, List.append_nil]
        exact ⟨HO2.out, G0.out, G1.out, G2.out, O9.out, F9.out, HN.out, Nat.le_succ_of_le hlen⟩)
      clear hq he
      by_cases hm1 : md < 1
      · have t1 : decide (md < 1) = true := decide_eq_true hm1
        have h0 : runO md lp ⟨a0, a1, a2, t3⟩ ⟨ea, es, et, en, ed, ek, ex⟩ out.length = [] := by unfold runO; rw [if_pos (.inl hm1)]
        have FIN := Lib.hid (FINN.out h0)
        clear hm1 h0
        go_wp2_with fail
        go_roundg (l.length - (q + 1))
        case measure => omega
        case rel => exact FIN.out
      · have t1 : decide (md < 1) = false := decide_eq_false hm1
        by_cases hm2 : a0 % md = 0
        · have t2 : (a0 % md == 0) = true := by simp [hm2]
          have h0 : runO md lp ⟨a0, a1, a2, t3⟩ ⟨ea, es, et, en, ed, ek, ex⟩ out.length = [] := by unfold runO; rw [if_pos (.inr hm2)]
          have FIN := Lib.hid (FINN.out h0)
          have hmt : a0.tmod md = a0 % md := Int.tmod_eq_emod_of_nonneg hz1
          have hmm : 0 ≤ a0 % md ∧ a0 % md < md := ⟨Int.emod_nonneg _ (by omega), Int.emod_lt_of_pos _ (by omega)⟩
          clear h0
          go_wp2_with fail
          go_roundg (l.length - (q + 1))
          case measure => omega
          case rel => exact FIN.out
        · have t2 : (a0 % md == 0) = false := by simp [hm2]
          have hmm : 0 ≤ a0 % md ∧ a0 % md < md := ⟨Int.emod_nonneg _ (by omega), Int.emod_lt_of_pos _ (by omega)⟩
          have h5 : 0 ≤ a0 % 5 ∧ a0 % 5 < 5 := ⟨Int.emod_nonneg _ (by omega), Int.emod_lt_of_pos _ (by omega)⟩
          by_cases hat : ea + 1 + a0 % 5 ≤ 1073741824
          · have t3' : decide (ea + 1 + a0 % 5 ≤ 1073741824) = true := decide_eq_true hat
            have h0 : runO md lp ⟨a0, a1, a2, t3⟩ ⟨ea, es, et, en, ed, ek, ex⟩ out.length = [⟨ea + 1 + a0 % 5, lp, ea, out.length, a0 % 3, a0 % 2, a2 % 7⟩] := by
              unfold runO
              rw [if_neg (by simp; omega), if_pos hat]
            rw [h0] at HSUC
            clear h0 FINN hat
            obtain ⟨i0, hi, hz0, hz1', hz2'⟩ := info_parts info_ev
            have h07 : Hid (0 < 7) := Lib.hid (by omega)
            have g1 : out.length + 1 ≤ maxLen := one_le_maxLen (by omega)
            have g2 : (out.length + 1) * 56 ≤ 140737488355328 := by omega
            go_wp2_with (at_builtin; (refine wpList_append_OwnS _ rfl _ _ 24 rfl 41 i0 (.agg #[.int .i64 0, .int .i64 0, .int .i64 0, .int .i64 0, .int .i64 0, .int .i64 0, .int .i64 0]) 7 56 Tryz.underlying24 hi hz0 hz1' hz2' rfl h07.out (.slice A10 out.length c10) out.length (cells out) rfl (O9.out.alloc _) (.slice (some ⟨W9.heap.size, 0, none⟩) 1 1) 1 (cells [⟨ea + 1 + a0 % 5, lp, ea, out.length, a0 % 3, a0 % 2, a2 % 7⟩]) rfl (Src.one_new W9 41 7 #[.int .i64 (ea + 1 + a0 % 5), .int .i64 lp, .int .i64 ea, .int .i64 out.length, .int .i64 (a0 % 3), .int .i64 (a0 % 2), .int .i64 (a2 % 7)] rfl) (cells_one _) g1 g2 ?_); intro v7 w7 o7 k7 n7; rw [← cells_append] at o7; have O7 := Lib.hid o7; have K7 := Lib.hid k7; have N7 := Lib.hid n7; clear o7 k7 n7)
            go_roundg (l.length - (q + 1))
            case measure => omega
            case rel =>
              have hfs := F9.out.size
              have kk : ∀ g (cs : Array Value) t, Blk W9 g t cs → t ≠ 41 → Blk w7 g t cs := fun g cs t hb hne => (hb.alloc (.cells #[.int .i64 (ea + 1 + a0 % 5), .int .i64 lp, .int .i64 ea, .int .i64 out.length, .int .i64 (a0 % 3), .int .i64 (a0 % 2), .int .i64 (a2 % 7)] 41)).keep K7.out ((O9.out.alloc (.cells #[.int .i64 (ea + 1 + a0 % 5), .int .i64 lp, .int .i64 ea, .int .i64 out.length, .int .i64 (a0 % 3), .int .i64 (a0 % 2), .int .i64 (a2 % 7)] 41)).ne_blk (hb.alloc (.cells #[.int .i64 (ea + 1 + a0 % 5), .int .i64 lp, .int .i64 ea, .int .i64 out.length, .int .i64 (a0 % 3), .int .i64 (a0 % 2), .int .i64 (a2 % 7)] 41)) (Ne.symm hne))
              refine ⟨q + 1, by omega, rfl, by go_num, ?_⟩
              rw [HSUC.out]
              refine ⟨HO2.out, kk _ _ _ G0.out (by decide), kk _ _ _ G1.out (by decide), kk _ _ _ G2.out (by decide), by rw [List.length_append]; exact O7.out, (F9.out.alloc _).step K7.out (fun k hk h => by have := HN.out k h; omega), fun k hk => ?_, by rw [List.length_append]; simp only [List.length_singleton]; omega⟩
              rcases N7.out k hk with h | h
              · exact HN.out k h
              · simp at h; omega
          · have t3' : decide (ea + 1 + a0 % 5 ≤ 1073741824) = false := decide_eq_false hat
            have h0 : runO md lp ⟨a0, a1, a2, t3⟩ ⟨ea, es, et, en, ed, ek, ex⟩ out.length = [] := by
              unfold runO
              rw [if_neg (by simp; omega), if_neg hat]
            have FIN := Lib.hid (FINN.out h0)
            clear h0 hat
            go_wp2_with fail
            go_roundg (l.length - (q + 1))
            case measure => omega
            case rel => exact FIN.out
    · obtain rfl : q = l.length := by omega
      rw [List.take_length] at HR
      have hRP : RP = (⟨t0, t1, t2, t3⟩, out) := HRP.out.symm.trans HR.out
      subst hRP
      have tq : decide ((l.length : Int) < (l.length : Int)) = false := decide_eq_false (by omega)
      have d1 := hb1.cell
      have l1 := hb1.lt
      have d2 := hb2.cell
      have f2 := hb2.frozen
      have l2 := hb2.lt
      clear hb0 hb1 hb2
      go_wp2_with fail
      have BF := (((HB2.out.set_ 0 (.int .i64 t0)).set_ 1 (.int .i64 t1)).set_ 2 (.int .i64 t2)).set_ 3 (.int .i64 t3)
      have CF := BF.cell
      have hfs := HF.out.size
      refine bodyPost_ret (v := .tuple #[.agg #[.int .i64 t0, .int .i64 t1, .int .i64 t2, .int .i64 t3], .slice A10 out.length c10]) (by simp [results, Tryz.results48, go_sem, CF]; try rfl) rfl ⟨_, rfl, ?_, ?_, fun k hk => by have := HN.out k hk; omega⟩
      · refine (((HO.out.far (p := ⟨w.heap.size + 1 + 1, 0, none⟩) (fun h => ?_) _).far (p := ⟨w.heap.size + 1 + 1, 1, none⟩) (fun h => ?_) _).far (p := ⟨w.heap.size + 1 + 1, 2, none⟩) (fun h => ?_) _).far (p := ⟨w.heap.size + 1 + 1, 3, none⟩) (fun h => ?_) _ <;> (have := HN.out _ h; simp only at this; omega)
      · refine Keep.setCell (Keep.setCell (Keep.setCell (Keep.setCell HF.out (p := ⟨w.heap.size + 1 + 1, 0, none⟩) ?_ _) (p := ⟨w.heap.size + 1 + 1, 1, none⟩) ?_ _) (p := ⟨w.heap.size + 1 + 1, 2, none⟩) ?_ _) (p := ⟨w.heap.size + 1 + 1, 3, none⟩) ?_ _ <;> (intro h; simp at h; try omega)
end Go.Proofs.YthbcdkeammhakaaGreat

/-
  inq.Queue: Batch.
-/
namespace Go.Proofs.YthbcdkeammhakaaGreat
open Go.RowKit Go.Shelf
attribute [local go_sem] Oper.semAt_some
attribute [local go_sem ↓] Go.wp_at_zero Go.wp_at_succ

/-- what the loop's own cells hold when pre has come -/
def PInv (c : Ev → Bool) (b0 : Int) (w : World) (pre : List Ev) (W : World) : Prop :=
  ((∃ v, Blk W (w.heap.size + 1) 24 #[v] ∧ OwnS W 41 7 v (pre.filter c).length (cells (pre.filter c)) ∧ ∀ k, v.ownBlock = some k → w.heap.size ≤ k) ∧ Blk W w.heap.size 3 #[.int .i64 b0]) ∧ Fresh w W
theorem pInv_own (c : Ev → Bool) (b0 : Int) (w : World) (B : Nat) (hB : w.heap.size ≤ B) : OwnFrom B (PInv c b0 w) := by
  intro pre X Y row hs hg hr
  obtain ⟨⟨⟨v, h1, h2, h3⟩, h5⟩, h4⟩ := hs
  have hr' : ∀ r, row = some r → ∃ o : Obj, X.heap[r]? = some o ∧ o.isCells = false := fun r e => (hr r e).2
  exact ⟨⟨⟨v, blk_grown h1 hg hr', ownS_grown h2 hg hr', h3⟩, blk_grown h5 hg hr'⟩, ownFrom_fresh (β := Unit) hB () X Y row h4 hg hr⟩
/-- what Drop leaves -/
def DropP (g : Nat) (v1 v2 : Value) (l m : List Ev) (b0 : Int) (w : World) (e : Ending) (w' : World) : Prop :=
  ∃ v' v1', e = .returned v' ∧ OwnS w' 41 7 v' (l.filter (fun y => decide (y.a < b0))).length (cells (l.filter (fun y => decide (y.a < b0)))) ∧ SQ w' g v1' v2 (l.drop (l.filter (fun y => decide (y.a < b0))).length) m ∧ Turn w w' g v1 v2 v1' v2 ∧ ∀ k, v'.ownBlock = some k → w.heap.size ≤ k
theorem del_head (v : Value) (k : Nat) (l : List Ev) (w : World) (ho : OwnS w 41 7 v l.length (cells l)) (hk : k ≤ l.length) (hl : l.length ≤ 1000000) :
    Calls Tryz.prog 110 #[v, .int .i64 0, .int .i64 (k : Nat)] w fun e w' => ∃ A' cap', e = .returned (.slice A' (l.drop k).length cap') ∧ OwnS w' 41 7 (.slice A' (l.drop k).length cap') (l.drop k).length (cells (l.drop k)) ∧ Keep (fun i => v.ownBlock = some i) w w' ∧ ∀ i, (Value.slice A' (l.drop k).length cap').ownBlock = some i → v.ownBlock = some i := by
  by_cases h0 : k = 0
  · subst h0
    obtain ⟨A, cap, rfl, hnc, hmc⟩ := ho.shape
    refine (del_same A l.length cap 0 w (Nat.zero_le _) hnc (by unfold maxLen at hmc; omega)).mono ?_
    rintro e w' ⟨rfl, f⟩
    exact ⟨A, cap, by rw [List.drop_zero], by rw [List.drop_zero]; exact ho.fresh f, f.more (fun _ _ h => h.elim), fun i hi => by rw [List.drop_zero] at hi; exact hi⟩
  · obtain ⟨g', off, cap, rfl, _⟩ := ho.form (by omega)
    refine (del_j g' off cap 0 k l w ho (by omega) hk hl).mono ?_
    rintro e w' ⟨rfl, o, kp⟩
    have hd : 0 + (l.length - k) = (l.drop k).length := by simp
    rw [hd, List.take_zero, List.nil_append] at o
    exact ⟨_, cap, by rw [hd], o, kp.more (fun i _ h => by simp [Value.ownBlock, h]), fun i hi => hi⟩
/-- only the plain end is asked -/
def normOnly (K : Act → World → Prop) : Exit → Act → World → Prop
  | .normal, a, w => K a w
  | _, _, _ => False
theorem Fresh.pre_ {w W w' : World} {S : Nat → Prop} (f : Fresh w W) (k : Keep S W w') : Keep S w w' := (f.more (fun _ _ h => h.elim)).trans k
theorem SQ.grown {X Y : World} {row : Option Nat} {g : Nat} {v1 v2 : Value} {l m : List Ev} (h : SQ X g v1 v2 l m) (hg : X.grownBy Y row) (hr : ∀ r, row = some r → ∃ o : Obj, X.heap[r]? = some o ∧ o.isCells = false) : SQ Y g v1 v2 l m :=
  ⟨blk_grown h.blk hg hr, ownS_grown h.own1 hg hr, ownS_grown h.own2 hg hr, h.s1, h.s2, h.n1, h.n2, h.n12⟩
theorem Turn.grown {w X Y : World} {row : Option Nat} {g : Nat} {v1 v2 v1' v2' : Value} (h : Turn w X g v1 v2 v1' v2') (hg : X.grownBy Y row) (hr : ∀ r, row = some r → w.heap.size ≤ r) : Turn w Y g v1 v2 v1' v2' :=
  ⟨⟨hg.os.trans h.keep.os, hg.tape.trans h.keep.tape, hg.output.trans h.keep.output, Nat.le_trans h.keep.size hg.size, fun k hk hs =>
    (hg.block k (Nat.lt_of_lt_of_le hk h.keep.size) (fun e => by have := hr k e.symm; omega)).trans (h.keep.block k hk hs)⟩, h.later⟩
theorem filt_snoc (c : Ev → Bool) (pre : List Ev) (y : Ev) : (pre ++ [y]).filter c = pre.filter c ++ (if c y then [y] else []) := by
  rw [List.filter_append]
  congr 1
  cases h : c y <;> simp [List.filter, h]

set_option maxRecDepth 100000 in
set_option maxHeartbeats 8000000 in
theorem batch_any (g : Nat) (v1 v2 : Value) (l m : List Ev) (b0 : Int) (w : World) (h : SQ w g v1 v2 l m) (hl : l.length ≤ 100000) :
    Calls Tryz.prog 89 #[.pointer (some ⟨g, 0, none⟩), .int .i64 b0] w (ListedP (l.filter (fun y => y.a == b0)) w) := by
  obtain ⟨c, hcd⟩ : ∃ c : Ev → Bool, c = fun y => (y.a == b0) := ⟨_, rfl⟩
  have hcy : ∀ y : Ev, c y = (y.a == b0) := fun y => by rw [hcd]
  have HQ := Lib.hid h
  have HNL : Hid (∀ i, w.heap.size ≤ i → v1.ownBlock ≠ some i) := Lib.hid fun i hi he => by have := h.own1.lt he; omega
  have hbk : bk v1 < w.heap.size := by
    unfold bk
    cases hv : v1.ownBlock with
    | none => have := h.blk.lt; simp; omega
    | some k => simpa using h.own1.lt hv
  obtain ⟨A, cap, rfl, hnc, hmc⟩ := h.own1.shape
  have HO := Lib.hid h.own1
  have HE := Lib.hid (fun (W : World) (f : Fresh w W) => each_any g 0 A l.length cap W ((h.fresh f).blk.cell_ 0 rfl))
  obtain ⟨i0, hi, hz0, hz1, hz2⟩ := info_parts info_ev
  have HCD := Lib.hid hcd
  clear h hcd
  refine (callsIn_wide (n := 6)).1 ?_
  refine callsIn_of_wp_marks Tryz.func89 rfl trivial ?_ rfl
  simp only [Tryz.ntmps89, List.size_toArray, List.length_cons, List.length_nil, Nat.reduceAdd, Nat.reduceSub, Array.replicate_succ, Array.replicate_zero, List.push_toArray, List.append_toArray, List.nil_append, List.cons_append]
  refine wpIn_wide.2 ?_
  go_wp2_with (go_at_call 109; (with_reducible refine (HE.out _ (by (repeat (first | (with_reducible exact Keep.refl _ _) | (with_reducible assumption) | (with_reducible refine Keep.drew ?_) | (with_reducible refine Keep.drewN ?_ _) | (with_reducible refine Keep.alloc ?_ _) | (with_reducible refine Keep.setCell ?_ ?_ _) | (with_reducible refine fun _ => rfl))))).mono ?_); rintro e w1 ⟨b1, rfl, B1, N1, F1⟩)
  have E1 := F1.blk_ ((Blk.new w 3 #[.int .i64 b0]).alloc (.cells #[.slice none 0 0] 24))
  have M0 : Blk ((w.alloc (.cells #[.int .i64 b0] 3)).alloc (.cells #[.slice none 0 0] 24)) (w.heap.size + 1) 24 #[.slice none 0 0] := Blk.at_new (by simp) _ _
  have M1 := F1.blk_ M0
  clear M0
  have G1 : Fresh w w1 := (((Keep.refl _ w).alloc _).alloc _).step F1 (fun _ _ h => h)
  have KB := Lib.hid B1
  have KE := Lib.hid E1
  have KM := Lib.hid M1
  have KG := Lib.hid G1
  have szF := G1.size
  have szM := M1.lt
  simp only [seqV]
  clear F1 B1 E1 M1 G1 N1 HE
  refine (wpIn_wide (n := 6)).1 ?_
  refine wpIn_rangeFunc_ownH rfl (by omega) (gf := 143) (lb := #[.pointer (some ⟨b1, 0, none⟩)]) rfl trivial (enters_of Tryz.func143 (by kernel_rfl) rfl)
    (vals_stops Fence.wide (6 - 1) trivial rfl (by omega) b1 (.slice A l.length cap) l (by omega) w1 KB.out (HO.out.fresh KG.out)) keepsB_t keepsB_b (Below.refl _ _) (fun _ => rfl)
    (PInv c b0 w) (fun _ _ _ => False) (pInv_own c b0 w _ (by omega)) (fun _ _ _ _ _ hs _ _ => hs)
    ⟨⟨⟨.slice none 0 0, KM.out, OwnS.nil _ _ _, fun k hk => by simp [Value.ownBlock] at hk⟩, KE.out⟩, KG.out⟩
    (fun y a' W => ∃ Bx, Blk W Bx 41 #[.int .i64 y.a, .int .i64 y.s, .int .i64 y.t, .int .i64 y.n, .int .i64 y.d, .int .i64 y.k, .int .i64 y.x] ∧ a' = { tmps := #[.pointer (some ⟨g, 0, none⟩), .int .i64 b0, undef, .pointer (some ⟨w.heap.size, 0, none⟩), .slice none 0 0, .pointer (some ⟨w.heap.size + 1, 0, none⟩), .pointer (some ⟨Bx, 0, none⟩), .pointer (some ⟨g, 0, none⟩), .bool false, .pointer (some ⟨g, 0, none⟩), .pointer (some ⟨g, 0, none⟩), .pointer (some ⟨g, 0, none⟩), .pointer (some ⟨g, 0, none⟩), .func (.func 143) #[] #[.pointer (some ⟨b1, 0, none⟩)], .agg #[.int .i64 y.a, .int .i64 y.s, .int .i64 y.t, .int .i64 y.n, .int .i64 y.d, .int .i64 y.k, .int .i64 y.x], undef, undef, undef, undef, undef, undef, undef, undef, undef, undef], defers := [] }) ?ax ?assign ?body ?done ?stop
  case ax =>
    rintro x a' u X Y row ⟨Bx, h2, h3⟩ hg hr
    exact ⟨Bx, blk_grown h2 hg (fun r e => (hr r e).2), h3⟩
  case assign =>
    rintro lp pre y W K ⟨⟨⟨v2, b2, o2, n2⟩, e2⟩, f2⟩ hK
    unfold enc Ev.val
    gi_wp2
    exact hK _ _ ((KeepsOthers.alloc _ _).from _) ((KeepsB.refl _ _ _).alloc _) ⟨⟨⟨v2, b2.alloc _, o2.alloc _, n2⟩, e2.alloc _⟩, f2.alloc _⟩ ⟨W.heap.size, Blk.new W _ _, rfl⟩
  case body =>
    rintro lp pre y a' W hlp hrec ⟨⟨⟨v2, b2, o2, n2⟩, e2⟩, f2⟩ ⟨Bx, bx, rfl⟩ hlt
    obtain ⟨A2, cap2, rfl, _, _⟩ := o2.shape
    have hfl : (pre.filter c).length ≤ pre.length := List.length_filter_le _ _
    have cX := bx.cell
    have cE := e2.cell
    have ne2 := o2.ne_blk b2 (by decide)
    have neE := o2.ne_blk e2 (by decide)
    have hL1 := Lib.hid (show (pre.filter c).length + 1 ≤ maxLen from one_le_maxLen (by omega))
    have hL2 := Lib.hid (show ((pre.filter c).length + 1) * 56 ≤ 140737488355328 by omega)
    have HFL := Lib.hid (filt_snoc c pre y)
    obtain ⟨P, hP⟩ : ∃ P, pre.filter c = P := ⟨_, rfl⟩
    rw [hP] at b2 o2 n2 ne2 neE hL1 hL2 HFL
    clear hP hfl
    have c2 := b2.cell
    have r2 := b2.frozen
    have l2 := b2.lt
    have HC : Hid (Src (W.alloc (.cells #[.int .i64 y.a, .int .i64 y.s, .int .i64 y.t, .int .i64 y.n, .int .i64 y.d, .int .i64 y.k, .int .i64 y.x] 41)) 7 (.slice (some ⟨W.heap.size, 0, none⟩) 1 1) 1 (cells [y])) := Src.one_new W 41 7 #[.int .i64 y.a, .int .i64 y.s, .int .i64 y.t, .int .i64 y.n, .int .i64 y.d, .int .i64 y.k, .int .i64 y.x] rfl
    have h07 : Hid (0 < 7) := Lib.hid (by omega)
    have U1 := Lib.hid b2
    have U2 := Lib.hid o2
    have U3 := Lib.hid n2
    have U4 := Lib.hid f2
    have U5 := Lib.hid ne2
    have U6 := Lib.hid e2
    have U7 := Lib.hid neE
    have hq0 : Hid (c y = (y.a == b0)) := Lib.hid (hcy y)
    clear hcy
    clear b2 o2 n2 f2 ne2 e2 neE bx hrec
    cases hq : c y
    · rw [hq] at HFL
      have hq1 : ((y.a == b0)) = false := hq0.out.symm.trans hq
      clear hq hq0
      gi_wp2_with fail
      refine ⟨(keepsOthers_of_keep (S := fun _ => False) (Keep.refl _ W) (fun _ _ h => h.elim)).from _, KeepsB.refl _ _ _, ⟨⟨_, U1.out, ?_, U3.out⟩, U6.out⟩, U4.out⟩
      rw [HFL.out]
      simpa using U2.out
    · rw [hq] at HFL
      have hq1 : ((y.a == b0)) = true := hq0.out.symm.trans hq
      clear hq hq0
      gi_wp2_with (gi_at_builtin; refine wpListIn_append_OwnS _ rfl _ _ 24 rfl 41 i0 _ 7 56 Tryz.underlying24 hi hz0 hz1 hz2 rfl h07.out (.slice A2 P.length cap2) P.length (cells P) rfl (U2.out.alloc _) (.slice (some ⟨W.heap.size, 0, none⟩) 1 1) 1 (cells [y]) rfl HC.out (cells_one _) hL1.out hL2.out ?_; intro v3 w3 o3 k3 n3; obtain ⟨A3, cap3, rfl, _, _⟩ := o3.shape; have b3 := (U1.out.alloc (.cells #[.int .i64 y.a, .int .i64 y.s, .int .i64 y.t, .int .i64 y.n, .int .i64 y.d, .int .i64 y.k, .int .i64 y.x] 41)).keep k3 U5.out; have e3 := (U6.out.alloc (.cells #[.int .i64 y.a, .int .i64 y.s, .int .i64 y.t, .int .i64 y.n, .int .i64 y.d, .int .i64 y.k, .int .i64 y.x] 41)).keep k3 U7.out; have c3 := b3.cell; have r3 := b3.frozen; have l3 := b3.lt; have V1 := Lib.hid b3; have V2 := Lib.hid o3; have V3 := Lib.hid k3; have V4 := Lib.hid n3; have V6 := Lib.hid e3; clear b3 o3 k3 n3 e3)
      have K1 : Keep (fun k => k = w.heap.size + 1 ∨ (Value.slice A2 P.length cap2).ownBlock = some k) W (w3.setCell ⟨w.heap.size + 1, 0, none⟩ (.slice A3 (P.length + 1) cap3)) :=
        (((Keep.refl _ W).alloc _).step V3.out (fun _ _ h => .inr h)).setCell (p := ⟨w.heap.size + 1, 0, none⟩) (fun _ => .inl rfl) _
      refine ⟨(keepsOthers_of_keep K1 ?_).from _, KeepsB.of_keep' K1 ?_, ⟨⟨.slice A3 (P.length + 1) cap3, V1.out.set_ 0 _, ?_, ?_⟩, ?_⟩, ?_⟩
      · rintro k o (rfl | hk) ho
        · exact blk_isCells U1.out ho
        · exact own_isCells U2.out hk ho
      · rintro cur hcur (h | h)
        · rw [h] at hcur
          have := U1.out
          unfold Blk at this
          rw [this] at hcur
          cases hcur
        · have := U3.out _ h; omega
      · have := V2.out.far (p := ⟨w.heap.size + 1, 0, none⟩) (V2.out.ne_blk V1.out (by decide)) (.slice A3 (P.length + 1) cap3)
        rw [HFL.out]
        simp only [if_true, List.length_append, cells_append, List.length_cons, List.length_nil, Nat.zero_add]
        exact this
      · intro k hk
        rcases V4.out k hk with h | h
        · exact U3.out k h
        · have := U4.out.size
          simp at h
          omega
      · exact V6.out.keep (Keep.setCell (S := fun k => k = w.heap.size + 1) (Keep.refl _ w3) (p := ⟨w.heap.size + 1, 0, none⟩) (fun _ => rfl) _) (by omega)
      · exact U4.out.step K1 (by
          rintro k hk (h | h)
          · omega
          · have := U3.out k h; omega)
  case done =>
    rintro D ys W hD rfl hI hK
    obtain ⟨⟨⟨v2, b2, o2, n2⟩, e2⟩, f2⟩ := hI
    have hDl := (Array.getElem?_eq_some_iff.1 hK).1
    have hr : ∀ r, some D = some r → ∃ o : Obj, W.heap[r]? = some o ∧ o.isCells = false := fun r e => by cases e; exact ⟨_, hK, rfl⟩
    have o3 := ownS_grown o2 (grownBy_putObj' W D (.deferred none)) hr
    have f3 := ownFrom_fresh (β := Unit) (show w.heap.size ≤ w1.heap.size by omega) () W _ _ f2 (grownBy_putObj' W D (.deferred none)) (fun r e => by cases e; exact ⟨hD, _, hK, rfl⟩)
    have c2 := b2.cell
    obtain ⟨A2, cap2, rfl, _, _⟩ := o2.shape
    have l2 := b2.lt
    have U1 := Lib.hid o3
    have U2 := Lib.hid f3
    have U3 := Lib.hid n2
    clear b2 o2 n2 f2 o3 f3 e2
    go_wp2_with fail
    refine ⟨by simp, .inl ⟨_, _, rfl, run_takeDeferred hK, ?_⟩⟩
    have hc := HCD.out
    subst hc
    exact ⟨_, results_tmp rfl _ _ _, .slice A2 (List.filter (fun y => y.a == b0) ys).length cap2, rfl, U1.out, U2.out, U3.out⟩
  case stop =>
    rintro D c pre W _ _ h _
    exact h.elim

set_option maxRecDepth 100000 in
set_option maxHeartbeats 8000000 in
theorem drop_any (g : Nat) (v1 v2 : Value) (l m : List Ev) (b0 : Int) (w : World) (h : SQ w g v1 v2 l m) (hl : l.length ≤ 100000) :
    Calls Tryz.prog 63 #[.pointer (some ⟨g, 0, none⟩), .int .i64 b0] w (DropP g v1 v2 l m b0 w) := by
  obtain ⟨c, hcd⟩ : ∃ c : Ev → Bool, c = fun y => decide (y.a < b0) := ⟨_, rfl⟩
  have hcy : ∀ y : Ev, c y = decide (y.a < b0) := fun y => by rw [hcd]
  have HQ := Lib.hid h
  have HNL : Hid (∀ i, w.heap.size ≤ i → v1.ownBlock ≠ some i) := Lib.hid fun i hi he => by have := h.own1.lt he; omega
  have hbk : bk v1 < w.heap.size := by
    unfold bk
    cases hv : v1.ownBlock with
    | none => have := h.blk.lt; simp; omega
    | some k => simpa using h.own1.lt hv
  obtain ⟨A, cap, rfl, hnc, hmc⟩ := h.own1.shape
  have HO := Lib.hid h.own1
  have HE := Lib.hid (fun (W : World) (f : Fresh w W) => each_any g 0 A l.length cap W ((h.fresh f).blk.cell_ 0 rfl))
  obtain ⟨i0, hi, hz0, hz1, hz2⟩ := info_parts info_ev
  have HCD := Lib.hid hcd
  clear h hcd
  refine (callsIn_wide (n := 6)).1 ?_
  refine callsIn_of_wp_marks Tryz.func63 rfl trivial ?_ rfl
  simp only [Tryz.ntmps63, List.size_toArray, List.length_cons, List.length_nil, Nat.reduceAdd, Nat.reduceSub, Array.replicate_succ, Array.replicate_zero, List.push_toArray, List.append_toArray, List.nil_append, List.cons_append]
  refine wpIn_wide.2 ?_
  go_wp2_with (go_at_call 109; (with_reducible refine (HE.out _ (by (repeat (first | (with_reducible exact Keep.refl _ _) | (with_reducible assumption) | (with_reducible refine Keep.drew ?_) | (with_reducible refine Keep.drewN ?_ _) | (with_reducible refine Keep.alloc ?_ _) | (with_reducible refine Keep.setCell ?_ ?_ _) | (with_reducible refine fun _ => rfl))))).mono ?_); rintro e w1 ⟨b1, rfl, B1, N1, F1⟩)
  have E1 := F1.blk_ ((Blk.new w 3 #[.int .i64 b0]).alloc (.cells #[.slice none 0 0] 24))
  have M0 : Blk ((w.alloc (.cells #[.int .i64 b0] 3)).alloc (.cells #[.slice none 0 0] 24)) (w.heap.size + 1) 24 #[.slice none 0 0] := Blk.at_new (by simp) _ _
  have M1 := F1.blk_ M0
  clear M0
  have G1 : Fresh w w1 := (((Keep.refl _ w).alloc _).alloc _).step F1 (fun _ _ h => h)
  have KB := Lib.hid B1
  have KE := Lib.hid E1
  have KM := Lib.hid M1
  have KG := Lib.hid G1
  have szF := G1.size
  have szM := M1.lt
  simp only [seqV]
  clear F1 B1 E1 M1 G1 N1 HE
  refine (wpIn_wide (n := 6)).1 ?_
  refine wpIn_rangeFunc_ownH rfl (by omega) (gf := 143) (lb := #[.pointer (some ⟨b1, 0, none⟩)]) rfl trivial (enters_of Tryz.func143 (by kernel_rfl) rfl)
    (vals_stops Fence.wide (6 - 1) trivial rfl (by omega) b1 (.slice A l.length cap) l (by omega) w1 KB.out (HO.out.fresh KG.out)) keepsB_t keepsB_b (Below.refl _ _) (fun _ => rfl)
    (PInv c b0 w) (fun _ _ _ => False) (pInv_own c b0 w _ (by omega)) (fun _ _ _ _ _ hs _ _ => hs)
    ⟨⟨⟨.slice none 0 0, KM.out, OwnS.nil _ _ _, fun k hk => by simp [Value.ownBlock] at hk⟩, KE.out⟩, KG.out⟩
    (fun y a' W => ∃ Bx, Blk W Bx 41 #[.int .i64 y.a, .int .i64 y.s, .int .i64 y.t, .int .i64 y.n, .int .i64 y.d, .int .i64 y.k, .int .i64 y.x] ∧ a' = { tmps := #[.pointer (some ⟨g, 0, none⟩), .int .i64 b0, undef, .pointer (some ⟨w.heap.size, 0, none⟩), .slice none 0 0, .pointer (some ⟨w.heap.size + 1, 0, none⟩), .pointer (some ⟨Bx, 0, none⟩), .pointer (some ⟨g, 0, none⟩), .bool false, .pointer (some ⟨g, 0, none⟩), .pointer (some ⟨g, 0, none⟩), .pointer (some ⟨g, 0, none⟩), .pointer (some ⟨g, 0, none⟩), .func (.func 143) #[] #[.pointer (some ⟨b1, 0, none⟩)], .agg #[.int .i64 y.a, .int .i64 y.s, .int .i64 y.t, .int .i64 y.n, .int .i64 y.d, .int .i64 y.k, .int .i64 y.x], undef, undef, undef, undef, undef, undef, undef, undef, undef, undef, undef, undef, undef, undef, undef, undef, undef, undef, undef, undef, undef, undef, undef, undef], defers := [] }) ?ax ?assign ?body ?done ?stop
  case ax =>
    rintro x a' u X Y row ⟨Bx, h2, h3⟩ hg hr
    exact ⟨Bx, blk_grown h2 hg (fun r e => (hr r e).2), h3⟩
  case assign =>
    rintro lp pre y W K ⟨⟨⟨v2, b2, o2, n2⟩, e2⟩, f2⟩ hK
    unfold enc Ev.val
    gi_wp2
    exact hK _ _ ((KeepsOthers.alloc _ _).from _) ((KeepsB.refl _ _ _).alloc _) ⟨⟨⟨v2, b2.alloc _, o2.alloc _, n2⟩, e2.alloc _⟩, f2.alloc _⟩ ⟨W.heap.size, Blk.new W _ _, rfl⟩
  case body =>
    rintro lp pre y a' W hlp hrec ⟨⟨⟨v2, b2, o2, n2⟩, e2⟩, f2⟩ ⟨Bx, bx, rfl⟩ hlt
    obtain ⟨A2, cap2, rfl, _, _⟩ := o2.shape
    have hfl : (pre.filter c).length ≤ pre.length := List.length_filter_le _ _
    have cX := bx.cell
    have cE := e2.cell
    have ne2 := o2.ne_blk b2 (by decide)
    have neE := o2.ne_blk e2 (by decide)
    have hL1 := Lib.hid (show (pre.filter c).length + 1 ≤ maxLen from one_le_maxLen (by omega))
    have hL2 := Lib.hid (show ((pre.filter c).length + 1) * 56 ≤ 140737488355328 by omega)
    have HFL := Lib.hid (filt_snoc c pre y)
    obtain ⟨P, hP⟩ : ∃ P, pre.filter c = P := ⟨_, rfl⟩
    rw [hP] at b2 o2 n2 ne2 neE hL1 hL2 HFL
    clear hP hfl
    have c2 := b2.cell
    have r2 := b2.frozen
    have l2 := b2.lt
    have HC : Hid (Src (W.alloc (.cells #[.int .i64 y.a, .int .i64 y.s, .int .i64 y.t, .int .i64 y.n, .int .i64 y.d, .int .i64 y.k, .int .i64 y.x] 41)) 7 (.slice (some ⟨W.heap.size, 0, none⟩) 1 1) 1 (cells [y])) := Src.one_new W 41 7 #[.int .i64 y.a, .int .i64 y.s, .int .i64 y.t, .int .i64 y.n, .int .i64 y.d, .int .i64 y.k, .int .i64 y.x] rfl
    have h07 : Hid (0 < 7) := Lib.hid (by omega)
    have U1 := Lib.hid b2
    have U2 := Lib.hid o2
    have U3 := Lib.hid n2
    have U4 := Lib.hid f2
    have U5 := Lib.hid ne2
    have U6 := Lib.hid e2
    have U7 := Lib.hid neE
    have hq0 : Hid (c y = decide (y.a < b0)) := Lib.hid (hcy y)
    clear hcy
    clear b2 o2 n2 f2 ne2 e2 neE bx hrec
    cases hq : c y
    · rw [hq] at HFL
      have hq1 : (decide (y.a < b0)) = false := hq0.out.symm.trans hq
      clear hq hq0
      gi_wp2_with fail
      refine ⟨(keepsOthers_of_keep (S := fun _ => False) (Keep.refl _ W) (fun _ _ h => h.elim)).from _, KeepsB.refl _ _ _, ⟨⟨_, U1.out, ?_, U3.out⟩, U6.out⟩, U4.out⟩
      rw [HFL.out]
      simpa using U2.out
    · rw [hq] at HFL
      have hq1 : (decide (y.a < b0)) = true := hq0.out.symm.trans hq
      clear hq hq0
      gi_wp2_with (gi_at_builtin; refine wpListIn_append_OwnS _ rfl _ _ 24 rfl 41 i0 _ 7 56 Tryz.underlying24 hi hz0 hz1 hz2 rfl h07.out (.slice A2 P.length cap2) P.length (cells P) rfl (U2.out.alloc _) (.slice (some ⟨W.heap.size, 0, none⟩) 1 1) 1 (cells [y]) rfl HC.out (cells_one _) hL1.out hL2.out ?_; intro v3 w3 o3 k3 n3; obtain ⟨A3, cap3, rfl, _, _⟩ := o3.shape; have b3 := (U1.out.alloc (.cells #[.int .i64 y.a, .int .i64 y.s, .int .i64 y.t, .int .i64 y.n, .int .i64 y.d, .int .i64 y.k, .int .i64 y.x] 41)).keep k3 U5.out; have e3 := (U6.out.alloc (.cells #[.int .i64 y.a, .int .i64 y.s, .int .i64 y.t, .int .i64 y.n, .int .i64 y.d, .int .i64 y.k, .int .i64 y.x] 41)).keep k3 U7.out; have c3 := b3.cell; have r3 := b3.frozen; have l3 := b3.lt; have V1 := Lib.hid b3; have V2 := Lib.hid o3; have V3 := Lib.hid k3; have V4 := Lib.hid n3; have V6 := Lib.hid e3; clear b3 o3 k3 n3 e3)
      have K1 : Keep (fun k => k = w.heap.size + 1 ∨ (Value.slice A2 P.length cap2).ownBlock = some k) W (w3.setCell ⟨w.heap.size + 1, 0, none⟩ (.slice A3 (P.length + 1) cap3)) :=
        (((Keep.refl _ W).alloc _).step V3.out (fun _ _ h => .inr h)).setCell (p := ⟨w.heap.size + 1, 0, none⟩) (fun _ => .inl rfl) _
      refine ⟨(keepsOthers_of_keep K1 ?_).from _, KeepsB.of_keep' K1 ?_, ⟨⟨.slice A3 (P.length + 1) cap3, V1.out.set_ 0 _, ?_, ?_⟩, ?_⟩, ?_⟩
      · rintro k o (rfl | hk) ho
        · exact blk_isCells U1.out ho
        · exact own_isCells U2.out hk ho
      · rintro cur hcur (h | h)
        · rw [h] at hcur
          have := U1.out
          unfold Blk at this
          rw [this] at hcur
          cases hcur
        · have := U3.out _ h; omega
      · have := V2.out.far (p := ⟨w.heap.size + 1, 0, none⟩) (V2.out.ne_blk V1.out (by decide)) (.slice A3 (P.length + 1) cap3)
        rw [HFL.out]
        simp only [if_true, List.length_append, cells_append, List.length_cons, List.length_nil, Nat.zero_add]
        exact this
      · intro k hk
        rcases V4.out k hk with h | h
        · exact U3.out k h
        · have := U4.out.size
          simp at h
          omega
      · exact V6.out.keep (Keep.setCell (S := fun k => k = w.heap.size + 1) (Keep.refl _ w3) (p := ⟨w.heap.size + 1, 0, none⟩) (fun _ => rfl) _) (by omega)
      · exact U4.out.step K1 (by
          rintro k hk (h | h)
          · omega
          · have := U3.out k h; omega)
  case done =>
    rintro D ys W hD rfl hI hK
    obtain ⟨⟨⟨v2, b2, o2, n2⟩, e2⟩, f2⟩ := hI
    have hDl := (Array.getElem?_eq_some_iff.1 hK).1
    have hr : ∀ r, some D = some r → ∃ o : Obj, W.heap[r]? = some o ∧ o.isCells = false := fun r e => by cases e; exact ⟨_, hK, rfl⟩
    have FW : Hid (Fresh w W) := Lib.hid f2
    have Q2 := Lib.hid (HQ.out.fresh f2)
    have cQ := Q2.out.blk.cell
    have cL := b2.cell
    have fL := b2.frozen
    have lL := b2.lt
    obtain ⟨A2, cap2, rfl, _, _⟩ := o2.shape
    have T1 := Lib.hid b2
    have T2 := Lib.hid o2
    have T3 := Lib.hid n2
    have HK := Lib.hid hK
    clear b2 o2 n2 e2 f2 hK
    obtain ⟨P, hP⟩ : ∃ P, List.filter c ys = P := ⟨_, rfl⟩
    rw [hP] at cL T1 T2 T3
    have HP := Lib.hid hP
    have hPl : P.length ≤ ys.length := by rw [← hP]; exact List.length_filter_le _ _
    clear hP
    have hn1 := Lib.hid (HQ.out.n1)
    have HDW := Lib.hid (show w.heap.size ≤ D by omega)
    have HGN := Lib.hid (show w.heap.size + 1 ≠ g by have := HQ.out.blk.lt; omega)
    have HSD := Lib.hid (show Srt (ys.drop P.length) from List.Pairwise.sublist (List.drop_sublist _ _) HQ.out.s1)
    have HNO := Lib.hid (show ∀ i, (Value.slice A2 P.length cap2).ownBlock = some i → ¬ (i = g ∨ (Value.slice A ys.length cap).ownBlock = some i) from fun i hi hh => by
      have := T3.out i hi
      rcases hh with rfl | hh
      · have := HQ.out.blk.lt; omega
      · exact HNL.out i this hh)
    have HCS := Lib.hid (show ∀ k (o : Obj), (k = g ∨ (Value.slice A ys.length cap).ownBlock = some k) → W.heap[k]? = some o → o.isCells = true from fun k o hk ho => by
      rcases hk with rfl | hk
      · exact blk_isCells Q2.out.blk ho
      · exact own_isCells Q2.out.own1 hk ho)
    have HNE := Lib.hid (HNL.out (w.heap.size + 1) (Nat.le_succ _))
    have HD := Lib.hid (fun (W' : World) (f : Fresh W W') => del_head _ P.length ys W' (Q2.out.own1.fresh f) hPl (by omega))
    have kQ := fun (W' : World) (f : Fresh W W') (i : Nat) => (f.blk_ Q2.out.blk).cell i
    obtain ⟨Wd, hWd⟩ : ∃ Wd, W.drew = Wd := ⟨_, rfl⟩
    have FD : Fresh W Wd := hWd ▸ (Keep.refl _ W).drew
    have cQ := Q2.out.blk.cell
    have cL := T1.out.cell
    have cQd := (FD.blk_ Q2.out.blk).cell
    have cLd := (FD.blk_ T1.out).cell
    have HFD := Lib.hid FD
    have HD2 := Lib.hid (HD.out _ FD)
    clear FD
    rw [← hWd] at cQd cLd HFD HD2
    clear hWd HD
    go_wp2_with fail
    rename_i K0 hK0
    refine Code.wp_mono (Q := normOnly K0) (fun e a w h => by cases e <;> first | exact h | exact h.elim) ?_
    go_region_law (rw [if_pos (by simp [Region.wanted])]; go_simp; go_at_call 110; (with_reducible refine HD2.out.mono ?_); rintro en2 w3 ⟨A3, cap3, rfl, o3, k3, n3⟩; have kq := HFD.out.pre_ k3; have b3 := Q2.out.blk.keep kq hn1.out; have l3 := T1.out.keep kq HNE.out; have cq3 := b3.cell; have cq4 := b3.frozen; have cq5 := b3.lt; have cl3 := l3.cell; have O3 := Lib.hid o3; have K3 := Lib.hid kq; have N3 := Lib.hid n3; have B3 := Lib.hid b3; have L3 := Lib.hid l3; clear o3 k3 kq n3 b3 l3)
    all_goals
      have P1 := Lib.hid (show OwnS w3 41 7 (.slice A3 (ys.length - P.length) cap3) (ys.drop P.length).length (cells (ys.drop P.length)) from by have h := O3.out; rw [show (ys.drop P.length).length = ys.length - P.length from List.length_drop] at h ⊢; exact h)
      have P2 := Lib.hid (show ∀ i, (Value.slice A3 (ys.length - P.length) cap3).ownBlock = some i → (Value.slice A ys.length cap).ownBlock = some i from by have h := N3.out; rw [List.length_drop] at h; exact h)
      have K4 : Hid (Keep (fun i => i = g ∨ (Value.slice A ys.length cap).ownBlock = some i) W (w3.setCell ⟨g, 0, none⟩ (.slice A3 (ys.length - P.length) cap3))) := Lib.hid (Keep.setCell (K3.out.more (fun _ _ h => .inr h)) (p := ⟨g, 0, none⟩) (fun _ => .inl rfl) _)
      have L4 := Lib.hid (L3.out.far (p := ⟨g, 0, none⟩) HGN.out (.slice A3 (ys.length - P.length) cap3))
      have RW := row_fin (o := 0) Q2.out.blk (Keep.refl _ W) hn1.out P1.out K3.out (fun k hk => .inl (P2.out k hk))
      obtain ⟨v1', q4, t4⟩ := Q2.out.row0 RW HSD.out
      have Q4 := Lib.hid q4
      have TT := Lib.hid (Turn.after FW.out t4)
      have OL := Lib.hid (T2.out.kept K4.out HNO.out)
      have HK4 := Lib.hid ((keepsOthers_of_keep K4.out HCS.out).same D _ HK.out rfl)
      obtain ⟨w4, hw4⟩ : ∃ w4, w3.setCell ⟨g, 0, none⟩ (.slice A3 (ys.length - P.length) cap3) = w4 := ⟨_, rfl⟩
      refine hK0 _ _ ?_
      clear q4 t4
      rw [hw4] at Q4 TT OL HK4 L4 ⊢
      have cl4 := L4.out.cell
      clear hK0 hw4 RW K4 P1 P2 cq3 cq4 cq5 cl3 cQ cL cQd cLd
      go_wp2_with fail
      have hr4 : ∀ r, some D = some r → ∃ o : Obj, w4.heap[r]? = some o ∧ o.isCells = false := fun r e => by cases e; exact ⟨_, HK4.out, rfl⟩
      have hg4 := grownBy_putObj' w4 D (.deferred none)
      refine ⟨by simp, .inl ⟨_, _, rfl, run_takeDeferred HK4.out, ?_⟩⟩
      have hc := HCD.out
      subst hc
      have hP := HP.out
      subst hP
      exact ⟨_, results_tmp rfl _ _ _, .slice A2 (List.filter (fun y => decide (y.a < b0)) ys).length cap2, v1', rfl, ownS_grown OL.out hg4 hr4, Q4.out.grown hg4 hr4, TT.out.grown hg4 (fun r e => by cases e; have := HDW.out; omega), T3.out⟩
  case stop =>
    rintro D c pre W _ _ h _
    exact h.elim
end Go.Proofs.YthbcdkeammhakaaGreat

/-
  inq.Queue: Next.
-/
namespace Go.Proofs.YthbcdkeammhakaaGreat
open Go.RowKit Go.Shelf
attribute [local go_sem] Oper.semAt_some
attribute [local go_sem ↓] Go.wp_at_zero Go.wp_at_succ

/-- the first event behind a time -/
def nextE (l : List Ev) (a : Int) : Option Ev := l.find? (fun y => decide (a < y.a))
def NextP (o : Option Ev) (w : World) (e : Ending) (w' : World) : Prop :=
  (match o with
   | some y => e = .returned (.tuple #[.int .i64 y.a, .bool true])
   | none => e = .returned (.tuple #[.int .i64 0, .bool false])) ∧ Fresh w w'
theorem NextP.n {w w' : World} (f : Fresh w w') : NextP none w (.returned (.tuple #[.int .i64 0, .bool false])) w' := ⟨rfl, f⟩
theorem NextP.s {y : Ev} {w w' : World} (f : Fresh w w') : NextP (some y) w (.returned (.tuple #[.int .i64 y.a, .bool true])) w' := ⟨rfl, f⟩
/-- the cells' own part -/
structure NCells (a : Int) (x : Int) (b : Bool) (w W : World) : Prop where
  f : Fresh w W
  ba : Blk W w.heap.size 3 #[.int .i64 a]
  bx : Blk W (w.heap.size + 1) 3 #[.int .i64 x]
  bb : Blk W (w.heap.size + 2) 4 #[.bool b]
theorem NCells.own {a x : Int} {b : Bool} {w X Y : World} {row : Option Nat} {B : Nat} (hB : w.heap.size ≤ B) (h : NCells a x b w X) (hg : X.grownBy Y row) (hr : ∀ r, row = some r → B ≤ r ∧ ∃ o : Obj, X.heap[r]? = some o ∧ o.isCells = false) : NCells a x b w Y := by
  have hr' : ∀ r, row = some r → ∃ o : Obj, X.heap[r]? = some o ∧ o.isCells = false := fun r e => (hr r e).2
  exact ⟨ownFrom_fresh (β := Unit) hB () X Y row h.f hg hr, blk_grown h.ba hg hr', blk_grown h.bx hg hr', blk_grown h.bb hg hr'⟩
theorem NCells.alloc {a x : Int} {b : Bool} {w W : World} (h : NCells a x b w W) (o : Obj) : NCells a x b w (W.alloc o) := ⟨h.f.alloc _, h.ba.alloc _, h.bx.alloc _, h.bb.alloc _⟩
theorem NCells.put {a x : Int} {b : Bool} {w W : World} (h : NCells a x b w W) (x' : Int) (b' : Bool) : NCells a x' b' w ((W.setCell ⟨w.heap.size + 1, 0, none⟩ (.int .i64 x')).setCell ⟨w.heap.size + 2, 0, none⟩ (.bool b')) := by
  have K1 : Keep (fun k => k = w.heap.size + 1 ∨ k = w.heap.size + 2) W ((W.setCell ⟨w.heap.size + 1, 0, none⟩ (.int .i64 x')).setCell ⟨w.heap.size + 2, 0, none⟩ (.bool b')) :=
    ((Keep.refl _ W).setCell (p := ⟨w.heap.size + 1, 0, none⟩) (fun _ => .inl rfl) _).setCell (p := ⟨w.heap.size + 2, 0, none⟩) (fun _ => .inr rfl) _
  refine ⟨h.f.step K1 (by rintro k hk (rfl | rfl) <;> omega), h.ba.keep K1 (by omega), ?_, ?_⟩
  · have := (h.bx.set_ 0 (.int .i64 x')).far (p := ⟨w.heap.size + 2, 0, none⟩) (show w.heap.size + 1 ≠ w.heap.size + 2 by omega) (.bool b')
    simpa using this
  · have := (h.bb.far (p := ⟨w.heap.size + 1, 0, none⟩) (show w.heap.size + 2 ≠ w.heap.size + 1 by omega) (.int .i64 x')).set_ 0 (.bool b')
    simpa using this
set_option maxRecDepth 100000 in
set_option maxHeartbeats 8000000 in
theorem next_any (g : Nat) (v1 v2 : Value) (l m : List Ev) (a : Int) (w : World) (h : SQ w g v1 v2 l m) (hl : l.length ≤ 100000) :
    Calls Tryz.prog 82 #[.pointer (some ⟨g, 0, none⟩), .int .i64 a] w (NextP (nextE l a) w) := by
  obtain ⟨A, cap, rfl, hnc, hmc⟩ := h.own1.shape
  have HO := Lib.hid h.own1
  have HE := Lib.hid (fun (W : World) (f : Fresh w W) => each_any g 0 A l.length cap W ((h.fresh f).blk.cell_ 0 rfl))
  have B0 : Blk (((w.alloc (.cells #[.int .i64 a] 3)).alloc (.cells #[.int .i64 0] 3)).alloc (.cells #[.bool false] 4)) (w.heap.size + 1 + 1) 4 #[.bool false] := Blk.at_new (by simp) _ _
  have B1 : Blk ((w.alloc (.cells #[.int .i64 a] 3)).alloc (.cells #[.int .i64 0] 3)) (w.heap.size + 1) 3 #[.int .i64 0] := Blk.at_new (by simp) _ _
  have N0 : Hid (NCells a 0 false w (((w.alloc (.cells #[.int .i64 a] 3)).alloc (.cells #[.int .i64 0] 3)).alloc (.cells #[.bool false] 4))) := Lib.hid ⟨(((Keep.refl _ w).alloc _).alloc _).alloc _, ((Blk.new w _ _).alloc _).alloc _, B1.alloc _, B0⟩
  clear h B0 B1
  refine (callsIn_wide (n := 6)).1 ?_
  refine callsIn_of_wp_marks Tryz.func82 rfl trivial ?_ rfl
  simp only [Tryz.ntmps82, List.size_toArray, List.length_cons, List.length_nil, Nat.reduceAdd, Nat.reduceSub, Array.replicate_succ, Array.replicate_zero, List.push_toArray, List.append_toArray, List.nil_append, List.cons_append]
  refine wpIn_wide.2 ?_
  go_wp2_with (go_at_call 109; (with_reducible refine (HE.out _ N0.out.f).mono ?_); rintro e w1 ⟨b1, rfl, B1, N1, F1⟩)
  have NC : Hid (NCells a 0 false w w1) := Lib.hid ⟨N0.out.f.step F1 (fun _ _ h => h), F1.blk_ N0.out.ba, F1.blk_ N0.out.bx, F1.blk_ N0.out.bb⟩
  have KB := Lib.hid B1
  have szF := NC.out.f.size
  have szM := NC.out.bb.lt
  simp only [seqV]
  clear F1 B1 N1 HE N0
  refine (wpIn_wide (n := 6)).1 ?_
  refine wpIn_rangeFunc_ownH rfl (by omega) (gf := 143) (lb := #[.pointer (some ⟨b1, 0, none⟩)]) rfl trivial (enters_of Tryz.func143 (by kernel_rfl) rfl)
    (vals_stops Fence.wide (6 - 1) trivial rfl (by omega) b1 (.slice A l.length cap) l (by omega) w1 KB.out (HO.out.fresh NC.out.f)) keepsB_t keepsB_b (Below.refl _ _) (fun _ => rfl)
    (fun pre W => NCells a 0 false w W ∧ ∀ z ∈ pre, decide (a < z.a) = false)
    (fun c pre W => c = .ret ∧ ∃ pre' y, pre = pre' ++ [y] ∧ decide (a < y.a) = true ∧ (∀ z ∈ pre', decide (a < z.a) = false) ∧ NCells a y.a true w W) ?own ?ownx
    ⟨NC.out, by simp⟩
    (fun y a' W => ∃ Bx, Blk W Bx 41 #[.int .i64 y.a, .int .i64 y.s, .int .i64 y.t, .int .i64 y.n, .int .i64 y.d, .int .i64 y.k, .int .i64 y.x] ∧ a' = { tmps := #[.pointer (some ⟨g, 0, none⟩), .int .i64 a, undef, .pointer (some ⟨w.heap.size, 0, none⟩), .pointer (some ⟨w.heap.size + 1, 0, none⟩), .pointer (some ⟨w.heap.size + 1 + 1, 0, none⟩), .pointer (some ⟨Bx, 0, none⟩), .pointer (some ⟨g, 0, none⟩), .bool false, .pointer (some ⟨g, 0, none⟩), .pointer (some ⟨g, 0, none⟩), .pointer (some ⟨g, 0, none⟩), .pointer (some ⟨g, 0, none⟩), .func (.func 143) #[] #[.pointer (some ⟨b1, 0, none⟩)], .agg #[.int .i64 y.a, .int .i64 y.s, .int .i64 y.t, .int .i64 y.n, .int .i64 y.d, .int .i64 y.k, .int .i64 y.x], undef, undef, undef, undef, undef, undef, undef, undef], defers := [] }) ?ax ?assign ?body ?done ?stop
  case own =>
    intro pre X Y row hs hg hr
    exact ⟨hs.1.own (by omega) hg hr, hs.2⟩
  case ownx =>
    rintro c pre X Y row ⟨hc, p', y, h1, h2, h3, h4⟩ hg hr
    exact ⟨hc, p', y, h1, h2, h3, h4.own (by omega) hg hr⟩
  case ax =>
    rintro x a' u X Y row ⟨Bx, h2, h3⟩ hg hr
    exact ⟨Bx, blk_grown h2 hg (fun r e => (hr r e).2), h3⟩
  case assign =>
    rintro lp pre y W K ⟨f, s⟩ hK
    unfold enc Ev.val
    gi_wp2
    exact hK _ _ ((KeepsOthers.alloc _ _).from _) ((KeepsB.refl _ _ _).alloc _) ⟨f.alloc _, s⟩ ⟨W.heap.size, Blk.new W _ _, rfl⟩
  case body =>
    rintro lp pre y a' W hlp hrec ⟨f, s⟩ ⟨Bx, bx, rfl⟩ hlt
    have cX := bx.cell
    have cA := f.ba.cell
    have c1 := f.bx.cell
    have c2 := f.bb.cell
    have r1 := f.bx.frozen
    have r2 := f.bb.frozen
    have l1 := f.bx.lt
    have l2 := f.bb.lt
    have U1 := Lib.hid f
    have U2 := Lib.hid s
    clear f s bx hrec
    cases hq : decide (a < y.a)
    · have HQ := Lib.hid hq
      gi_wp2_with fail
      refine ⟨(keepsOthers_of_keep (S := fun _ => False) (Keep.refl _ W) (fun _ _ h => h.elim)).from _, KeepsB.refl _ _ _, U1.out, fun z hz => ?_⟩
      rcases List.mem_append.1 hz with h | h
      · exact U2.out z h
      · rw [List.mem_singleton.1 h]; exact HQ.out
    · have HQ := Lib.hid hq
      gi_wp2_with fail
      have K1 : Keep (fun k => k = w.heap.size + 1 ∨ k = w.heap.size + 2) W ((W.setCell ⟨w.heap.size + 1, 0, none⟩ (.int .i64 y.a)).setCell ⟨w.heap.size + 2, 0, none⟩ (.bool true)) :=
        ((Keep.refl _ W).setCell (p := ⟨w.heap.size + 1, 0, none⟩) (fun _ => .inl rfl) _).setCell (p := ⟨w.heap.size + 2, 0, none⟩) (fun _ => .inr rfl) _
      refine ⟨(keepsOthers_of_keep K1 ?_).from _, rfl, pre, y, rfl, HQ.out, U2.out, U1.out.put _ _⟩
      rintro k o (rfl | rfl) ho
      · exact blk_isCells U1.out.bx ho
      · exact blk_isCells U1.out.bb ho
  case done =>
    rintro D ys W hD rfl ⟨f, s⟩ hK
    have hDl := (Array.getElem?_eq_some_iff.1 hK).1
    have c1 := f.bx.cell
    have c2 := f.bb.cell
    have r1 := f.bx.frozen
    have r2 := f.bb.frozen
    have l1 := f.bx.lt
    have l2 := f.bb.lt
    have hz : nextE ys a = none := by
      unfold nextE
      rw [List.find?_eq_none]
      intro z hz
      rw [s z hz]
      simp
    have HZ := Lib.hid hz
    have P := Lib.hid (f.put 0 false)
    have K1 : Keep (fun k => k = w.heap.size + 1 ∨ k = w.heap.size + 2) W ((W.setCell ⟨w.heap.size + 1, 0, none⟩ (.int .i64 0)).setCell ⟨w.heap.size + 2, 0, none⟩ (.bool false)) :=
      ((Keep.refl _ W).setCell (p := ⟨w.heap.size + 1, 0, none⟩) (fun _ => .inl rfl) _).setCell (p := ⟨w.heap.size + 2, 0, none⟩) (fun _ => .inr rfl) _
    have HK := Lib.hid ((K1.block D hDl (by omega)).trans hK)
    clear f s hz K1
    go_wp2_with fail
    refine ⟨by simp, .inl ⟨_, _, rfl, run_takeDeferred HK.out, ?_⟩⟩
    have P2 := P.out.own (B := w.heap.size) (Nat.le_refl _) (grownBy_putObj' _ D (.deferred none)) (fun r e => by cases e; exact ⟨by omega, _, HK.out, rfl⟩)
    have c5 := P2.bx.cell
    have c6 := P2.bb.cell
    have f5 := P2.f
    clear P2 c1 c2
    exact ⟨.tuple #[.int .i64 0, .bool false], by simp [results, Tryz.results82, go_sem, c5, c6]; try rfl, by rw [HZ.out]; exact NextP.n f5⟩
  case stop =>
    rintro D c pre W hD hp ⟨rfl, p', y, rfl, h2, h3, f⟩ hK
    have hDl := (Array.getElem?_eq_some_iff.1 hK).1
    obtain ⟨r, hr⟩ := hp
    have hz : nextE l a = some y := by
      unfold nextE
      rw [← hr, List.append_assoc, List.find?_append, List.find?_eq_none.2 (fun z hz => by rw [h3 z hz]; simp)]
      simp [h2]
    have HZ := Lib.hid hz
    clear h2 h3 hr hz
    have P := Lib.hid f
    have HK := Lib.hid hK
    clear f hK
    refine wpIn_wide.2 ?_
    go_wp2_with fail
    refine ⟨by simp, .inl ⟨_, _, rfl, run_takeDeferred HK.out, ?_⟩⟩
    have P2 := P.out.own (B := w.heap.size) (Nat.le_refl _) (grownBy_putObj' _ D (.deferred none)) (fun r e => by cases e; exact ⟨by omega, _, HK.out, rfl⟩)
    have c5 := P2.bx.cell
    have c6 := P2.bb.cell
    have f5 := P2.f
    clear P2
    exact ⟨.tuple #[.int .i64 y.a, .bool true], by simp [results, Tryz.results82, go_sem, c5, c6]; try rfl, by rw [HZ.out]; exact NextP.s f5⟩
end Go.Proofs.YthbcdkeammhakaaGreat

/-
  inq: lists of events where they lie; slices.BinarySearchFunc at them.
-/
namespace Go.Proofs.YthbcdkeammhakaaGreat
open Go.RowKit
attribute [local go_sem ↓] Go.wp_at_zero Go.wp_at_succ

set_option maxHeartbeats 1000000 in
theorem osearch_any (v : Value) (l : List Ev) (e : Ev) (w : World) (ho : OwnS w 41 7 v l.length (cells l)) (hs : Srt l) (hl : l.length ≤ 100000) :
    Calls Tryz.prog 96 #[v, e.val, .func (.func 93) #[] #[]] w fun en w' => en = .returned (.tuple #[.int .i64 (pos l e : Nat), .bool (decide (l[pos l e]? = some e))]) ∧ Fresh w w' := by
  obtain ⟨A, cap, rfl, hn, hm⟩ := ho.shape
  have hm : cap ≤ 9223372036854775807 := by unfold maxLen at hm; omega
  have HO := Lib.hid ho
  have HS := Lib.hid hs
  generalize hfin : decide (l[pos l e]? = some e) = fin
  have FIN := Lib.hid hfin
  generalize hcnt : pos l e = cnt at FIN ⊢
  have CN := Lib.hid hcnt
  clear ho hs hfin hcnt
  have HC := Lib.hid (fun (p : Ev) (W : World) => compare_any p e W)
  have HZ := Lib.hid (fun p => evCmp_zero p e)
  have HN := Lib.hid (fun p => evCmp_neg p e)
  unfold Ev.val at HC ⊢
  generalize hea : e.a = ea at HC ⊢
  generalize hes : e.s = es at HC ⊢
  generalize het : e.t = et at HC ⊢
  generalize hen : e.n = en at HC ⊢
  generalize hed : e.d = ed at HC ⊢
  generalize hek : e.k = ek at HC ⊢
  generalize hex : e.x = ex at HC ⊢
  clear hea hes het hen hed hek hex
  go_enter Tryz.func96, Tryz.ntmps96
  go_wp2_with fail
  go_loopg [9, 10] l.length (fun gk u9 u10 wr => ∃ lo hi : Nat, u9 = .int .i64 lo ∧ u10 = .int .i64 hi ∧ lo ≤ hi ∧ hi ≤ l.length ∧ hi - lo ≤ gk ∧ Fresh w wr ∧ Blk wr w.heap.size 41 #[.int .i64 ea, .int .i64 es, .int .i64 et, .int .i64 en, .int .i64 ed, .int .i64 ek, .int .i64 ex] ∧
    (∀ t p, t < lo → l[t]? = some p → evLt p e = true) ∧ (∀ t p, hi ≤ t → l[t]? = some p → evLt p e = false))
  case atStart => exact ⟨0, l.length, rfl, rfl, Nat.zero_le _, Nat.le_refl _, by omega, (Keep.refl _ _).alloc _, Blk.at_new rfl _ _, fun t p h => absurd h (by omega), fun t p h hp => absurd (List.getElem?_eq_some_iff.1 hp).1 (by omega)⟩
  case round =>
    obtain ⟨lo, hi, rfl, rfl, hlh, hin, hg, hF, hB, hI1, hI2⟩ := hrel
    have F := Lib.hid hF
    have B := Lib.hid hB
    have I1 := Lib.hid hI1
    have I2 := Lib.hid hI2
    have cE := hB.cell
    clear hF hB hI1 hI2
    have own := Lib.hid (HO.out.fresh F.out)
    by_cases hlt : lo < hi
    · have i0 : (0 : Int) ≤ ((lo : Int) + (hi : Int)) / 2 := by omega
      have i1 : ((lo : Int) + (hi : Int)) / 2 < (l.length : Int) := by omega
      have i2 : (((lo : Int) + (hi : Int)) / 2).toNat = (lo + hi) / 2 := by omega
      obtain ⟨p, hp⟩ : ∃ p, l[(lo + hi) / 2]? = some p := ⟨_, List.getElem?_eq_getElem (by omega)⟩
      obtain ⟨g', off, cap', hv, _, _, _, hc⟩ := own.out.form (by omega)
      injection hv with e1 e2 e3
      subst e1 e3
      obtain ⟨c0, c1, c2, c3, c4, c5, c6⟩ := cells_at l _ p hp
      have c0 := hc _ _ c0
      have c1 := hc _ _ c1
      have c2 := hc _ _ c2
      have c3 := hc _ _ c3
      have c4 := hc _ _ c4
      have c5 := hc _ _ c5
      have c6 := hc _ _ c6
      rw [← Nat.add_assoc] at c1 c2 c3 c4 c5 c6
      have hcall := HC.out p
      have HP := Lib.hid hp
      have hneg := HN.out p
      clear hc hp
      by_cases hyx : evCmp p e < 0
      · have hlp := Lib.hid (hneg.1 hyx)
        generalize evCmp p e = cc at hcall hyx
        have CC := Lib.hid hcall
        clear hcall hneg
        have d0 := fun (W : World) (f : Fresh wr W) => f.cell_ c0
        have d1 := fun (W : World) (f : Fresh wr W) => f.cell_ c1
        have d2 := fun (W : World) (f : Fresh wr W) => f.cell_ c2
        have d3 := fun (W : World) (f : Fresh wr W) => f.cell_ c3
        have d4 := fun (W : World) (f : Fresh wr W) => f.cell_ c4
        have d5 := fun (W : World) (f : Fresh wr W) => f.cell_ c5
        have d6 := fun (W : World) (f : Fresh wr W) => f.cell_ c6
        have dE := fun (W : World) (f : Fresh wr W) (i : Nat) => (f.blk_ B.out).cell i
        go_wp2_with fail
        go_region_held3 (fun W' => Fresh wr W') (exact (fun (f : Fresh wr _) => f) (by (repeat (first | (with_reducible exact Keep.refl _ _) | (with_reducible assumption) | (with_reducible refine Keep.drew ?_) | (with_reducible refine Keep.drewN ?_ _) | (with_reducible refine Keep.alloc ?_ _) | (with_reducible refine Keep.setCell ?_ ?_ _) | (with_reducible refine fun _ => rfl))))) ((go_at_call 93; (with_reducible refine (CC.out _).mono ?_); rintro en1 w1 ⟨rfl, f1⟩; have f2 := Keep.step (S := fun _ => False) (by assumption : Fresh wr _) f1 (fun _ _ h => h)))
        go_wp2_with fail
        go_roundg (hi - ((lo + hi) / 2 + 1))
        case measure => omega
        case rel => exact ⟨(lo + hi) / 2 + 1, hi, by rw [show ((lo : Int) + (hi : Int)) / 2 + 1 = (((lo + hi) / 2 + 1 : Nat) : Int) by omega], rfl, by omega, hin, Nat.le_refl _, F.out.step f2 (fun _ _ h => h), Fresh.blk_ f2 B.out, fun t q ht hq => HS.out.mono (by omega : t ≤ (lo + hi) / 2) hq HP.out hlp.out, I2.out⟩
      · have hlp := Lib.hid (show evLt p e = false by
          cases hh : evLt p e
          · rfl
          · exact absurd (hneg.2 hh) hyx)
        generalize evCmp p e = cc at hcall hyx
        have CC := Lib.hid hcall
        clear hcall hneg
        have d0 := fun (W : World) (f : Fresh wr W) => f.cell_ c0
        have d1 := fun (W : World) (f : Fresh wr W) => f.cell_ c1
        have d2 := fun (W : World) (f : Fresh wr W) => f.cell_ c2
        have d3 := fun (W : World) (f : Fresh wr W) => f.cell_ c3
        have d4 := fun (W : World) (f : Fresh wr W) => f.cell_ c4
        have d5 := fun (W : World) (f : Fresh wr W) => f.cell_ c5
        have d6 := fun (W : World) (f : Fresh wr W) => f.cell_ c6
        have dE := fun (W : World) (f : Fresh wr W) (i : Nat) => (f.blk_ B.out).cell i
        go_wp2_with fail
        go_region_held3 (fun W' => Fresh wr W') (exact (fun (f : Fresh wr _) => f) (by (repeat (first | (with_reducible exact Keep.refl _ _) | (with_reducible assumption) | (with_reducible refine Keep.drew ?_) | (with_reducible refine Keep.drewN ?_ _) | (with_reducible refine Keep.alloc ?_ _) | (with_reducible refine Keep.setCell ?_ ?_ _) | (with_reducible refine fun _ => rfl))))) ((go_at_call 93; (with_reducible refine (CC.out _).mono ?_); rintro en1 w1 ⟨rfl, f1⟩; have f2 := Keep.step (S := fun _ => False) (by assumption : Fresh wr _) f1 (fun _ _ h => h)))
        go_wp2_with fail
        go_roundg ((lo + hi) / 2 - lo)
        case measure => omega
        case rel => exact ⟨lo, (lo + hi) / 2, rfl, by rw [show ((lo : Int) + (hi : Int)) / 2 = (((lo + hi) / 2 : Nat) : Int) by omega], by omega, by omega, Nat.le_refl _, F.out.step f2 (fun _ _ h => h), Fresh.blk_ f2 B.out, I1.out, fun t q ht hq => by
          cases hh : evLt q e
          · rfl
          · have := HS.out.mono ht HP.out hq hh
            rw [hlp.out] at this
            cases this⟩
    · obtain rfl : hi = lo := by omega
      have ecnt : cnt = hi := by
        rw [← CN.out]
        exact pos_boundary l hi e hin I1.out I2.out
      subst ecnt
      by_cases hn1 : cnt < l.length
      · obtain ⟨p, hp⟩ : ∃ p, l[cnt]? = some p := ⟨_, List.getElem?_eq_getElem hn1⟩
        obtain ⟨g', off, cap', hv, _, _, _, hc⟩ := own.out.form (by omega)
        injection hv with e1 e2 e3
        subst e1 e3
        obtain ⟨c0, c1, c2, c3, c4, c5, c6⟩ := cells_at l _ p hp
        have c0 := hc _ _ c0
        have c1 := hc _ _ c1
        have c2 := hc _ _ c2
        have c3 := hc _ _ c3
        have c4 := hc _ _ c4
        have c5 := hc _ _ c5
        have c6 := hc _ _ c6
        rw [← Nat.add_assoc] at c1 c2 c3 c4 c5 c6
        have hcall := HC.out p
        have hz := HZ.out p
        have hf := Lib.hid (show fin = decide (evCmp p e = 0) by
          rw [← FIN.out, hp]
          by_cases h : p = e
          · simp [h, (evCmp_zero e e).2 rfl]
          · rw [decide_eq_false (fun h' => h (by injection h')), decide_eq_false (fun h' => h (hz.1 h'))])
        clear hc hp hz FIN
        generalize evCmp p e = cc at hcall hf
        have CC := Lib.hid hcall
        clear hcall
        have d0 := fun (W : World) (f : Fresh wr W) => f.cell_ c0
        have d1 := fun (W : World) (f : Fresh wr W) => f.cell_ c1
        have d2 := fun (W : World) (f : Fresh wr W) => f.cell_ c2
        have d3 := fun (W : World) (f : Fresh wr W) => f.cell_ c3
        have d4 := fun (W : World) (f : Fresh wr W) => f.cell_ c4
        have d5 := fun (W : World) (f : Fresh wr W) => f.cell_ c5
        have d6 := fun (W : World) (f : Fresh wr W) => f.cell_ c6
        have dE := fun (W : World) (f : Fresh wr W) (i : Nat) => (f.blk_ B.out).cell i
        go_wp2_with fail
        go_region_held3 (fun W' => Fresh wr W') (exact (fun (f : Fresh wr _) => f) (by (repeat (first | (with_reducible exact Keep.refl _ _) | (with_reducible assumption) | (with_reducible refine Keep.drew ?_) | (with_reducible refine Keep.drewN ?_ _) | (with_reducible refine Keep.alloc ?_ _) | (with_reducible refine Keep.setCell ?_ ?_ _) | (with_reducible refine fun _ => rfl))))) ((go_at_call 93; (with_reducible refine (CC.out _).mono ?_); rintro en1 w1 ⟨rfl, f1⟩; have f2 := Keep.step (S := fun _ => False) (by assumption : Fresh wr _) f1 (fun _ _ h => h)))
        go_wp2_with fail
        go_ret2
        exact ⟨by rw [hf.out]; rfl, F.out.step f2 (fun _ _ h => h)⟩
      · go_wp2_with fail
        go_quiet (fail)
        go_wp2_with fail
        go_ret2
        exact ⟨by rw [← FIN.out, List.getElem?_eq_none (by omega)]; rfl, F.out.drewN _⟩
end Go.Proofs.YthbcdkeammhakaaGreat
