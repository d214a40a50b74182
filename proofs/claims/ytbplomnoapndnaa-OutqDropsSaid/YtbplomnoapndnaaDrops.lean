/- OutqDrops returns true at every input: behind Flush and Drop below a time no record has an earlier Sent, and what went is what had. No conditions. -/
import Derived.Test.YtbplomnoapndnaaDropsP
namespace Go.Proofs.Ytbplomnoapndnaa
open Go.RowKit
attribute [local go_sem ↓] Go.wp_at_zero Go.wp_at_succ
attribute [local go_sem ↓] run_neq_ev

set_option maxHeartbeats 1000000 in
theorem drops_many (A : Option Addr) (c : Nat) (os : List OOp) (b : Int) (w : World) (h : Ops w A os) (hn : os.length ≤ 9223372036854775807) (hf : fewB os = false) : Law Try.prog 6 #[.slice A os.length c, .int .i64 b] w := by
  unfold Law
  have HN := Lib.hid (new_any w)
  have HF := Lib.hid (fun (W : World) (f : Fresh w W) => few_any A c os W (h.fresh f) hn)
  unfold FewP at HF
  rw [hf] at HF
  clear h hf
  go_enter Try.func6, Try.ntmps6
  go_wp2_with fail
  refine HN.out.mono ?_
  rintro e w1 ⟨rfl, q1, f1⟩
  have F1 := Lib.hid f1
  clear q1 f1 HN
  go_wp2_with fail
  refine (HF.out _ F1.out).mono ?_
  rintro e w2 ⟨rfl, f2⟩
  have F2 := Lib.hid (F1.out.step f2 (fun _ _ h => h))
  clear f2 HF
  go_wp2_with fail
  refine (awake_any _).mono ?_
  rintro e w3 ⟨rfl, f3⟩
  have F3 := Lib.hid (F2.out.step f3 (fun _ _ h => h))
  clear f3
  go_wp2_with fail
  go_ret
  exact ⟨rfl, Fresh.below_ F3.out (Nat.le_refl _)⟩
theorem fewB_true {os : List OOp} (h : fewB os = true) : (∀ (i : Nat) (o : OOp), os[i]? = some o → o.l.length ≤ 20) ∧ os.length ≤ 40 := by
  unfold fewB at h
  rw [Bool.and_eq_true, Bool.not_eq_true'] at h
  refine ⟨fun i o ho => ?_, of_decide_eq_true h.2⟩
  have := List.any_eq_false.1 h.1 o (List.mem_of_getElem? ho)
  unfold badB at this
  simp at this
  exact this.1
set_option maxRecDepth 100000 in
set_option maxHeartbeats 4000000 in
theorem drops_few (A : Option Addr) (c : Nat) (os : List OOp) (b : Int) (w : World) (h : Ops w A os) (hf : fewB os = true) : Law Try.prog 6 #[.slice A os.length c, .int .i64 b] w := by
  unfold Law
  have h20 := (fewB_true hf).1
  have h40 := (fewB_true hf).2
  have HN := Lib.hid (new_any w)
  have HF := Lib.hid (fun (W : World) (f : Fresh w W) => few_any A c os W (h.fresh f) (by omega))
  unfold FewP at HF
  rw [hf] at HF
  have HOP := Lib.hid h
  have H20 := Lib.hid h20
  clear h hf h20
  go_enter Try.func6, Try.ntmps6
  go_wp2_with fail
  refine HN.out.mono ?_
  rintro e w1 ⟨rfl, q1, f1⟩
  have M1 := Lib.hid (MQ.new q1 f1)
  clear q1 f1 HN
  go_wp2_with fail
  refine (HF.out _ M1.out.f).mono ?_
  rintro e w2 ⟨rfl, f2⟩
  have M2 := Lib.hid (M1.out.fresh f2)
  clear f2 HF M1
  go_wp2_with fail
  go_loopg [6] os.length (fun gk u6 wr => ∃ (i : Nat) (vq : Value) (Q : List Rec), i ≤ os.length ∧ gk = os.length - i ∧ u6 = .int .i64 i ∧ MQ w w.heap.size vq Q wr ∧ Q.length ≤ 20 * i)
  case atStart => exact ⟨0, _, _, by omega, rfl, rfl, M2.out, by simp⟩
  case round =>
    obtain ⟨i, vq, Q, hi, rfl, rfl, hM, hQ⟩ := hrel
    have HM := Lib.hid hM
    clear hM
    by_cases hlt : i < os.length
    · obtain ⟨o, ho⟩ : ∃ o, os[i]? = some o := ⟨_, List.getElem?_eq_getElem hlt⟩
      obtain ⟨b0, off, rfl, lt0, ⟨c0, c1, c2⟩, hI⟩ := (HOP.out.fresh HM.out.f) i o ho
      have hl20 := H20.out i o ho
      have HA := Lib.hid (answers_any w.heap.size vq o.k o.a o.v o.l Q wr HM.out.q hI.ev (by omega) (by omega))
      have HQ := Lib.hid hQ
      obtain ⟨Ao, co, hv, _⟩ := hI.ev
      rw [hv] at c2 HA
      have hlen := ansQ_len o.k o.a o.l Q
      clear ho hI hQ hv
      go_wp2_with (go_at_call 14; (with_reducible refine HA.out.mono ?_); rintro e w3 ⟨va, v3, rfl, o3, q3, t3, n3⟩; have M3 := Lib.hid (HM.out.turn q3 t3); clear o3 q3 t3 n3)
      go_roundg (os.length - (i + 1))
      case measure => omega
      case rel => exact ⟨i + 1, v3, _, by omega, rfl, by go_num, M3.out, by have := HQ.out; omega⟩
    · obtain rfl : i = os.length := by omega
      have hQ8 : Q.length ≤ 800 := by omega
      have HQ8 := Lib.hid hQ8
      clear hQ
      go_wp2_with fail
      refine (records_of _ (.inr ⟨_, rfl⟩) Q wr (by have := HQ8.out; omega) (fun W f => all_any _ vq Q W (HM.out.q.fresh f) (by have := HQ8.out; omega))).mono ?_
      rintro e w3 ⟨vw, rfl, o3, f3, n3⟩
      rw [evs_len] at o3
      obtain ⟨A3, c3, rfl, _, hm3⟩ := o3.shape
      have M3 := Lib.hid (HM.out.fresh f3)
      have O3 := Lib.hid o3
      clear o3 f3 n3
      go_wp2_with fail
      refine (flush_any _ vq Q b w3 M3.out.q (by have := HQ8.out; omega)).mono ?_
      rintro e w4 ⟨vx, v4, rfl, o4, q4, t4, n4⟩
      obtain ⟨A4, c4, rfl, _, hm4⟩ := o4.shape
      have M4 := Lib.hid (M3.out.turn q4 t4)
      have O34 := Lib.hid (M3.out.q.own_turn t4 O3.out (by decide) (by decide))
      have O4 := Lib.hid o4
      clear o4 q4 t4 n4 O3 M3 HM
      go_wp2_with fail
      refine (dropq_any _ v4 _ b w4 M4.out.q (by have := HQ8.out; have := stay_le (flushP b) Q; omega)).mono ?_
      rintro e w5 ⟨rfl, v5, q5, t5⟩
      have M5 := Lib.hid (M4.out.turn q5 t5)
      have O35 := Lib.hid (M4.out.q.own_turn t5 O34.out (by decide) (by decide))
      have O45 := Lib.hid (M4.out.q.own_turn t5 O4.out (by decide) (by decide))
      clear q5 t5 O34 O4 M4
      rw [drop_flush] at M5
      have hlat : (later b Q).length ≤ Q.length := List.length_filter_le _ _
      go_wp2_with fail
      refine (records_of _ (.inr ⟨_, rfl⟩) (later b Q) w5 (by have := HQ8.out; omega) (fun W f => all_any _ v5 _ W (M5.out.q.fresh f) (by have := HQ8.out; omega))).mono ?_
      rintro e w6 ⟨vn, rfl, o6, f6, n6⟩
      rw [evs_len] at o6
      obtain ⟨A6, c6, rfl, _, hm6⟩ := o6.shape
      have M6 := Lib.hid (M5.out.fresh f6)
      have O36 := Lib.hid (O35.out.fresh f6)
      have O46 := Lib.hid (O45.out.fresh f6)
      have O6 := Lib.hid o6
      clear o6 f6 n6 O35 O45 M5
      have hm3 : c3 ≤ 9223372036854775807 := by unfold maxLen at hm3; omega
      have hm4 : c4 ≤ 9223372036854775807 := by unfold maxLen at hm4; omega
      have hm6 : c6 ≤ 9223372036854775807 := by unfold maxLen at hm6; omega
      have hq9 := HQ8.out
      obtain ⟨L, hL⟩ : ∃ L, later b Q = L := ⟨_, rfl⟩
      rw [hL] at hlat M6 O6 ⊢
      have HL := Lib.hid hL
      clear hL
      go_wp2_with fail
      go_loopg [14, 13] Q.length (fun gk u14 u13 wq => ∃ (i : Nat), i ≤ Q.length ∧ gk = Q.length - i ∧ u14 = .int .i64 i ∧ u13 = .int .i64 (later b (Q.take i)).length ∧ Fresh w6 wq)
      case atStart => exact ⟨0, by omega, rfl, rfl, by simp [later], Keep.refl _ _⟩
      case round =>
        obtain ⟨i, hi, rfl, rfl, rfl, hF⟩ := hrel
        have HF := Lib.hid hF
        clear hF
        have hkl : (later b (Q.take i)).length ≤ i := Nat.le_trans (List.length_filter_le _ _) (List.length_take_le _ _)
        by_cases hli : i < Q.length
        · obtain ⟨y, hy⟩ : ∃ y, Q[i]? = some y := ⟨_, List.getElem?_eq_getElem hli⟩
          have HT := Lib.hid (later_take b Q i y hy)
          obtain ⟨g3, off3, _, hv3, hg3, _, _, hcc⟩ := (O36.out.fresh HF.out).form (by omega)
          injection hv3 with e1 e2 e3
          subst e1 e3
          obtain ⟨x0, x1, x2, x3, x4, x5, x6⟩ := cells_at (evs Q) _ _ (evs_at Q i y hy)
          have x0 := hcc _ _ x0
          have x1 := hcc _ _ x1
          have x2 := hcc _ _ x2
          have x3 := hcc _ _ x3
          have x4 := hcc _ _ x4
          have x5 := hcc _ _ x5
          have x6 := hcc _ _ x6
          rw [← Nat.add_assoc] at x1 x2 x3 x4 x5 x6
          clear hcc e2
          by_cases hb : b ≤ y.1.t
          · have t1 : decide (b ≤ y.1.t) = true := decide_eq_true hb
            have hla := later_at b Q i y hy hb
            rw [HL.out] at hla
            rw [if_pos hb] at HT
            obtain ⟨K, hK⟩ : ∃ K, (later b (Q.take i)).length = K := ⟨_, rfl⟩
            rw [hK] at hla HT hkl ⊢
            have hKL := (List.getElem?_eq_some_iff.1 hla).1
            obtain ⟨g4, off4, _, hv4, hg4, _, _, hcc⟩ := (O6.out.fresh HF.out).form (by omega)
            injection hv4 with e1 e2 e3
            subst e1 e3
            obtain ⟨y0, y1, y2, y3, y4, y5, y6⟩ := cells_at (evs L) _ _ (evs_at L K y hla)
            have y0 := hcc _ _ y0
            have y1 := hcc _ _ y1
            have y2 := hcc _ _ y2
            have y3 := hcc _ _ y3
            have y4 := hcc _ _ y4
            have y5 := hcc _ _ y5
            have y6 := hcc _ _ y6
            rw [← Nat.add_assoc] at y1 y2 y3 y4 y5 y6
            have t2 : decide ((L.length : Int) ≤ (K : Int)) = false := decide_eq_false (by omega)
            clear hcc e2 hb hla hy hK
            go_wp2_with fail
            go_quiet (fail)
            go_wp2_with fail
            go_roundg (Q.length - (i + 1))
            case measure => omega
            case rel => exact ⟨i + 1, by omega, rfl, by go_num, by rw [HT.out]; go_num, HF.out.drewN _⟩
          · have t1 : decide (b ≤ y.1.t) = false := decide_eq_false hb
            rw [if_neg hb, Nat.add_zero] at HT
            clear hb hy
            go_wp2_with fail
            go_roundg (Q.length - (i + 1))
            case measure => omega
            case rel => exact ⟨i + 1, by omega, rfl, by go_num, by rw [HT.out]; rfl, HF.out⟩
        · obtain rfl : i = Q.length := by omega
          rw [List.take_length, HL.out]
          clear hkl
          have HCN := Lib.hid (drop_count b Q)
          have HAF := Lib.hid (antis_flush b Q)
          obtain ⟨X, hX⟩ : ∃ X, antis (flushP b) Q = X := ⟨_, rfl⟩
          obtain ⟨D, hD⟩ : ∃ D, (antis (dropP b) (stay (flushP b) Q)).length = D := ⟨_, rfl⟩
          have hxl : X.length ≤ 800 := by have := antis_le (flushP b) Q; rw [hX] at this; omega
          rw [hX, HL.out, hD] at HCN
          rw [hX] at HAF O46
          rw [hX, hD]
          clear hX hD
          go_wp2_with fail
          go_loopg [15] X.length (fun gk u15 wx => ∃ (i : Nat), i ≤ X.length ∧ gk = X.length - i ∧ u15 = .int .i64 i ∧ Fresh w6 wx)
          case atStart => exact ⟨0, by omega, rfl, rfl, HF.out⟩
          case round =>
            obtain ⟨i, hi, rfl, rfl, hF⟩ := hrel
            have HG := Lib.hid hF
            clear hF
            by_cases hlx : i < X.length
            · obtain ⟨⟨y, s⟩, hy⟩ : ∃ y, X[i]? = some y := ⟨_, List.getElem?_eq_getElem hlx⟩
              obtain ⟨hs, hty⟩ := HAF.out i _ hy
              simp only at hs hty
              subst hs
              obtain ⟨g5, off5, _, hv5, hg5, _, _, hcc⟩ := (O46.out.fresh HG.out).form (by omega)
              injection hv5 with e1 e2 e3
              subst e1 e3
              obtain ⟨x0, x1, x2, x3, x4, x5, x6, x7⟩ := rcells_at X _ _ hy
              have x0 := hcc _ _ x0
              have x1 := hcc _ _ x1
              have x2 := hcc _ _ x2
              have x3 := hcc _ _ x3
              have x4 := hcc _ _ x4
              have x5 := hcc _ _ x5
              have x6 := hcc _ _ x6
              have x7 := hcc _ _ x7
              rw [← Nat.add_assoc] at x1 x2 x3 x4 x5 x6 x7
              simp only at x0 x1 x2 x3 x4 x5 x6 x7
              have t1 : decide (b ≤ y.t) = false := decide_eq_false (by omega)
              clear hcc e2 hy hty
              go_wp2_with fail
              go_roundg (X.length - (i + 1))
              case measure => omega
              case rel => exact ⟨i + 1, by omega, rfl, by go_num, HG.out⟩
            · obtain rfl : i = X.length := by omega
              have M7 := Lib.hid (M6.out.fresh HG.out)
              have HLE := Lib.hid (least_any _ _ L wr M7.out.q (by omega))
              have hcn := HCN.out
              have ws : IntKind.i64.wrap ((X.length : Int) + (D : Int)) = (X.length : Int) + (D : Int) := IntWalk.i64_in _ (by omega)
              have wd : IntKind.i64.wrap ((Q.length : Int) - (L.length : Int)) = (Q.length : Int) - (L.length : Int) := IntWalk.i64_in _ (by omega)
              have te : (((X.length : Int) + (D : Int)) == ((Q.length : Int) - (L.length : Int))) = true := by rw [beq_iff_eq]; omega
              have HLT := Lib.hid (fun y (h : leastL L = some y) => least_later b Q y (by rw [HL.out]; exact h))
              clear hcn
              cases hle : leastL L with
              | none =>
                rw [hle] at HLE
                clear hle
                go_wp2_with fail
                refine HLE.out.mono ?_
                rintro e w8 ⟨rfl, f8⟩
                have F8 := Lib.hid (M7.out.f.step f8 (fun _ _ h => h))
                clear f8
                go_wp2_with fail
                refine (awake_any _).mono ?_
                rintro e w9 ⟨rfl, f9⟩
                have F9 := Lib.hid (F8.out.step f9 (fun _ _ h => h))
                clear f9
                go_wp2_with fail
                go_ret
                exact ⟨rfl, Fresh.below_ F9.out (Nat.le_refl _)⟩
              | some y =>
                rw [hle] at HLE
                have hby := HLT.out y hle
                have t9 : decide (b ≤ y.1.t) = true := decide_eq_true hby
                clear hle hby
                go_wp2_with fail
                refine HLE.out.mono ?_
                rintro e w8 ⟨rfl, f8⟩
                have F8 := Lib.hid (M7.out.f.step f8 (fun _ _ h => h))
                clear f8
                go_wp2_with fail
                refine (awake_any _).mono ?_
                rintro e w9 ⟨rfl, f9⟩
                have F9 := Lib.hid (F8.out.step f9 (fun _ _ h => h))
                clear f9
                go_wp2_with fail
                go_ret
                exact ⟨rfl, Fresh.below_ F9.out (Nat.le_refl _)⟩
open Go.ChangeShapes Go.WideShapes Go.ChangeAt
set_option maxRecDepth 100000 in
theorem outqDrops_lifted (os : Os) (started : os.Started) (H : Type) (enc : TypeId × Value → H) :
    ReturnsInHanded {} Try.checked os 6 .any (Rows.outqDropsSpec.pre6 enc Try.prog Try.f6 Rows.outqDropsRow.domain false) (Rows.outqDropsSpec.post enc Try.prog Try.f6 false true false false) := by
  refine law_lifted (C := Try.checked) (tb := 4) (by kernel_rfl) (by kernel_rfl) started (by kernel_rfl) Try.func6 rfl ?_ rfl Try.underlying4 (by kernel_rfl)
    (ChangeSpec.witness6 (enc := enc) (C := Try.checked) false ⟨#[], #[.slice none 0 0, .int .i64 0], []⟩ 12 (by kernel_rfl) (by kernel_rfl) (by kernel_rfl) (by kernel_rfl)) ?_
  · intro ds hds
    match ds, hds with
    | [e0, e1], _ => rfl
  · intro W base args ds p hval hA hreach
    rw [Try.params6] at hA hval hreach
    obtain ⟨v0, vs0, d0, ds0, p0, q0, hargs, rfl, rfl, h0, r0⟩ := trodAll_cons hA
    obtain ⟨v1, vs1, d1, ds1, p1, q1, rfl, rfl, rfl, h1, r1⟩ := trodAll_cons r0
    obtain ⟨rfl, rfl, rfl⟩ := trodAll_nil r1
    obtain rfl : args = #[v0, v1] := by cases args; simp_all
    obtain ⟨A_l, n_l, c_l, rows_l, rfl, len_l, cap_l, max_l, leaf_l, at_l⟩ := arg_slice (n := 6) Try.underlying22 (by kernel_rfl) (by kernel_rfl) (by rw [show Try.prog.cellsOf 30 = 3 by kernel_rfl]; decide) (hval 0 22 v0 rfl rfl) h0
    rw [show flat Try.prog 6 30 = [3, 3, 28] by kernel_rfl] at leaf_l
    rw [show Try.prog.cellsOf 30 = 3 by kernel_rfl] at at_l
    obtain ⟨b, rfl, w_b⟩ := arg_int Try.underlying3 (hval 1 3 v1 rfl rfl) h1
    obtain ⟨os, hos, hops⟩ := ops_arg leaf_l at_l
    have hn : os.length = n_l := hos.trans len_l
    subst hn
    have hm : os.length ≤ 9223372036854775807 := by unfold maxLen at max_l; omega
    cases hf : fewB os
    · exact drops_many A_l c_l os b W hops hm hf
    · exact drops_few A_l c_l os b W hops hf

theorem outqDrops_holds : Rows.OutqDropsSaid :=
  OpenClaim.holds_of_wide 6 Try.f6 rfl rfl rfl rfl rfl rfl rfl ⟨rfl, rfl, rfl, rfl, rfl⟩ rfl rfl rfl rfl rfl (by kernel_rfl) Try.func6 (by kernel_rfl)
    (of_decide_eq_true (by kernel_rfl)) (by unfold Func.isWrapper; first | (rw [if_pos (by decide +kernel)]; kernel_rfl) | (rw [if_neg (by decide +kernel)]; exact ⟨rfl, rfl⟩))
    (fun os started H enc _ => outqDrops_lifted os started H enc)
end Go.Proofs.Ytbplomnoapndnaa
