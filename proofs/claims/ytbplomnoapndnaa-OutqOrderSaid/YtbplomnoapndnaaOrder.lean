/- OutqOrder returns true at every input: antis come ahead of messages, both are in order, and what is sent again as it was sends nothing. No conditions. -/
import Derived.Test.YtbplomnoapndnaaOrdP
import Derived.Test.YtbplomnoapndnaaPutAt
import Derived.Test.YtbplomnoapndnaaDropsP
namespace Go.Proofs.Ytbplomnoapndnaa
open Go.RowKit
attribute [local go_sem ↓] Go.wp_at_zero Go.wp_at_succ

theorem few_true {os : List OOp} (h : fewB os = true) : (∀ (i : Nat) (o : OOp), os[i]? = some o → o.l.length ≤ 20) ∧ os.length ≤ 40 := by
  unfold fewB at h
  rw [Bool.and_eq_true, Bool.not_eq_true'] at h
  refine ⟨fun i o ho => ?_, of_decide_eq_true h.2⟩
  have := List.any_eq_false.1 h.1 o (List.mem_of_getElem? ho)
  unfold badB at this
  simp at this
  exact this.1
theorem dlen (a : Int) (q : List Rec) : (doubt a q).length = q.length := by unfold doubt; rw [List.length_map]
set_option maxHeartbeats 1000000 in
theorem order_no (A : Option Addr) (c : Nat) (os : List OOp) (a : Int) (A2 : Option Addr) (n c2 : Nat) (w : World) (h : Ops w A os) (hn : os.length ≤ 9223372036854775807) (hg : fewB os = false ∨ 20 < n ∨ 1099511627776 < a) (hn2 : n ≤ 9223372036854775807) : Law Try.prog 5 #[.slice A os.length c, .int .i64 a, .slice A2 n c2] w := by
  unfold Law
  have HN := Lib.hid (new_any w)
  have HF := Lib.hid (fun (W : World) (f : Fresh w W) => few_any A c os W (h.fresh f) hn)
  unfold FewP at HF
  obtain ⟨B, hB⟩ : ∃ B, fewB os = B := ⟨_, rfl⟩
  rw [hB] at HF hg
  clear h hB
  go_enter Try.func5, Try.ntmps5
  go_wp2_with fail
  refine HN.out.mono ?_
  rintro e w1 ⟨rfl, q1, f1⟩
  have F1 := Lib.hid f1
  clear q1 f1 HN
  go_wp2_with fail
  refine (HF.out _ F1.out).mono ?_
  rintro e w2 ⟨rfl, f2⟩
  have F2 := Lib.hid (F1.out.step f2 (fun _ _ h => h))
  clear f2 HF
  cases B with
  | false =>
    clear hg
    go_wp2_with fail
    refine (awake_any _).mono ?_
    rintro e w3 ⟨rfl, f3⟩
    have F3 := Lib.hid (F2.out.step f3 (fun _ _ h => h))
    clear f3
    go_wp2_with fail
    go_ret
    exact ⟨rfl, Fresh.below_ F3.out (Nat.le_refl _)⟩
  | true =>
    by_cases h20 : 20 < n
    · have t1 : decide ((20 : Int) < (n : Int)) = true := decide_eq_true (by omega)
      clear hg h20
      go_wp2_with fail
      refine (awake_any _).mono ?_
      rintro e w3 ⟨rfl, f3⟩
      have F3 := Lib.hid (F2.out.step f3 (fun _ _ h => h))
      clear f3
      go_wp2_with fail
      go_ret
      exact ⟨rfl, Fresh.below_ F3.out (Nat.le_refl _)⟩
    · have ha : 1099511627776 < a := by
        rcases hg with hg | hg | hg
        · cases hg
        · exact absurd hg h20
        · exact hg
      have t1 : decide ((20 : Int) < (n : Int)) = false := decide_eq_false (by omega)
      have t2 : decide ((1099511627776 : Int) < a) = true := decide_eq_true ha
      clear hg h20 ha
      go_wp2_with fail
      refine (awake_any _).mono ?_
      rintro e w3 ⟨rfl, f3⟩
      have F3 := Lib.hid (F2.out.step f3 (fun _ _ h => h))
      clear f3
      go_wp2_with fail
      go_ret
      exact ⟨rfl, Fresh.below_ F3.out (Nat.le_refl _)⟩
set_option maxRecDepth 100000 in
set_option maxHeartbeats 4000000 in
theorem order_few (A : Option Addr) (c : Nat) (os : List OOp) (a : Int) (A2 : Option Addr) (c2 : Nat) (m : List Ev) (w : World) (h : Ops w A os) (hf : fewB os = true) (hm20 : m.length ≤ 20) (ha40 : a ≤ 1099511627776) (hev : EvAt w (.slice A2 m.length c2) m) : Law Try.prog 5 #[.slice A os.length c, .int .i64 a, .slice A2 m.length c2] w := by
  unfold Law
  have h20 := (few_true hf).1
  have h40 := (few_true hf).2
  have HN := Lib.hid (new_any w)
  have HF := Lib.hid (fun (W : World) (f : Fresh w W) => few_any A c os W (h.fresh f) (by omega))
  unfold FewP at HF
  rw [hf] at HF
  have HOP := Lib.hid h
  have H20 := Lib.hid h20
  have HEV := Lib.hid hev
  have t1 : decide ((20 : Int) < (m.length : Int)) = false := decide_eq_false (by omega)
  have t2 : decide ((1099511627776 : Int) < a) = false := decide_eq_false (by omega)
  clear h hf h20 hev
  go_enter Try.func5, Try.ntmps5
  go_wp2_with fail
  refine HN.out.mono ?_
  rintro e w1 ⟨rfl, q1, f1⟩
  have M1 := Lib.hid (MQ.new q1 f1)
  clear q1 f1 HN
  go_wp2_with fail
  refine (HF.out _ M1.out.f).mono ?_
  rintro e w2 ⟨rfl, f2⟩
  have M2 := Lib.hid (M1.out.fresh f2)
  clear f2 HF M1
  go_wp2_with fail
  go_loopg [8] os.length (fun gk u6 wr => ∃ (i : Nat) (vq : Value) (Q : List Rec), i ≤ os.length ∧ gk = os.length - i ∧ u6 = .int .i64 i ∧ MQ w w.heap.size vq Q wr ∧ Q.length ≤ 20 * i)
  case atStart => exact ⟨0, _, _, by omega, rfl, rfl, M2.out, by simp⟩
  case round =>
    obtain ⟨i, vq, Q, hi, rfl, rfl, hM, hQ⟩ := hrel
    have HM := Lib.hid hM
    clear hM
    by_cases hlt : i < os.length
    · obtain ⟨o, ho⟩ : ∃ o, os[i]? = some o := ⟨_, List.getElem?_eq_getElem hlt⟩
      obtain ⟨b0, off, rfl, lt0, ⟨c0, c1, c2'⟩, hI⟩ := (HOP.out.fresh HM.out.f) i o ho
      have hl20 := H20.out i o ho
      have HA := Lib.hid (answers_any w.heap.size vq o.k o.a o.v o.l Q wr HM.out.q hI.ev (by omega) (by omega))
      have HQ := Lib.hid hQ
      obtain ⟨Ao, co, hv, _⟩ := hI.ev
      rw [hv] at c2' HA
      have hlen := ansQ_len o.k o.a o.l Q
      clear ho hI hQ hv
      go_wp2_with (go_at_call 14; (with_reducible refine HA.out.mono ?_); rintro e w3 ⟨va, v3, rfl, o3, q3, t3, n3⟩; have M3 := Lib.hid (HM.out.turn q3 t3); clear o3 q3 t3 n3)
      go_roundg (os.length - (i + 1))
      case measure => omega
      case rel => exact ⟨i + 1, v3, _, by omega, rfl, by go_num, M3.out, by have := HQ.out; omega⟩
    · obtain rfl : i = os.length := by omega
      have hQ8 : Q.length ≤ 800 := by omega
      have HQ8 := Lib.hid hQ8
      clear hQ
      go_wp2_with fail
      refine (backL_any _ vq Q a wr HM.out.q (by have := HQ8.out; omega)).mono ?_
      rintro e w4 ⟨rfl, q4, t4⟩
      have SQ := Lib.hid (HM.out.q.srt)
      have M4 := Lib.hid (HM.out.turn q4 t4)
      clear q4 t4 HM
      have SD := Lib.hid (SQ.out.doubt a)
      go_wp2_with fail
      refine (sent_any _ vq _ (doubt a Q) a m _ M4.out.q (HEV.out.fresh M4.out.f) (by omega) (by rw [dlen]; omega)).mono ?_
      rintro e w5 ⟨va, v5, rfl, o5, q5, t5, n5⟩
      obtain ⟨A5, c5, rfl, _, hm5⟩ := o5.shape
      have M5 := Lib.hid (M4.out.turn q5 t5)
      have O5 := Lib.hid o5
      clear o5 q5 t5 n5 M4
      by_cases hz : wrongE a m (doubt a Q) = 0
      · rw [hz]
        have HZ := Lib.hid hz
        clear hz
        go_wp2_with fail
        have hl20 : (sentM a m (doubt a Q)).length ≤ 820 := by
          have h1 := (steps_le (esort m) (stay (sentP a (esort m)) (doubt a Q), antis (sentP a (esort m)) (doubt a Q))).2
          have h2 := antis_le (sentP a (esort m)) (doubt a Q)
          have h3 : (sentM a m (doubt a Q)).length ≤ (antis (sentP a (esort m)) (doubt a Q)).length + (esort m).length := by
            unfold sentM sentFrom
            rw [if_pos HZ.out]
            exact h1
          rw [dlen] at h2
          rw [(esort_perm m).length_eq] at h3
          have := HQ8.out
          omega
        obtain ⟨K, hK⟩ := ord_sent SD.out HZ.out
        have AG := Lib.hid (again_none SQ.out HZ.out)
        have WD := Lib.hid ((wrong_doubt (sentQ a m (doubt a Q))).2 ((wrong_doubt Q).1 HZ.out))
        have hlq : (sentQ a m (doubt a Q)).length ≤ 820 := by
          have := sentQ_len a m (doubt a Q)
          rw [dlen] at this
          have := HQ8.out
          omega
        obtain ⟨M, hM⟩ : ∃ M, sentM a m (doubt a Q) = M := ⟨_, rfl⟩
        obtain ⟨QS, hQS⟩ : ∃ QS, sentQ a m (doubt a Q) = QS := ⟨_, rfl⟩
        rw [hM] at hK hl20 O5 ⊢
        rw [hQS] at AG WD hlq M5
        have HK := Lib.hid hK
        clear hM hQS hK
        have hm5' : c5 ≤ 9223372036854775807 := by unfold maxLen at hm5; omega
        go_loopg [11, 12] M.length (fun gk u11 u12 wx => ∃ (i : Nat), i ≤ M.length ∧ gk = M.length - i ∧ u11 = .int .i64 ((i - K : Nat) : Int) ∧ u12 = .int .i64 i ∧ Fresh w5 wx)
        case atStart => exact ⟨0, by omega, rfl, by simp, rfl, Keep.refl _ _⟩
        case round =>
          obtain ⟨i, hi, rfl, rfl, rfl, hF⟩ := hrel
          have HF := Lib.hid hF
          clear hF
          obtain ⟨N, hN⟩ : ∃ N, i - K = N := ⟨_, rfl⟩
          rw [hN]
          by_cases hlx : i < M.length
          · obtain ⟨⟨x, s⟩, hx⟩ : ∃ x, M[i]? = some x := ⟨_, List.getElem?_eq_getElem hlx⟩
            have hs := HK.out.anti i _ hx
            simp only at hs
            subst hs
            obtain ⟨g5, off5, _, hv5, hg5, _, _, hcc⟩ := (O5.out.fresh HF.out).form (by omega)
            injection hv5 with e1 e2 e3
            subst e1 e3
            obtain ⟨x0, x1, x2, x3, x4, x5, x6, x7⟩ := rcells_at M _ _ hx
            have x0 := hcc _ _ x0
            have x1 := hcc _ _ x1
            have x2 := hcc _ _ x2
            have x3 := hcc _ _ x3
            have x4 := hcc _ _ x4
            have x5 := hcc _ _ x5
            have x6 := hcc _ _ x6
            have x7 := hcc _ _ x7
            rw [← Nat.add_assoc] at x1 x2 x3 x4 x5 x6 x7
            simp only at x0 x1 x2 x3 x4 x5 x6 x7
            by_cases hiK : i < K
            · have tk : decide (i < K) = true := decide_eq_true hiK
              rw [tk] at x7
              obtain rfl : N = 0 := by omega
              cases i with
              | zero =>
                clear hcc e2 hx tk
                go_wp2_with fail
                go_quiet (fail)
                go_wp2_with fail
                go_roundg (M.length - (0 + 1))
                case measure => omega
                case rel => exact ⟨0 + 1, by omega, rfl, by rw [show 0 + 1 - K = 0 by omega]; rfl, by go_num, HF.out.drewN _⟩
              | succ i =>
                obtain ⟨⟨y, sy⟩, hy⟩ : ∃ y, M[i]? = some y := ⟨_, List.getElem?_eq_getElem (by omega)⟩
                obtain ⟨y0, y1, y2, y3, y4, y5, y6, y7⟩ := rcells_at M _ _ hy
                have y0 := hcc _ _ y0
                have y1 := hcc _ _ y1
                have y2 := hcc _ _ y2
                have y3 := hcc _ _ y3
                have y4 := hcc _ _ y4
                have y5 := hcc _ _ y5
                have y6 := hcc _ _ y6
                rw [← Nat.add_assoc] at y1 y2 y3 y4 y5 y6
                simp only at y0 y1 y2 y3 y4 y5 y6
                have HC := Lib.hid (fun W => sahead_any x y W)
                rw [HK.out.a i _ _ hiK hy hx] at HC
                unfold Ev.val at HC
                have d0 := fun (W : World) (f : Fresh wr W) => f.cell_ x0
                have d1 := fun (W : World) (f : Fresh wr W) => f.cell_ x1
                have d2 := fun (W : World) (f : Fresh wr W) => f.cell_ x2
                have d3 := fun (W : World) (f : Fresh wr W) => f.cell_ x3
                have d4 := fun (W : World) (f : Fresh wr W) => f.cell_ x4
                have d5 := fun (W : World) (f : Fresh wr W) => f.cell_ x5
                have d6 := fun (W : World) (f : Fresh wr W) => f.cell_ x6
                have d7 := fun (W : World) (f : Fresh wr W) => f.cell_ x7
                have ef0 := fun (W : World) (f : Fresh wr W) => f.cell_ y0
                have ef1 := fun (W : World) (f : Fresh wr W) => f.cell_ y1
                have ef2 := fun (W : World) (f : Fresh wr W) => f.cell_ y2
                have ef3 := fun (W : World) (f : Fresh wr W) => f.cell_ y3
                have ef4 := fun (W : World) (f : Fresh wr W) => f.cell_ y4
                have ef5 := fun (W : World) (f : Fresh wr W) => f.cell_ y5
                have ef6 := fun (W : World) (f : Fresh wr W) => f.cell_ y6
                have j0 : (0 : Int) ≤ (i : Int) := by omega
                have j1 : (i : Int) < (M.length : Int) := by omega
                have j2 : (0 : Int) ≤ (i : Int) + 1 := by omega
                have j3 : (i : Int) + 1 < (M.length : Int) := by omega
                have ws1 : IntKind.i64.wrap (i : Int) = (i : Int) := IntWalk.i64_in _ (by omega)
                have ws2 : IntKind.i64.wrap ((i : Int) + 1 - 1) = (i : Int) := (IntWalk.i64_in _ (by omega)).trans (by omega)
                clear hcc e2 hx hy tk y7
                go_wp2_with fail
                go_region_held3 (fun W' => Fresh wr W') (exact (fun (f : Fresh wr _) => f) (by (repeat (first | (with_reducible exact Keep.refl _ _) | (with_reducible assumption) | (with_reducible refine Keep.drew ?_) | (with_reducible refine Keep.drewN ?_ _) | (with_reducible refine Keep.alloc ?_ _) | (with_reducible refine Keep.setCell ?_ ?_ _) | (with_reducible refine fun _ => rfl))))) ((go_at_call 22; (with_reducible refine (HC.out _).mono ?_); rintro en1 w1 ⟨rfl, f1⟩; have f2 := Keep.step (S := fun _ => False) (by assumption : Fresh wr _) f1 (fun _ _ h => h)))
                clear d0 d1 d2 d3 d4 d5 d6 d7 ef0 ef1 ef2 ef3 ef4 ef5 ef6
                go_wp2_with fail
                go_roundg (M.length - (i + 1 + 1))
                case measure => omega
                case rel => exact ⟨i + 1 + 1, by omega, rfl, by rw [show i + 1 + 1 - K = 0 by omega]; rfl, by go_num, HF.out.step f2 (fun _ _ h => h)⟩
            · have tk : decide (i < K) = false := decide_eq_false hiK
              rw [tk] at x7
              by_cases hd : i = K
              · obtain rfl : N = 0 := by omega
                obtain rfl := hd
                clear hcc e2 hx tk
                go_wp2_with fail
                go_quiet (fail)
                go_wp2_with fail
                go_roundg (M.length - (i + 1))
                case measure => omega
                case rel => exact ⟨i + 1, by omega, rfl, by rw [show i + 1 - i = 1 by omega]; rfl, by go_num, HF.out.drewN _⟩
              · obtain ⟨i, rfl⟩ : ∃ i', i = i' + 1 := ⟨i - 1, by omega⟩
                have hKi : K ≤ i := by omega
                have tn : decide ((0 : Int) < (N : Int)) = true := decide_eq_true (by omega)
                obtain ⟨⟨y, sy⟩, hy⟩ : ∃ y, M[i]? = some y := ⟨_, List.getElem?_eq_getElem (by omega)⟩
                obtain ⟨y0, y1, y2, y3, y4, y5, y6, y7⟩ := rcells_at M _ _ hy
                have y0 := hcc _ _ y0
                have y1 := hcc _ _ y1
                have y2 := hcc _ _ y2
                have y3 := hcc _ _ y3
                have y4 := hcc _ _ y4
                have y5 := hcc _ _ y5
                have y6 := hcc _ _ y6
                rw [← Nat.add_assoc] at y1 y2 y3 y4 y5 y6
                simp only at y0 y1 y2 y3 y4 y5 y6
                have HC := Lib.hid (fun W => ahead_any y x W)
                rw [HK.out.n i _ _ hKi hy hx] at HC
                unfold Ev.val at HC
                have d0 := fun (W : World) (f : Fresh wr W) => f.cell_ x0
                have d1 := fun (W : World) (f : Fresh wr W) => f.cell_ x1
                have d2 := fun (W : World) (f : Fresh wr W) => f.cell_ x2
                have d3 := fun (W : World) (f : Fresh wr W) => f.cell_ x3
                have d4 := fun (W : World) (f : Fresh wr W) => f.cell_ x4
                have d5 := fun (W : World) (f : Fresh wr W) => f.cell_ x5
                have d6 := fun (W : World) (f : Fresh wr W) => f.cell_ x6
                have d7 := fun (W : World) (f : Fresh wr W) => f.cell_ x7
                have ef0 := fun (W : World) (f : Fresh wr W) => f.cell_ y0
                have ef1 := fun (W : World) (f : Fresh wr W) => f.cell_ y1
                have ef2 := fun (W : World) (f : Fresh wr W) => f.cell_ y2
                have ef3 := fun (W : World) (f : Fresh wr W) => f.cell_ y3
                have ef4 := fun (W : World) (f : Fresh wr W) => f.cell_ y4
                have ef5 := fun (W : World) (f : Fresh wr W) => f.cell_ y5
                have ef6 := fun (W : World) (f : Fresh wr W) => f.cell_ y6
                have j0 : (0 : Int) ≤ (i : Int) := by omega
                have j1 : (i : Int) < (M.length : Int) := by omega
                have j2 : (0 : Int) ≤ (i : Int) + 1 := by omega
                have j3 : (i : Int) + 1 < (M.length : Int) := by omega
                have ws1 : IntKind.i64.wrap (i : Int) = (i : Int) := IntWalk.i64_in _ (by omega)
                have ws2 : IntKind.i64.wrap ((i : Int) + 1 - 1) = (i : Int) := (IntWalk.i64_in _ (by omega)).trans (by omega)
                have tn' : decide (0 < N) = true := decide_eq_true (by omega)
                clear hcc e2 hx hy tk y7 hd
                go_wp2_with fail
                go_region_held3 (fun W' => Fresh wr W') (exact (fun (f : Fresh wr _) => f) (by (repeat (first | (with_reducible exact Keep.refl _ _) | (with_reducible assumption) | (with_reducible refine Keep.drew ?_) | (with_reducible refine Keep.drewN ?_ _) | (with_reducible refine Keep.alloc ?_ _) | (with_reducible refine Keep.setCell ?_ ?_ _) | (with_reducible refine fun _ => rfl))))) ((go_at_call 21; (with_reducible refine (HC.out _).mono ?_); rintro en1 w1 ⟨rfl, f1⟩; have f2 := Keep.step (S := fun _ => False) (by assumption : Fresh wr _) f1 (fun _ _ h => h)))
                clear d0 d1 d2 d3 d4 d5 d6 d7 ef0 ef1 ef2 ef3 ef4 ef5 ef6
                go_wp2_with fail
                go_roundg (M.length - (i + 1 + 1))
                case measure => omega
                case rel => exact ⟨i + 1 + 1, by omega, rfl, by rw [show i + 1 + 1 - K = N + 1 by omega]; go_num, by go_num, HF.out.step f2 (fun _ _ h => h)⟩
          · obtain rfl : i = M.length := by omega
            have M6 := Lib.hid (M5.out.fresh HF.out)
            clear hN
            go_wp2_with fail
            refine (backL_any _ v5 QS a _ M6.out.q (by omega)).mono ?_
            rintro e w7 ⟨rfl, q7, t7⟩
            have M7 := Lib.hid (M6.out.turn q7 t7)
            clear q7 t7 M6
            have HS := Lib.hid (sent_any _ v5 (.slice A2 m.length c2) (doubt a QS) a m _ M7.out.q (HEV.out.fresh M7.out.f) (by omega) (by rw [dlen]; omega))
            unfold SentP at HS
            rw [AG.out, WD.out] at HS
            go_wp2_with fail
            refine HS.out.mono ?_
            rintro e w8 ⟨vz, v8, rfl, o8, q8, t8, n8⟩
            have M8 := Lib.hid (M7.out.turn q8 t8)
            obtain ⟨A8, c8, rfl, _, hm8⟩ := o8.shape
            clear o8 q8 t8 n8 M7 HS
            go_wp2_with fail
            refine (awake_any _).mono ?_
            rintro e w9 ⟨rfl, f9⟩
            have F9 := Lib.hid (M8.out.f.step f9 (fun _ _ h => h))
            clear f9
            go_wp2_with fail
            go_ret
            exact ⟨rfl, Fresh.below_ F9.out (Nat.le_refl _)⟩
      · have hMb := sentM_bad hz
        obtain ⟨wc, hwc⟩ : ∃ wc, wrongE a m (doubt a Q) = wc := ⟨_, rfl⟩
        have hcs := wrong_codes a m Q
        rw [hwc] at hz hcs ⊢
        rw [hMb]
        have tz : (wc == 0) = false := by rw [beq_eq_false_iff_ne]; exact hz
        have FW := Lib.hid M5.out.f
        clear hwc hMb
        rcases hcs with hcs | rfl | rfl
        · exact absurd hcs hz
        · clear hz
          go_wp2_with fail
          refine (awake_any _).mono ?_
          rintro e w6 ⟨rfl, f6⟩
          have F6 := Lib.hid (FW.out.step f6 (fun _ _ h => h))
          clear f6
          go_wp2_with fail
          go_ret
          exact ⟨rfl, Fresh.below_ F6.out (Nat.le_refl _)⟩
        · clear hz
          go_wp2_with fail
          refine (awake_any _).mono ?_
          rintro e w6 ⟨rfl, f6⟩
          have F6 := Lib.hid (FW.out.step f6 (fun _ _ h => h))
          clear f6
          go_wp2_with fail
          go_ret
          exact ⟨rfl, Fresh.below_ F6.out (Nat.le_refl _)⟩
open Go.ChangeShapes Go.WideShapes Go.ChangeAt
set_option maxRecDepth 100000 in
theorem outqOrder_lifted (os : Os) (started : os.Started) (H : Type) (enc : TypeId × Value → H) :
    ReturnsInHanded {} Try.checked os 5 .any (Rows.outqOrderSpec.pre6 enc Try.prog Try.f5 Rows.outqOrderRow.domain false) (Rows.outqOrderSpec.post enc Try.prog Try.f5 false true false false) := by
  refine law_lifted (C := Try.checked) (tb := 4) (by kernel_rfl) (by kernel_rfl) started (by kernel_rfl) Try.func5 rfl ?_ rfl Try.underlying4 (by kernel_rfl)
    (ChangeSpec.witness6 (enc := enc) (C := Try.checked) false ⟨#[], #[.slice none 0 0, .int .i64 0, .slice none 0 0], []⟩ 12 (by kernel_rfl) (by kernel_rfl) (by kernel_rfl) (by kernel_rfl)) ?_
  · intro ds hds
    match ds, hds with
    | [e0, e1, e2], _ => rfl
  · intro W base args ds p hval hA hreach
    rw [Try.params5] at hA hval hreach
    obtain ⟨v0, vs0, d0, ds0, p0, q0, hargs, rfl, rfl, h0, r0⟩ := trodAll_cons hA
    obtain ⟨v1, vs1, d1, ds1, p1, q1, rfl, rfl, rfl, h1, r1⟩ := trodAll_cons r0
    obtain ⟨v2, vs2, d2, ds2, p2, q2, rfl, rfl, rfl, h2, r2⟩ := trodAll_cons r1
    obtain ⟨rfl, rfl, rfl⟩ := trodAll_nil r2
    obtain rfl : args = #[v0, v1, v2] := by cases args; simp_all
    obtain ⟨A_l, n_l, c_l, rows_l, rfl, len_l, cap_l, max_l, leaf_l, at_l⟩ := arg_slice (n := 6) Try.underlying22 (by kernel_rfl) (by kernel_rfl) (by rw [show Try.prog.cellsOf 30 = 3 by kernel_rfl]; decide) (hval 0 22 v0 rfl rfl) h0
    rw [show flat Try.prog 6 30 = [3, 3, 28] by kernel_rfl] at leaf_l
    rw [show Try.prog.cellsOf 30 = 3 by kernel_rfl] at at_l
    obtain ⟨a, rfl, w_a⟩ := arg_int Try.underlying3 (hval 1 3 v1 rfl rfl) h1
    obtain ⟨A_m, n_m, c_m, rows_m, rfl, len_m, cap_m, max_m, leaf_m, at_m⟩ := arg_slice (n := 6) Try.underlying28 (by kernel_rfl) (by kernel_rfl) (by rw [show Try.prog.cellsOf 44 = 7 by kernel_rfl]; decide) (hval 2 28 v2 rfl rfl) h2
    rw [show flat Try.prog 6 44 = [3, 3, 3, 3, 3, 3, 3] by kernel_rfl] at leaf_m
    rw [show Try.prog.cellsOf 44 = 7 by kernel_rfl] at at_m
    obtain ⟨os, hos, hops⟩ := ops_arg leaf_l at_l
    have hn : os.length = n_l := hos.trans len_l
    subst hn
    have hm : os.length ≤ 9223372036854775807 := by unfold maxLen at max_l; omega
    obtain ⟨es, hes, hev⟩ := evs_arg leaf_m at_m
    have hn : es.length = n_m := hes.trans len_m
    subst hn
    have hes9 : es.length ≤ 9223372036854775807 := by unfold maxLen at max_m; omega
    by_cases hg : fewB os = false ∨ 20 < es.length ∨ 1099511627776 < a
    · exact order_no A_l c_l os a A_m es.length c_m W hops hm hg hes9
    · have hf : fewB os = true := by
        cases h : fewB os
        · exact absurd (.inl h) hg
        · rfl
      exact order_few A_l c_l os a A_m c_m es W hops hf (by omega) (by omega) ⟨A_m, c_m, rfl, hev⟩

theorem outqOrder_holds : Rows.OutqOrderSaid :=
  OpenClaim.holds_of_wide 5 Try.f5 rfl rfl rfl rfl rfl rfl rfl ⟨rfl, rfl, rfl, rfl, rfl⟩ rfl rfl rfl rfl rfl (by kernel_rfl) Try.func5 (by kernel_rfl)
    (of_decide_eq_true (by kernel_rfl)) (by unfold Func.isWrapper; first | (rw [if_pos (by decide +kernel)]; kernel_rfl) | (rw [if_neg (by decide +kernel)]; exact ⟨rfl, rfl⟩))
    (fun os started H enc _ => outqOrder_lifted os started H enc)
end Go.Proofs.Ytbplomnoapndnaa
