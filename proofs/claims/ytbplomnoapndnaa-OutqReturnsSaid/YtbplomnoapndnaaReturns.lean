/- OutqReturns returns true at every input: what came back, when it is sent again, goes out anew, and nothing else does. No conditions. -/
import Derived.Test.YtbplomnoapndnaaRetP
import Derived.Test.YtbplomnoapndnaaDropsP
import Derived.Deep.DeepCutAuto
namespace Go.Proofs.Ytbplomnoapndnaa
open Go.RowKit
attribute [local go_sem ↓] Go.wp_at_zero Go.wp_at_succ

theorem few_true {os : List OOp} (h : fewB os = true) : (∀ (i : Nat) (o : OOp), os[i]? = some o → o.l.length ≤ 20) ∧ os.length ≤ 40 := by
  unfold fewB at h
  rw [Bool.and_eq_true, Bool.not_eq_true'] at h
  refine ⟨fun i o ho => ?_, of_decide_eq_true h.2⟩
  have := List.any_eq_false.1 h.1 o (List.mem_of_getElem? ho)
  unfold badB at this
  simp at this
  exact this.1
theorem dlen (a : Int) (q : List Rec) : (doubt a q).length = q.length := by unfold doubt; rw [List.length_map]
theorem pick_at (a : Int) (n : Nat) (hn : 0 < n) : ∃ j : Nat, j < n ∧ (a.tmod n + n).tmod n = (j : Int) ∧ -(n : Int) < a.tmod n ∧ a.tmod n < n := by
  have h1 : -(n : Int) < a.tmod n := by
    have := Int.lt_tmod_of_pos a (b := (n : Int)) (by omega)
    omega
  have h2 : a.tmod n < n := Int.tmod_lt_of_pos a (by omega)
  refine ⟨((a.tmod n + n).tmod n).toNat, ?_, ?_, h1, h2⟩
  · have h3 := Int.tmod_lt_of_pos (a.tmod n + n) (show (0 : Int) < n by omega)
    have h4 := Int.tmod_nonneg (n : Int) (show 0 ≤ a.tmod n + n by omega)
    omega
  · have h4 := Int.tmod_nonneg (n : Int) (show 0 ≤ a.tmod n + n by omega)
    omega
theorem ops_one {W : World} {g : Nat} {k a : Int} {v : Value} {l : List Ev} (hb : Blk W g 30 #[.int .i64 k, .int .i64 a, v]) (h : OpIs W ⟨k, a, v, l⟩) : Ops W (some ⟨g, 0, none⟩) [⟨k, a, v, l⟩] := fun i o ho => by
  cases i with
  | succ i => simp at ho
  | zero =>
    simp at ho
    subst ho
    have c := hb.cell
    exact ⟨g, 0, rfl, hb.lt, ⟨by simpa using c 0, by simpa using c 1, by simpa using c 2⟩, h⟩
set_option maxHeartbeats 1000000 in
theorem returns_many (A : Option Addr) (c : Nat) (os : List OOp) (k a : Int) (A2 : Option Addr) (n c2 : Nat) (wh : Int) (w : World) (h : Ops w A os) (hn : os.length ≤ 9223372036854775807) (hf : fewB os = false) : Law Try.prog 7 #[.slice A os.length c, .agg #[.int .i64 k, .int .i64 a, .slice A2 n c2], .int .i64 wh] w := by
  unfold Law
  have HN := Lib.hid (fun W => new_any W)
  have HF := Lib.hid (fun (W : World) (f : Fresh w W) => few_any A c os W (h.fresh f) hn)
  unfold FewP at HF
  rw [hf] at HF
  have B0 := Lib.hid (Blk.new w 30 #[.int .i64 k, .int .i64 a, .slice A2 n c2])
  clear h hf
  go_enter Try.func7, Try.ntmps7
  go_wp2_with fail
  refine (HN.out _).mono ?_
  rintro e w1 ⟨rfl, q1, f1⟩
  have F1 := Lib.hid (((Keep.refl (fun _ => False) w).alloc _).step f1 (fun _ _ h => h))
  have B1 := f1.blk_ B0.out
  have c1 := B1.cell
  have l1 := B1.lt
  clear q1 f1 HN B0 B1
  go_wp2_with fail
  refine (HF.out _ F1.out).mono ?_
  rintro e w2 ⟨rfl, f2⟩
  have F2 := Lib.hid (F1.out.step f2 (fun _ _ h => h))
  clear f2 HF
  go_wp2_with fail
  refine (awake_any _).mono ?_
  rintro e w3 ⟨rfl, f3⟩
  have F3 := Lib.hid (F2.out.step f3 (fun _ _ h => h))
  clear f3
  go_wp2_with fail
  go_ret
  exact ⟨rfl, Fresh.below_ F3.out (Nat.le_refl _)⟩
set_option maxHeartbeats 1000000 in
theorem returns_one (A : Option Addr) (c : Nat) (os : List OOp) (k a : Int) (A2 : Option Addr) (c2 : Nat) (l : List Ev) (wh : Int) (w : World) (h : Ops w A os) (hn : os.length ≤ 9223372036854775807) (hf : fewB os = true) (ho : OpIs w ⟨k, a, .slice A2 l.length c2, l⟩) (hg : fewB [⟨k, a, .slice A2 l.length c2, l⟩] = false ∨ l.length = 0) : Law Try.prog 7 #[.slice A os.length c, .agg #[.int .i64 k, .int .i64 a, .slice A2 l.length c2], .int .i64 wh] w := by
  unfold Law
  have HN := Lib.hid (fun W => new_any W)
  have HF := Lib.hid (fun (W : World) (f : Fresh w W) => few_any A c os W (h.fresh f) hn)
  have HG := Lib.hid (fun (W : World) (f : Fresh w W) => few_any (some ⟨W.heap.size, 0, none⟩) 1 [⟨k, a, .slice A2 l.length c2, l⟩] (W.alloc (.cells #[.int .i64 k, .int .i64 a, .slice A2 l.length c2] 30)) (ops_one (Blk.new W _ _) (ho.fresh (f.alloc _))) (by simp))
  simp only [List.length_singleton] at HG
  obtain ⟨B, hB⟩ : ∃ B, fewB [⟨k, a, .slice A2 l.length c2, l⟩] = B := ⟨_, rfl⟩
  unfold FewP at HF HG
  rw [hf] at HF
  rw [hB] at HG hg
  have b0 := Blk.new w 30 #[.int .i64 k, .int .i64 a, .slice A2 l.length c2]
  have B0 := Lib.hid b0
  have hlen := ho.len
  clear h hf ho hB b0
  go_enter Try.func7, Try.ntmps7
  go_wp2_with fail
  refine (HN.out _).mono ?_
  rintro e w1 ⟨rfl, q1, f1⟩
  have F1 := Lib.hid (((Keep.refl (fun _ => False) w).alloc _).step f1 (fun _ _ h => h))
  have B1 := Lib.hid (f1.blk_ B0.out)
  have c1 := B1.out.cell
  have l1 := B1.out.lt
  clear q1 f1 HN B0
  go_wp2_with fail
  refine (HF.out _ F1.out).mono ?_
  rintro e w2 ⟨rfl, f2⟩
  have F2 := Lib.hid (F1.out.step f2 (fun _ _ h => h))
  have B2 := Lib.hid (f2.blk_ B1.out)
  have c2 := B2.out.cell
  have l2 := B2.out.lt
  clear f2 HF c1 l1 B1
  go_wp2_with fail
  refine (HG.out _ F2.out).mono ?_
  rintro e w3 ⟨rfl, f3⟩
  have F3 := Lib.hid ((F2.out.alloc _).step f3 (fun _ _ h => h))
  clear f3 HG
  cases B with
  | false =>
    clear hg
    go_wp2_with fail
    refine (awake_any _).mono ?_
    rintro e w4 ⟨rfl, f4⟩
    have F4 := Lib.hid (F3.out.step f4 (fun _ _ h => h))
    clear f4
    go_wp2_with fail
    go_ret
    exact ⟨rfl, Fresh.below_ F4.out (Nat.le_refl _)⟩
  | true =>
    have h0 : l.length = 0 := by
      rcases hg with hg | hg
      · cases hg
      · exact hg
    have t0 : ((l.length : Int) == 0) = true := by rw [beq_iff_eq]; omega
    clear hg h0
    go_wp2_with fail
    refine (awake_any _).mono ?_
    rintro e w4 ⟨rfl, f4⟩
    have F4 := Lib.hid (F3.out.step f4 (fun _ _ h => h))
    clear f4
    go_wp2_with fail
    go_ret
    exact ⟨rfl, Fresh.below_ F4.out (Nat.le_refl _)⟩
set_option maxRecDepth 100000 in
set_option maxHeartbeats 4000000 in
theorem returns_few (A : Option Addr) (c : Nat) (os : List OOp) (k a : Int) (A2 : Option Addr) (c2 : Nat) (l : List Ev) (wh : Int) (w : World) (h : Ops w A os) (hf : fewB os = true) (ho : OpIs w ⟨k, a, .slice A2 l.length c2, l⟩) (hg : fewB [⟨k, a, .slice A2 l.length c2, l⟩] = true) (h0 : 0 < l.length) : Law Try.prog 7 #[.slice A os.length c, .agg #[.int .i64 k, .int .i64 a, .slice A2 l.length c2], .int .i64 wh] w := by
  unfold Law
  have h20 := (few_true hf).1
  have h40 := (few_true hf).2
  have hl20 : l.length ≤ 20 := (few_true hg).1 0 _ rfl
  have HN := Lib.hid (fun W => new_any W)
  have HF := Lib.hid (fun (W : World) (f : Fresh w W) => few_any A c os W (h.fresh f) (by omega))
  have HG := Lib.hid (fun (W : World) (f : Fresh w W) => few_any (some ⟨W.heap.size, 0, none⟩) 1 [⟨k, a, .slice A2 l.length c2, l⟩] (W.alloc (.cells #[.int .i64 k, .int .i64 a, .slice A2 l.length c2] 30)) (ops_one (Blk.new W _ _) (ho.fresh (f.alloc _))) (by simp))
  simp only [List.length_singleton] at HG
  unfold FewP at HF HG
  rw [hf] at HF
  rw [hg] at HG
  have B0 := Lib.hid (Blk.new w 30 #[.int .i64 k, .int .i64 a, .slice A2 l.length c2])
  have hlen := ho.len
  have HOP := Lib.hid h
  have H20 := Lib.hid h20
  have HEV := Lib.hid ho.ev
  obtain ⟨j, hj, ej, b1, b2⟩ := pick_at wh l.length h0
  obtain ⟨x, hx⟩ : ∃ x, l[j]? = some x := ⟨_, List.getElem?_eq_getElem hj⟩
  obtain ⟨A', c', hv, hAt⟩ := HEV.out
  obtain ⟨bb, off, hA, ltb, hO⟩ := hAt j x hx
  injection hv with hv1 _ hv2
  rw [hA] at hv1
  subst hv1 hv2
  have CX := Lib.hid (fun (W : World) (f : Fresh w W) => fun j' u (hu : x.enc[j']? = some u) => f.cell_ (hO j' u hu))
  have HX := Lib.hid (List.mem_of_getElem? hx)
  have t3 : ¬ (l.length : Int) = 0 := by omega
  have t4 : ¬ l = [] := by
    rintro rfl
    simp at h0
  have j0 : (0 : Int) ≤ (j : Int) := by omega
  have j1 : (j : Int) < (l.length : Int) := by omega
  obtain ⟨TM, hTM⟩ : ∃ TM, wh.tmod (l.length : Int) = TM := ⟨_, rfl⟩
  rw [hTM] at ej b1 b2
  have ws : IntKind.i64.wrap (TM + (l.length : Int)) = TM + (l.length : Int) := IntWalk.i64_in _ (by omega)
  clear hAt hO hx hA
  have t0 : ((l.length : Int) == 0) = false := by rw [beq_eq_false_iff_ne]; omega
  clear h hf ho hg h20
  go_enter Try.func7, Try.ntmps7
  go_wp2_with fail
  refine (HN.out _).mono ?_
  rintro e w1 ⟨rfl, q1, f1⟩
  have FA := Lib.hid ((Keep.refl (fun _ => False) w).alloc (.cells #[.int .i64 k, .int .i64 a, .slice (some ⟨bb, off, none⟩) l.length c2] 30))
  obtain ⟨wA, hwA⟩ : ∃ W, w.alloc (.cells #[.int .i64 k, .int .i64 a, .slice (some ⟨bb, off, none⟩) l.length c2] 30) = W := ⟨_, rfl⟩
  rw [hwA] at FA B0 q1 f1
  have hsz : w.heap.size + 1 = wA.heap.size := by rw [← hwA]; simp
  simp only [hwA, hsz]
  clear hwA
  have M1 := Lib.hid (MQ.new q1 f1)
  have B1 := Lib.hid (f1.blk_ B0.out)
  have c1 := B1.out.cell
  have l1 := B1.out.lt
  clear q1 f1 HN B0
  go_wp2_with fail
  refine (HF.out _ (FA.out.step M1.out.f (fun _ _ h => h))).mono ?_
  rintro e w2 ⟨rfl, f2⟩
  have M2 := Lib.hid (M1.out.fresh f2)
  have B2 := Lib.hid (f2.blk_ B1.out)
  have c2x := B2.out.cell
  have l2 := B2.out.lt
  clear f2 HF c1 l1 M1 B1
  go_wp2_with fail
  refine (HG.out _ (FA.out.step M2.out.f (fun _ _ h => h))).mono ?_
  rintro e w3 ⟨rfl, f3⟩
  have f3 := ((Keep.refl (fun _ => False) w2).alloc _).step f3 (fun _ _ h => h)
  have M3 := Lib.hid (M2.out.fresh f3)
  have B3 := Lib.hid (Fresh.blk_ f3 B2.out)
  clear f3 HG c2x l2 M2 B2
  go_wp2_with fail
  go_loopg [9] os.length (fun gk u6 wr => ∃ (i : Nat) (vq : Value) (Q : List Rec), i ≤ os.length ∧ gk = os.length - i ∧ u6 = .int .i64 i ∧ MQ wA wA.heap.size vq Q wr ∧ Q.length ≤ 20 * i ∧ Blk wr w.heap.size 30 #[.int .i64 k, .int .i64 a, .slice (some ⟨bb, off, none⟩) l.length c2])
  case atStart => exact ⟨0, _, _, by omega, rfl, rfl, M3.out, by simp, B3.out⟩
  case round =>
    obtain ⟨i, vq, Q, hi, rfl, rfl, hM, hQ, hB⟩ := hrel
    have HM := Lib.hid hM
    have HB := Lib.hid hB
    clear hM hB
    by_cases hlt : i < os.length
    · obtain ⟨o, ho⟩ : ∃ o, os[i]? = some o := ⟨_, List.getElem?_eq_getElem hlt⟩
      obtain ⟨b0, off, rfl, lt0, ⟨d0, d1, d2⟩, hI⟩ := (HOP.out.fresh (FA.out.step HM.out.f (fun _ _ h => h))) i o ho
      have hl20' := H20.out i o ho
      have HA := Lib.hid (answers_any wA.heap.size vq o.k o.a o.v o.l Q wr HM.out.q hI.ev (by omega) (by omega))
      have HQ := Lib.hid hQ
      obtain ⟨Ao, co, hv, _⟩ := hI.ev
      rw [hv] at d2 HA
      have hlen := ansQ_len o.k o.a o.l Q
      clear ho hI hQ hv
      go_wp2_with (go_at_call 14; (with_reducible refine HA.out.mono ?_); rintro e w3 ⟨va, v3, rfl, o3, q3, t3, n3⟩; have M3 := Lib.hid (HM.out.turn q3 t3); have B3 := Lib.hid (HM.out.q.blk_turn t3 HB.out (by decide) (by decide)); clear o3 q3 t3 n3)
      go_roundg (os.length - (i + 1))
      case measure => omega
      case rel => exact ⟨i + 1, v3, _, by omega, rfl, by go_num, M3.out, by have := HQ.out; omega, B3.out⟩
    · obtain rfl : i = os.length := by omega
      have hQ8 : Q.length ≤ 800 := by omega
      have HQ8 := Lib.hid hQ8
      have cb := HB.out.cell
      have lb := HB.out.lt
      clear hQ
      go_wp2_with fail
      refine (backL_any _ vq Q a wr HM.out.q (by have := HQ8.out; omega)).mono ?_
      rintro e w4 ⟨rfl, q4, t4⟩
      have B4 := Lib.hid (HM.out.q.blk_turn t4 HB.out (by decide) (by decide))
      have SQ := Lib.hid (HM.out.q.srt)
      have M4 := Lib.hid (HM.out.turn q4 t4)
      clear q4 t4 HM HB cb lb
      have c4 := B4.out.cell
      have l4 := B4.out.lt
      go_wp2_with fail
      have SD := Lib.hid (SQ.out.doubt a)
      refine (sent_any _ vq _ (doubt a Q) a l _ M4.out.q (HEV.out.fresh (FA.out.step M4.out.f (fun _ _ h => h))) (by omega) (by rw [dlen]; omega)).mono ?_
      rintro e w5 ⟨va, v5, rfl, o5, q5, t5, n5⟩
      have M5 := Lib.hid (M4.out.turn q5 t5)
      have B5 := Lib.hid (M4.out.q.blk_turn t5 B4.out (by decide) (by decide))
      clear o5 q5 t5 n5 M4 B4 c4 l4
      have c5 := B5.out.cell
      have l5 := B5.out.lt
      by_cases hz : wrongE a l (doubt a Q) = 0
      · rw [hz]
        have HZ := Lib.hid hz
        clear hz
        have FX := Lib.hid (FA.out.step M5.out.f (fun _ _ h => h))
        have x0 := CX.out _ FX.out 0 (.int .i64 x.a) rfl
        have x1 := CX.out _ FX.out 1 (.int .i64 x.s) rfl
        have x2 := CX.out _ FX.out 2 (.int .i64 x.t) rfl
        have x3 := CX.out _ FX.out 3 (.int .i64 x.n) rfl
        have x4 := CX.out _ FX.out 4 (.int .i64 x.d) rfl
        have x5 := CX.out _ FX.out 5 (.int .i64 x.k) rfl
        have x6 := CX.out _ FX.out 6 (.int .i64 x.x) rfl
        rw [Nat.add_zero] at x0
        have lb5 : bb < w5.heap.size := Nat.lt_of_lt_of_le ltb FX.out.size
        go_wp2_with fail
        go_cut [12] (fun s12 wx => s12 = .pointer (some ⟨w5.heap.size, 0, none⟩) ∧ Fresh w5 wx ∧ Blk wx w5.heap.size 44 #[.int .i64 x.a, .int .i64 x.s, .int .i64 x.t, .int .i64 x.n, .int .i64 x.d, .int .i64 x.k, .int .i64 x.x])
        case first =>
          go_region_law (fail)
          all_goals go_wp2_with fail
          all_goals go_meet
          all_goals exact ⟨rfl, by (repeat (first | (with_reducible exact Keep.refl _ _) | (with_reducible assumption) | (with_reducible refine Keep.drew ?_) | (with_reducible refine Keep.drewN ?_ _) | (with_reducible refine Keep.alloc ?_ _) | (with_reducible refine Keep.setCell ?_ ?_ _) | (with_reducible refine fun _ => rfl))), by first | exact Blk.new _ _ _ | exact (Blk.new _ _ _).drew⟩
        case rest =>
          obtain ⟨rfl, fc, bc⟩ := hcut
          have h5 : RSrt (sentQ a l (doubt a Q)) := sentQ_srt SD.out
          have hh : rhas (sentQ a l (doubt a Q)) x = true := (rhas_mem h5 x).2 ⟨true, (sentQ_mem SD.out HZ.out x true).2 (.inl ⟨HX.out, rfl⟩)⟩
          have hh2 := rrem_has h5 hh
          have hlq : (sentQ a l (doubt a Q)).length ≤ 820 := by
            have := sentQ_len a l (doubt a Q)
            rw [dlen] at this
            have := HQ8.out
            omega
          have AG := Lib.hid (again_one SQ.out HZ.out HX.out)
          have WD := Lib.hid ((wrong_doubt (rrem (sentQ a l (doubt a Q)) x)).2 ((wrong_doubt Q).1 HZ.out))
          have M6 := Lib.hid (M5.out.fresh fc)
          have B6 := Lib.hid (fc.blk_ B5.out)
          have hrl := rrem_length hh
          have hlt2 := rhas_lt hh
          have hrle := Nat.le_refl (rpos (sentQ a l (doubt a Q)) x)
          obtain ⟨QS, hQS⟩ : ∃ QS, sentQ a l (doubt a Q) = QS := ⟨_, rfl⟩
          rw [hQS] at hh hh2 hlq AG WD M6 hrl hlt2 h5
          have BX := Lib.hid bc
          have HR1 := Lib.hid (return_any wA.heap.size v5 QS x _ M6.out.q (by omega))
          unfold RetP at HR1
          rw [hh] at HR1
          simp only [if_true] at HR1
          clear M5 B5 c5 l5 x0 x1 x2 x3 x4 x5 x6 lb5 FX hQS fc
          have cx := bc.cell
          have lx := bc.lt
          clear bc
          go_wp2_with fail
          refine HR1.out.mono ?_
          rintro e w7 ⟨rfl, v7, q7, t7⟩
          have M7 := Lib.hid (M6.out.turn q7 t7)
          have B7 := Lib.hid (M6.out.q.blk_turn t7 B6.out (by decide) (by decide))
          have BX7 := Lib.hid (M6.out.q.blk_turn t7 BX.out (by decide) (by decide))
          clear q7 t7 M6 B6 BX HR1 cx lx
          have hrl2 : (rrem QS x).length ≤ 820 := by omega
          have HR2 := Lib.hid (return_any wA.heap.size v7 (rrem QS x) x _ M7.out.q (by omega))
          unfold RetP at HR2
          rw [hh2] at HR2
          simp only [Bool.false_eq_true, if_false] at HR2
          have cx := BX7.out.cell
          have lx := BX7.out.lt
          go_wp2_with fail
          refine HR2.out.mono ?_
          rintro e w8 ⟨rfl, v8, q8, t8⟩
          have M8 := Lib.hid (M7.out.turn q8 t8)
          have B8 := Lib.hid (M7.out.q.blk_turn t8 B7.out (by decide) (by decide))
          have BX8 := Lib.hid (M7.out.q.blk_turn t8 BX7.out (by decide) (by decide))
          clear q8 t8 M7 B7 BX7 HR2 cx lx
          have cb := B8.out.cell
          have lb := B8.out.lt
          go_wp2_with fail
          refine (backL_any _ v8 _ a w8 M8.out.q (by omega)).mono ?_
          rintro e w9 ⟨rfl, q9, t9⟩
          have B9 := Lib.hid (M8.out.q.blk_turn t9 B8.out (by decide) (by decide))
          have BX9 := Lib.hid (M8.out.q.blk_turn t9 BX8.out (by decide) (by decide))
          have M9 := Lib.hid (M8.out.turn q9 t9)
          clear q9 t9 M8 B8 BX8 cb lb
          have cb := B9.out.cell
          have lb := B9.out.lt
          have HS := Lib.hid (sent_any _ v8 (.slice (some ⟨bb, off, none⟩) l.length c2) (doubt a (rrem QS x)) a l _ M9.out.q (HEV.out.fresh (FA.out.step M9.out.f (fun _ _ h => h))) (by omega) (by rw [dlen]; omega))
          unfold SentP at HS
          rw [AG.out, WD.out] at HS
          go_wp2_with fail
          refine HS.out.mono ?_
          rintro e w10 ⟨vz, v10, rfl, o10, q10, t10, n10⟩
          have M10 := Lib.hid (M9.out.turn q10 t10)
          have BX10 := Lib.hid (M9.out.q.blk_turn t10 BX9.out (by decide) (by decide))
          obtain ⟨A10, c10, rfl, _, hm10⟩ := o10.shape
          have O10 := Lib.hid o10
          clear o10 q10 t10 n10 M9 B9 BX9 HS cb lb
          have cx := BX10.out.cell
          have lx := BX10.out.lt
          go_wp2_with fail
          refine (msgs_same _ _ [(x, false)] _ (OwnS.msgs (l := [(x, false)]) (O10.out.alloc _)) (OwnS.msgs (l := [(x, false)]) (OwnS.new_ (n := 1) (size := 8) (cs := #[.int .i64 x.a, .int .i64 x.s, .int .i64 x.t, .int .i64 x.n, .int .i64 x.d, .int .i64 x.k, .int .i64 x.x, .bool false]) (Blk.at_new rfl _ _) rfl (by decide))) (by simp)).mono ?_
          rintro e w11 ⟨rfl, f11⟩
          have F11 := Lib.hid (M10.out.f.step (((Keep.refl (fun _ => False) w10).alloc _).step f11 (fun _ _ h => h)) (fun _ _ h => h))
          clear f11 M10 cx lx
          go_wp2_with fail
          refine (awake_any _).mono ?_
          rintro e w12 ⟨rfl, f12⟩
          have F12 := Lib.hid (F11.out.step f12 (fun _ _ h => h))
          clear f12
          go_wp2_with fail
          go_ret
          exact ⟨rfl, Fresh.below_ (FA.out.step F12.out (fun _ _ h => h)) (Nat.le_refl _)⟩
      · have tz : (wrongE a l (doubt a Q) == 0) = false := by rw [beq_eq_false_iff_ne]; exact hz
        clear hz
        go_wp2_with fail
        refine (awake_any _).mono ?_
        rintro e w6 ⟨rfl, f6⟩
        have F6 := Lib.hid (M5.out.f.step f6 (fun _ _ h => h))
        clear f6
        go_wp2_with fail
        go_ret
        exact ⟨rfl, Fresh.below_ (FA.out.step F6.out (fun _ _ h => h)) (Nat.le_refl _)⟩
open Go.ChangeShapes Go.WideShapes Go.ChangeAt
set_option maxRecDepth 100000 in
theorem outqReturns_lifted (os : Os) (started : os.Started) (H : Type) (enc : TypeId × Value → H) :
    ReturnsInHanded {} Try.checked os 7 .any (Rows.outqReturnsSpec.pre6 enc Try.prog Try.f7 Rows.outqReturnsRow.domain false) (Rows.outqReturnsSpec.post enc Try.prog Try.f7 false true false false) := by
  refine law_lifted (C := Try.checked) (tb := 4) (by kernel_rfl) (by kernel_rfl) started (by kernel_rfl) Try.func7 rfl ?_ rfl Try.underlying4 (by kernel_rfl)
    (ChangeSpec.witness6 (enc := enc) (C := Try.checked) false ⟨#[], #[.slice none 0 0, .agg #[.int .i64 0, .int .i64 0, .slice none 0 0], .int .i64 0], []⟩ 12 (by kernel_rfl) (by kernel_rfl) (by kernel_rfl) (by kernel_rfl)) ?_
  · intro ds hds
    match ds, hds with
    | [e0, e1, e2], _ => rfl
  · intro W base args ds p hval hA hreach
    rw [Try.params7] at hA hval hreach
    obtain ⟨v0, vs0, d0, ds0, p0, q0, hargs, rfl, rfl, h0, r0⟩ := trodAll_cons hA
    obtain ⟨v1, vs1, d1, ds1, p1, q1, rfl, rfl, rfl, h1, r1⟩ := trodAll_cons r0
    obtain ⟨v2, vs2, d2, ds2, p2, q2, rfl, rfl, rfl, h2, r2⟩ := trodAll_cons r1
    obtain ⟨rfl, rfl, rfl⟩ := trodAll_nil r2
    obtain rfl : args = #[v0, v1, v2] := by cases args; simp_all
    obtain ⟨A_l, n_l, c_l, rows_l, rfl, len_l, cap_l, max_l, leaf_l, at_l⟩ := arg_slice (n := 6) Try.underlying22 (by kernel_rfl) (by kernel_rfl) (by rw [show Try.prog.cellsOf 30 = 3 by kernel_rfl]; decide) (hval 0 22 v0 rfl rfl) h0
    rw [show flat Try.prog 6 30 = [3, 3, 28] by kernel_rfl] at leaf_l
    rw [show Try.prog.cellsOf 30 = 3 by kernel_rfl] at at_l
    obtain ⟨l0, rfl, hl0⟩ := arg_struct (n := 6) Try.underlying30 (by kernel_rfl) (hval 1 30 v1 rfl rfl) h1
    have hfl : flat Try.prog 6 30 = [3, 3, 28] := by kernel_rfl
    rw [hfl] at hl0; clear hfl
    obtain ⟨k, l1, e1, w_k, hl1⟩ := all2_int Try.underlying3 hl0
    obtain ⟨a, l2, e2, w_a, hl2⟩ := all2_int Try.underlying3 hl1
    obtain ⟨u_P, l3, e3, h_P, hl3⟩ := all2_cons hl2
    obtain rfl := all2_nil hl3
    subst e3 e2 e1
    clear hl3 hl2 hl1 hl0
    obtain ⟨which, rfl, w_which⟩ := arg_int Try.underlying3 (hval 2 3 v2 rfl rfl) h2
    obtain ⟨os, hos, hops⟩ := ops_arg leaf_l at_l
    have hn : os.length = n_l := hos.trans len_l
    subst hn
    have hm : os.length ≤ 9223372036854775807 := by unfold maxLen at max_l; omega
    obtain ⟨A, n, cp, rows, rfl, hlen, hcap, hmax, hleaf, hat⟩ := leaf_slice (n := 6) Try.underlying28 (by kernel_rfl) (by kernel_rfl) (by rw [show Try.prog.cellsOf 44 = 7 by kernel_rfl]; decide) h_P
    rw [show flat Try.prog 6 44 = [3, 3, 3, 3, 3, 3, 3] by kernel_rfl] at hleaf
    rw [show Try.prog.cellsOf 44 = 7 by kernel_rfl] at hat
    obtain ⟨es, hes, hev⟩ := evs_arg hleaf hat
    have hn : es.length = n := hes.trans hlen
    subst hn
    have hes9 : es.length ≤ 9223372036854775807 := by unfold maxLen at hmax; omega
    have ho : OpIs W ⟨k, a, .slice A es.length cp, es⟩ := ⟨⟨A, cp, rfl, hev⟩, hes9⟩
    cases hf : fewB os
    · exact returns_many A_l c_l os k a A es.length cp which W hops hm hf
    · cases hg : fewB [⟨k, a, .slice A es.length cp, es⟩]
      · exact returns_one A_l c_l os k a A cp es which W hops hm hf ho (.inl hg)
      · by_cases h0 : es.length = 0
        · exact returns_one A_l c_l os k a A cp es which W hops hm hf ho (.inr h0)
        · exact returns_few A_l c_l os k a A cp es which W hops hf ho hg (by omega)

theorem outqReturns_holds : Rows.OutqReturnsSaid :=
  OpenClaim.holds_of_wide 7 Try.f7 rfl rfl rfl rfl rfl rfl rfl ⟨rfl, rfl, rfl, rfl, rfl⟩ rfl rfl rfl rfl rfl (by kernel_rfl) Try.func7 (by kernel_rfl)
    (of_decide_eq_true (by kernel_rfl)) (by unfold Func.isWrapper; first | (rw [if_pos (by decide +kernel)]; kernel_rfl) | (rw [if_neg (by decide +kernel)]; exact ⟨rfl, rfl⟩))
    (fun os started H enc _ => outqReturns_lifted os started H enc)
end Go.Proofs.Ytbplomnoapndnaa
