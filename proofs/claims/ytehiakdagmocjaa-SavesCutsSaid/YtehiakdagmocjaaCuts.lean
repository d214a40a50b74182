/- SavesCuts returns true at every input: what Cut and Free leave. No conditions. -/
import Derived.Test.YtehiakdagmocjaaCutsP
import Derived.Test.YtehiakdagmocjaaLast
namespace Go.Proofs.Ytehiakdagmocjaa
open Go.RowKit R_int

set_option maxRecDepth 100000 in
theorem cuts_arg (A : Option Addr) (n c : Nat) (at_ : Int) (w : World) (h : 60 < n ∨ at_ < 0 ∨ 1073741824 < at_) (hn : n ≤ 9223372036854775807) :
    Law Try.prog 8 #[.slice A n c, .int .i64 at_] w := by
  unfold Law
  have hq : decide (60 < (n : Int)) = true ∨ (decide (60 < (n : Int)) = false ∧ decide (at_ < 0) = true) ∨ (decide (60 < (n : Int)) = false ∧ decide (at_ < 0) = false ∧ decide (1073741824 < at_) = true) := by
    by_cases a : 60 < (n : Int)
    · exact .inl (decide_eq_true a)
    by_cases b : at_ < 0
    · exact .inr (.inl ⟨decide_eq_false a, decide_eq_true b⟩)
    · exact .inr (.inr ⟨decide_eq_false a, decide_eq_false b, decide_eq_true (by omega)⟩)
  rcases hq with q1 | ⟨q1, q2⟩ | ⟨q1, q2, q3⟩
  all_goals
    go_enter Try.func8, Try.ntmps8
    go_wp2_with (first | (go_at_call 11; refine (new_any 0 _).mono ?_; rintro e w1 ⟨g, v, rfl, h1, f1, _⟩) | (go_at_call 10; refine (awake_any _).mono ?_; rintro e w2 ⟨rfl, h3⟩))
    go_ret
    exact ⟨rfl, Fresh.below_ (f1.step h3 (fun _ _ h => h)) (Nat.le_refl _)⟩

set_option maxRecDepth 100000 in
set_option maxHeartbeats 8000000 in
theorem cuts_ok (A : Option Addr) (n c : Nat) (rows : List (List Value)) (at_ : Int) (w : World) (h : n ≤ 60) (h0 : 0 ≤ at_) (hm : at_ ≤ 1073741824)
    (hl : rows.length = n) (hr : ∀ x ∈ rows, OpRow x) (ha : SliceAt w A 3 rows) :
    Law Try.prog 8 #[.slice A n c, .int .i64 at_] w := by
  unfold Law
  have q1 : decide (60 < (n : Int)) = false := by simp; omega
  have q2 : decide (at_ < 0) = false := by simp; omega
  have q3 : decide (1073741824 < at_) = false := by simp; omega
  have H1 := Lib.hid hl
  have H3 := Lib.hid hr
  have H5 := Lib.hid ha
  clear hl hr ha
  go_enter Try.func8, Try.ntmps8
  go_wp2_with (go_at_call 11; refine (new_any 0 _).mono ?_; rintro e w1 ⟨g, v0, rfl, h1, f1, hg, hv⟩)
  have S0 : LInv w g 0 v0 [(-1, 0)] w1 := ⟨h1, ⟨by simp, by simp⟩, by simp, f1, by
    rintro k (rfl | hk)
    · exact hg
    · exact hv k hk⟩
  clear h1 f1 hg hv
  go_loopg [6] n (fun gk u wr => ∃ (k : Nat) (v : Value) (l : List (Int × Int)), k ≤ n ∧ gk = n - k ∧ u = .int .i64 k ∧ LInv w g k v l wr)
  case atStart => exact ⟨0, v0, _, by omega, rfl, rfl, S0⟩
  case round =>
    clear S0
    obtain ⟨k, v, l, hk, rfl, rfl, hS⟩ := hrel
    by_cases hlt : k < n
    · obtain ⟨b0, off, o, rfl, lt0, hO⟩ := opAt_arg H5.out H3.out k (by rw [H1.out]; exact hlt)
      have hO := hO.fresh hS.2.2.2.1
      have HS := Lib.hid hS
      have HO := Lib.hid hO
      have kA := fun (W : World) (h : OpAt W b0 (off + k * 3) o) => h.1
      have kB := fun (W : World) (h : OpAt W b0 (off + k * 3) o) => h.2.1
      have kC := fun (W : World) (h : OpAt W b0 (off + k * 3) o) => h.2.2
      clear hS hO
      go_wp2_with fail
      go_region_held3 (fun W => OpAt W b0 (off + k * 3) o)
        (first
          | exact HO.out
          | exact opAt_does HO.out lt0 HS.out f2 n2 k3
          | exact HO.out.fresh f2)
        (first
          | (go_at_call 13; refine (rnew_any 0 _).mono ?_; rintro e w2 ⟨g2, va, vx, rfl, s2, f2, n2⟩; have f2 := fresh_drew f2)
          | (go_at_call 12; refine (does_any g v g2 va vx l [(-1, 0)] o _ (HS.out.1.fresh f2) s2 HS.out.2.1 rises_one (by have := HS.out.2.2.1; omega) (by simp)).mono ?_; rintro e w3 ⟨b, rfl, _, k3, v', va', vx', s3, _, l3, _⟩))
      go_wp2
      go_roundg (n - (k + 1))
      case measure => omega
      case rel => exact ⟨k + 1, v', step l o, by omega, rfl, by go_num, HS.out.next f2 n2 k3 s3 l3⟩
    · obtain rfl : k = n := by omega
      have HS := Lib.hid hS
      clear hS H1 H3 H5
      have hb1 := HS.out.2.1.1
      have hb2 := HS.out.2.2.1
      have hu := upTo_le l at_
      have hcl := cutL_length HS.out.2.1 at_
      have HC := Lib.hid hcl
      go_wp2_with fail
      refine (copy_any g v l _ HS.out.1 hb1 (by omega)).mono ?_
      rintro e wa ⟨gc, vc, rfl, sa, fa, nga, nva⟩
      go_wp2_with fail
      refine (times_any gc vc l _ sa hb1 (by omega)).mono ?_
      rintro e wb ⟨vt, rfl, ot, fb, nt⟩
      obtain ⟨gt, offt, capt, rfl, lt, nct, mct, cct⟩ := ot.form hb1
      go_wp2_with fail
      refine (cut_any gc vc l at_ _ (sa.fresh fb) hb1 (by omega)).mono ?_
      rintro e wc ⟨rfl, vd, sc, kc, lc⟩
      have hr2 := cutL_rises HS.out.2.1 at_
      go_wp2_with fail
      refine (times_any gc vd (cutL l at_) _ sc (by omega) (by omega)).mono ?_
      rintro e wd ⟨vn, rfl, on, fd, nn⟩
      obtain ⟨gn, offn, capn, rfl, ln, ncn, mcn, ccn⟩ := on.form (by omega)
      rw [hcl]
      go_wp2_with fail
      have hle : l.length - (l.length - max (upTo l at_) 1) = max (upTo l at_) 1 := by omega
      rw [hle]
      have sb := sa.fresh fb
      have ot2 := (ot.kept kc (fun k e hh => hh.elim (fun h => ot.ne_blk sb.blk (by decide) (by rw [e, h])) (fun h => ot.ne_own sb.own (by decide) k e h))).fresh fd
      obtain ⟨gt', offt', capt', ee, _, _, _, cct2⟩ := ot2.form hb1
      cases ee
      refine (ints_same gn offn capn gt offt capt (max (upTo l at_) 1) ((cutL l at_).map (·.1)) _ (by simp [hcl]) (by omega) (by omega) mcn mct ccn ?_).mono ?_
      · intro j u hu
        exact cct2 j u (by
          have hj : j < max (upTo l at_) 1 := by have := (List.getElem?_eq_some_iff.1 hu).1; simp [ints, hcl] at this; omega
          simp only [ints, cutL, List.getElem?_map] at hu ⊢
          rw [List.getElem?_take, if_pos hj] at hu
          exact hu)
      rintro e we ⟨rfl, fe⟩
      have lR := HS.out.1.lt
      have dC : ∀ k, foot gc vc k → wr.heap.size ≤ k := by
        rintro k (rfl | hk)
        · exact nga
        · exact nva k hk
      have dD : ∀ k, foot gc vd k → wr.heap.size ≤ k := by
        rintro k (rfl | hk)
        · exact nga
        · rcases lc k hk with hk | hk
          · exact nva k hk
          · have := fa.size; have := fb.size; omega
      have sz := HS.out.2.2.2.1.size
      have SE : SRow we g v l := ((((HS.out.1.fresh fa).fresh fb).kept kc (fun h => by have := lR _ (.inl rfl); have := dC _ h; omega) (fun k h1 h2 => by have := lR _ (.inr h1); have := dC _ h2; omega)).fresh fd).fresh fe
      have FE : Fresh w we := (((((HS.out.2.2.2.1.step fa (fun _ _ h => h)).step fb (fun _ _ h => h)).step kc (fun k h1 h2 => by have := dC _ h2; omega)).step fd (fun _ _ h => h)).step fe (fun _ _ h => h))
      have CE : SRow we gc vd (cutL l at_) := (sc.fresh fd).fresh fe
      have ZE : wr.heap.size ≤ we.heap.size := by have := fa.size; have := fb.size; have := kc.size; have := fd.size; have := fe.size; omega
      have NE : ∀ j s, (cutL l at_)[j]? = some s → we.cell? ⟨gn, offn + j, none⟩ = some (.int .i64 s.1) := fun j s hs => fe.cell_ (ccn j _ (by simp [ints, hs]))
      have AT := cutL_at HS.out.2.1 at_
      have MAY := cutL_may HS.out.2.1 at_
      have HSE := Lib.hid SE
      have HFE := Lib.hid FE
      have HCE := Lib.hid CE
      have HNE := Lib.hid NE
      have HAT := Lib.hid AT
      have HMAY := Lib.hid MAY
      have HDD := Lib.hid dD
      have HLR := Lib.hid lR
      have HRI := Lib.hid hr2
      clear SE FE CE NE AT MAY dD dC lR hr2 ot ot2 on sa sb sc fa fb fd fe kc lc nga nva nt nn cct cct2 ccn hcl HC
      have hM1 : 1 ≤ max (upTo l at_) 1 := by omega
      have hM2 : max (upTo l at_) 1 ≤ l.length := by omega
      have HCL := cutL_length HS.out.2.1 at_
      generalize max (upTo l at_) 1 = M at *
      have HCL := Lib.hid HCL
      have tl1 : decide ((M : Int) < 1) = false := by simp; omega
      go_wp2_with fail
      go_loopg [11] (M - 1) (fun gk u wr2 => ∃ j : Nat, 1 ≤ j ∧ j ≤ M ∧ gk = M - j ∧ u = .int .i64 j ∧ Fresh we wr2)
      case atStart => exact ⟨1, by omega, by omega, rfl, rfl, Keep.refl _ _⟩
      case round =>
        obtain ⟨j, hj1, hj, rfl, rfl, hF⟩ := hrel
        have HF := Lib.hid hF
        clear hF
        by_cases hlt : j < M
        · obtain ⟨s, hs⟩ : ∃ s, (cutL l at_)[j]? = some s := ⟨_, List.getElem?_eq_getElem (by rw [HCL.out]; exact hlt)⟩
          have c1 := HF.out.cell_ (HNE.out j s hs)
          have hb := HAT.out j s (by omega) hs
          have t1 : decide (at_ ≤ s.1) = false := by simp; omega
          obtain ⟨s1, s2⟩ := s
          clear hs hb
          go_wp2_with fail
          go_roundg (M - (j + 1))
          case measure => omega
          case rel => exact ⟨j + 1, by omega, by omega, rfl, by go_num, HF.out⟩
        · obtain rfl : j = M := by omega
          obtain ⟨s, hs⟩ : ∃ s, (cutL l at_)[0]? = some s := ⟨_, List.getElem?_eq_getElem (by rw [HCL.out]; omega)⟩
          have c1 := HF.out.cell_ (HNE.out 0 s hs)
          rw [Nat.add_zero] at c1
          obtain ⟨s1, s2⟩ := s
          have HS0 := Lib.hid hs
          clear hs
          by_cases h0 : s1 < at_
          · have hmay := HMAY.out _ HS0.out h0 hm
            have hse : saveE (cutL l at_) at_ = 0 := by simp [saveE, hmay]
            have hsl : (saveL (cutL l at_) at_ 5).length = j + 1 := by simp [saveL, hmay, HCL.out]
            have hcl := HCL.out
            go_wp2_with (first
              | (go_at_call 21; refine (save_any gc vd (cutL l at_) at_ 5 _ (HCE.out.fresh HF.out) HRI.out (by omega)).mono ?_; rintro e wf ⟨rfl, ve, sf, kf, lf⟩; rw [hse])
              | (go_at_call 20; refine (len_any gc ve _ _ sf).mono ?_; rintro e wg ⟨rfl, rfl⟩; rw [hsl]))
            have sw := (HSE.out.fresh HF.out).kept kf (fun h => by have := HLR.out _ (.inl rfl); have := HDD.out _ h; omega) (fun k h1 h2 => by have := HLR.out _ (.inr h1); have := HDD.out _ h2; omega)
            have fw := (HFE.out.step HF.out (fun _ _ h => h)).step kf (fun k h1 h2 => by have := HDD.out _ h2; omega)
            have SW := Lib.hid sw
            have FW := Lib.hid fw
            clear sw fw sf kf lf hmay hse hsl hcl c1 HF HSE HFE HCE HNE HAT HMAY HDD HLR HRI
            refine (last_any g v l at_ _ SW.out).mono ?_
            rintro e w4 ⟨rfl, f4⟩
            have hR3 := lastR_err l at_
            obtain ⟨⟨R1, R2, R3⟩, hR⟩ : ∃ t, lastR l at_ = t := ⟨_, rfl⟩
            rw [hR] at hR3 ⊢
            simp only at hR3
            clear hR
            have s4 := SW.out.fresh f4
            have S4 := Lib.hid s4
            have f4 := FW.out.step f4 (fun _ _ h => h)
            have F4 := Lib.hid f4
            have HSR := Lib.hid HS.out.1.lt
            have hfl := freeL_length l at_
            have hfa := freeL_ahead (l := l) at_
            have hfr := freeL_rises HS.out.2.1 at_
            have hfr0 := hfr
            have HFR := Lib.hid hfr
            clear s4 f4 SW FW hfr
            obtain ⟨K, hK⟩ : ∃ K, upTo l at_ - 1 = K := ⟨_, rfl⟩
            obtain ⟨H, hH⟩ : ∃ H, upTo (freeL l at_) at_ = H := ⟨_, rfl⟩
            have HH := Lib.hid hH
            have hfree := free_any' g v l at_ _ S4.out (by omega)
            rw [hK] at hfree hfl
            obtain ⟨N, hN⟩ : ∃ N, (freeL l at_).length = N := ⟨_, rfl⟩
            rw [hN] at hfl
            have hN1 : 1 ≤ N := by have := hfr0.1; omega
            have hN2 : N ≤ l.length := by omega
            have tN : ((N : Int) == (l.length : Int) - (K : Int)) = true := by simp; omega
            have HTN := Lib.hid tN
            clear tN
            rw [hH] at hfa
            have HFREE := Lib.hid hfree
            have hKl : K ≤ l.length := by omega
            clear hfree hH hfr0
            by_cases z : upTo l at_ = 0
            · rw [if_pos z] at hR3
              rw [z] at hK hfa
              simp only [Nat.zero_sub] at hK
              subst hR3 hK
              simp only [Nat.zero_min] at hfa
              simp only [Nat.sub_zero] at hfl
              subst hfa hfl
              clear z HTN hN2
              go_wp2_with fail
              refine (HFREE.out).mono ?_
              rintro e w5 ⟨rfl, v5, s5, k5, l5⟩
              have f5 := F4.out.step k5 (fun k h1 h2 => by have := HS.out.2.2.2.2 k h2; omega)
              have F5 := Lib.hid f5
              clear f5 k5 l5
              go_wp2_with fail
              refine (times_any g v5 (freeL l at_) _ s5 (by omega) (by omega)).mono ?_
              rintro e w6 ⟨vt, rfl, o6, f6, n6⟩
              obtain ⟨gl, offl, capl, rfl, ll, nl, ml, cl⟩ := o6.form (by omega)
              have f6 := F5.out.step f6 (fun _ _ h => h)
              have F6 := Lib.hid f6
              have CL := Lib.hid cl
              clear f6 o6 n6 cl s5
              go_wp2_with fail
              go_loopg [17, 18] l.length (fun gk a u wr3 => ∃ i : Nat, i ≤ l.length ∧ gk = l.length - i ∧ a = .int .i64 (aheadN (freeL l at_) at_ i) ∧ u = .int .i64 i ∧ Fresh w6 wr3)
              case atStart => exact ⟨0, by omega, rfl, by simp [aheadN], rfl, Keep.refl _ _⟩
              case round =>
                obtain ⟨i, hi, rfl, rfl, rfl, hF⟩ := hrel
                have HF := Lib.hid hF
                clear hF
                by_cases hlt : i < l.length
                · obtain ⟨s, hs⟩ : ∃ s, (freeL l at_)[i]? = some s := ⟨_, List.getElem?_eq_getElem (by omega)⟩
                  have c1 := HF.out.cell_ (CL.out i (.int .i64 s.1) (by simp [ints, hs]))
                  have ha := aheadN_succ HFR.out.2 at_ i s hs
                  obtain ⟨s1, s2⟩ := s
                  obtain ⟨a, haa⟩ : ∃ a, aheadN (freeL l at_) at_ i = a := ⟨_, rfl⟩
                  rw [haa] at ha ⊢
                  have haN : a ≤ i := by rw [← haa]; unfold aheadN; omega
                  have HA := Lib.hid ha
                  clear ha hs haa
                  by_cases h5 : s1 < at_
                  all_goals have H5 := Lib.hid h5
                  · go_wp2_with fail
                    go_roundg (l.length - (i + 1))
                    case measure => omega
                    case rel => exact ⟨i + 1, by omega, rfl, by rw [HA.out, if_pos H5.out]; go_num, by go_num, HF.out⟩
                  · have t5 : decide (s1 < at_) = false := by simpa using h5
                    go_wp2_with fail
                    go_roundg (l.length - (i + 1))
                    case measure => omega
                    case rel => exact ⟨i + 1, by omega, rfl, by rw [HA.out, if_neg (by have := H5.out; omega)], by go_num, HF.out⟩
                · obtain rfl : i = l.length := by omega
                  have hfin : aheadN (freeL l at_) at_ l.length = 0 := by unfold aheadN; rw [HH.out]; omega
                  rw [hfin]
                  clear hfin
                  go_wp2_with (go_at_call 10; refine (awake_any _).mono ?_; rintro e w7 ⟨rfl, f7⟩)
                  go_ret
                  exact ⟨rfl, Fresh.below_ ((F6.out.step HF.out (fun _ _ h => h)).step f7 (fun _ _ h => h)) (Nat.le_refl _)⟩
            · rw [if_neg z] at hR3
              have hfa2 : H = 1 := by omega
              clear hfa
              subst hR3 hfa2
              clear z hK hfl
              go_wp2_with fail
              refine (HFREE.out).mono ?_
              rintro e w5 ⟨rfl, v5, s5, k5, l5⟩
              have f5 := F4.out.step k5 (fun k h1 h2 => by have := HS.out.2.2.2.2 k h2; omega)
              have F5 := Lib.hid f5
              clear f5 k5 l5
              go_wp2_with fail
              refine (times_any g v5 (freeL l at_) _ s5 (by omega) (by omega)).mono ?_
              rintro e w6 ⟨vt, rfl, o6, f6, n6⟩
              obtain ⟨gl, offl, capl, rfl, ll, nl, ml, cl⟩ := o6.form (by omega)
              have f6 := F5.out.step f6 (fun _ _ h => h)
              have F6 := Lib.hid f6
              have CL := Lib.hid cl
              clear f6 o6 n6 cl s5
              go_wp2_with fail
              go_loopg [17, 18] N (fun gk a u wr3 => ∃ i : Nat, i ≤ N ∧ gk = N - i ∧ a = .int .i64 (aheadN (freeL l at_) at_ i) ∧ u = .int .i64 i ∧ Fresh w6 wr3)
              case atStart => exact ⟨0, by omega, rfl, by simp [aheadN], rfl, Keep.refl _ _⟩
              case round =>
                obtain ⟨i, hi, rfl, rfl, rfl, hF⟩ := hrel
                have HF := Lib.hid hF
                clear hF
                by_cases hlt : i < N
                · obtain ⟨s, hs⟩ : ∃ s, (freeL l at_)[i]? = some s := ⟨_, List.getElem?_eq_getElem (by omega)⟩
                  have c1 := HF.out.cell_ (CL.out i (.int .i64 s.1) (by simp [ints, hs]))
                  have ha := aheadN_succ HFR.out.2 at_ i s hs
                  obtain ⟨s1, s2⟩ := s
                  obtain ⟨a, haa⟩ : ∃ a, aheadN (freeL l at_) at_ i = a := ⟨_, rfl⟩
                  rw [haa] at ha ⊢
                  have haN : a ≤ i := by rw [← haa]; unfold aheadN; omega
                  have HA := Lib.hid ha
                  clear ha hs haa
                  by_cases h5 : s1 < at_
                  all_goals have H5 := Lib.hid h5
                  · go_wp2_with fail
                    go_roundg (N - (i + 1))
                    case measure => omega
                    case rel => exact ⟨i + 1, by omega, rfl, by rw [HA.out, if_pos H5.out]; go_num, by go_num, HF.out⟩
                  · have t5 : decide (s1 < at_) = false := by simpa using h5
                    go_wp2_with fail
                    go_roundg (N - (i + 1))
                    case measure => omega
                    case rel => exact ⟨i + 1, by omega, rfl, by rw [HA.out, if_neg (by have := H5.out; omega)], by go_num, HF.out⟩
                · obtain rfl : i = N := by omega
                  have hfin : aheadN (freeL l at_) at_ i = 1 := by unfold aheadN; rw [HH.out]; omega
                  rw [hfin]
                  clear hfin
                  have tN := HTN.out
                  have tN2 : (i : Int) = (l.length : Int) - (K : Int) := by simpa using tN
                  go_wp2_with (go_at_call 10; refine (awake_any _).mono ?_; rintro e w7 ⟨rfl, f7⟩)
                  go_ret
                  exact ⟨rfl, Fresh.below_ ((F6.out.step HF.out (fun _ _ h => h)).step f7 (fun _ _ h => h)) (Nat.le_refl _)⟩
          · go_wp2_with fail
            have sw := HSE.out.fresh HF.out
            have fw := HFE.out.step HF.out (fun _ _ h => h)
            have SW := Lib.hid sw
            have FW := Lib.hid fw
            clear sw fw c1 HF HSE HFE HCE HNE HAT HMAY HDD HLR HRI
            refine (last_any g v l at_ _ SW.out).mono ?_
            rintro e w4 ⟨rfl, f4⟩
            have hR3 := lastR_err l at_
            obtain ⟨⟨R1, R2, R3⟩, hR⟩ : ∃ t, lastR l at_ = t := ⟨_, rfl⟩
            rw [hR] at hR3 ⊢
            simp only at hR3
            clear hR
            have s4 := SW.out.fresh f4
            have S4 := Lib.hid s4
            have f4 := FW.out.step f4 (fun _ _ h => h)
            have F4 := Lib.hid f4
            have HSR := Lib.hid HS.out.1.lt
            have hfl := freeL_length l at_
            have hfa := freeL_ahead (l := l) at_
            have hfr := freeL_rises HS.out.2.1 at_
            have hfr0 := hfr
            have HFR := Lib.hid hfr
            clear s4 f4 SW FW hfr
            obtain ⟨K, hK⟩ : ∃ K, upTo l at_ - 1 = K := ⟨_, rfl⟩
            obtain ⟨H, hH⟩ : ∃ H, upTo (freeL l at_) at_ = H := ⟨_, rfl⟩
            have HH := Lib.hid hH
            have hfree := free_any' g v l at_ _ S4.out (by omega)
            rw [hK] at hfree hfl
            obtain ⟨N, hN⟩ : ∃ N, (freeL l at_).length = N := ⟨_, rfl⟩
            rw [hN] at hfl
            have hN1 : 1 ≤ N := by have := hfr0.1; omega
            have hN2 : N ≤ l.length := by omega
            have tN : ((N : Int) == (l.length : Int) - (K : Int)) = true := by simp; omega
            have HTN := Lib.hid tN
            clear tN
            rw [hH] at hfa
            have HFREE := Lib.hid hfree
            have hKl : K ≤ l.length := by omega
            clear hfree hH hfr0
            by_cases z : upTo l at_ = 0
            · rw [if_pos z] at hR3
              rw [z] at hK hfa
              simp only [Nat.zero_sub] at hK
              subst hR3 hK
              simp only [Nat.zero_min] at hfa
              simp only [Nat.sub_zero] at hfl
              subst hfa hfl
              clear z HTN hN2
              go_wp2_with fail
              refine (HFREE.out).mono ?_
              rintro e w5 ⟨rfl, v5, s5, k5, l5⟩
              have f5 := F4.out.step k5 (fun k h1 h2 => by have := HS.out.2.2.2.2 k h2; omega)
              have F5 := Lib.hid f5
              clear f5 k5 l5
              go_wp2_with fail
              refine (times_any g v5 (freeL l at_) _ s5 (by omega) (by omega)).mono ?_
              rintro e w6 ⟨vt, rfl, o6, f6, n6⟩
              obtain ⟨gl, offl, capl, rfl, ll, nl, ml, cl⟩ := o6.form (by omega)
              have f6 := F5.out.step f6 (fun _ _ h => h)
              have F6 := Lib.hid f6
              have CL := Lib.hid cl
              clear f6 o6 n6 cl s5
              go_wp2_with fail
              go_loopg [17, 18] l.length (fun gk a u wr3 => ∃ i : Nat, i ≤ l.length ∧ gk = l.length - i ∧ a = .int .i64 (aheadN (freeL l at_) at_ i) ∧ u = .int .i64 i ∧ Fresh w6 wr3)
              case atStart => exact ⟨0, by omega, rfl, by simp [aheadN], rfl, Keep.refl _ _⟩
              case round =>
                obtain ⟨i, hi, rfl, rfl, rfl, hF⟩ := hrel
                have HF := Lib.hid hF
                clear hF
                by_cases hlt : i < l.length
                · obtain ⟨s, hs⟩ : ∃ s, (freeL l at_)[i]? = some s := ⟨_, List.getElem?_eq_getElem (by omega)⟩
                  have c1 := HF.out.cell_ (CL.out i (.int .i64 s.1) (by simp [ints, hs]))
                  have ha := aheadN_succ HFR.out.2 at_ i s hs
                  obtain ⟨s1, s2⟩ := s
                  obtain ⟨a, haa⟩ : ∃ a, aheadN (freeL l at_) at_ i = a := ⟨_, rfl⟩
                  rw [haa] at ha ⊢
                  have haN : a ≤ i := by rw [← haa]; unfold aheadN; omega
                  have HA := Lib.hid ha
                  clear ha hs haa
                  by_cases h5 : s1 < at_
                  all_goals have H5 := Lib.hid h5
                  · go_wp2_with fail
                    go_roundg (l.length - (i + 1))
                    case measure => omega
                    case rel => exact ⟨i + 1, by omega, rfl, by rw [HA.out, if_pos H5.out]; go_num, by go_num, HF.out⟩
                  · have t5 : decide (s1 < at_) = false := by simpa using h5
                    go_wp2_with fail
                    go_roundg (l.length - (i + 1))
                    case measure => omega
                    case rel => exact ⟨i + 1, by omega, rfl, by rw [HA.out, if_neg (by have := H5.out; omega)], by go_num, HF.out⟩
                · obtain rfl : i = l.length := by omega
                  have hfin : aheadN (freeL l at_) at_ l.length = 0 := by unfold aheadN; rw [HH.out]; omega
                  rw [hfin]
                  clear hfin
                  go_wp2_with (go_at_call 10; refine (awake_any _).mono ?_; rintro e w7 ⟨rfl, f7⟩)
                  go_ret
                  exact ⟨rfl, Fresh.below_ ((F6.out.step HF.out (fun _ _ h => h)).step f7 (fun _ _ h => h)) (Nat.le_refl _)⟩
            · rw [if_neg z] at hR3
              have hfa2 : H = 1 := by omega
              clear hfa
              subst hR3 hfa2
              clear z hK hfl
              go_wp2_with fail
              refine (HFREE.out).mono ?_
              rintro e w5 ⟨rfl, v5, s5, k5, l5⟩
              have f5 := F4.out.step k5 (fun k h1 h2 => by have := HS.out.2.2.2.2 k h2; omega)
              have F5 := Lib.hid f5
              clear f5 k5 l5
              go_wp2_with fail
              refine (times_any g v5 (freeL l at_) _ s5 (by omega) (by omega)).mono ?_
              rintro e w6 ⟨vt, rfl, o6, f6, n6⟩
              obtain ⟨gl, offl, capl, rfl, ll, nl, ml, cl⟩ := o6.form (by omega)
              have f6 := F5.out.step f6 (fun _ _ h => h)
              have F6 := Lib.hid f6
              have CL := Lib.hid cl
              clear f6 o6 n6 cl s5
              go_wp2_with fail
              go_loopg [17, 18] N (fun gk a u wr3 => ∃ i : Nat, i ≤ N ∧ gk = N - i ∧ a = .int .i64 (aheadN (freeL l at_) at_ i) ∧ u = .int .i64 i ∧ Fresh w6 wr3)
              case atStart => exact ⟨0, by omega, rfl, by simp [aheadN], rfl, Keep.refl _ _⟩
              case round =>
                obtain ⟨i, hi, rfl, rfl, rfl, hF⟩ := hrel
                have HF := Lib.hid hF
                clear hF
                by_cases hlt : i < N
                · obtain ⟨s, hs⟩ : ∃ s, (freeL l at_)[i]? = some s := ⟨_, List.getElem?_eq_getElem (by omega)⟩
                  have c1 := HF.out.cell_ (CL.out i (.int .i64 s.1) (by simp [ints, hs]))
                  have ha := aheadN_succ HFR.out.2 at_ i s hs
                  obtain ⟨s1, s2⟩ := s
                  obtain ⟨a, haa⟩ : ∃ a, aheadN (freeL l at_) at_ i = a := ⟨_, rfl⟩
                  rw [haa] at ha ⊢
                  have haN : a ≤ i := by rw [← haa]; unfold aheadN; omega
                  have HA := Lib.hid ha
                  clear ha hs haa
                  by_cases h5 : s1 < at_
                  all_goals have H5 := Lib.hid h5
                  · go_wp2_with fail
                    go_roundg (N - (i + 1))
                    case measure => omega
                    case rel => exact ⟨i + 1, by omega, rfl, by rw [HA.out, if_pos H5.out]; go_num, by go_num, HF.out⟩
                  · have t5 : decide (s1 < at_) = false := by simpa using h5
                    go_wp2_with fail
                    go_roundg (N - (i + 1))
                    case measure => omega
                    case rel => exact ⟨i + 1, by omega, rfl, by rw [HA.out, if_neg (by have := H5.out; omega)], by go_num, HF.out⟩
                · obtain rfl : i = N := by omega
                  have hfin : aheadN (freeL l at_) at_ i = 1 := by unfold aheadN; rw [HH.out]; omega
                  rw [hfin]
                  clear hfin
                  have tN := HTN.out
                  have tN2 : (i : Int) = (l.length : Int) - (K : Int) := by simpa using tN
                  go_wp2_with (go_at_call 10; refine (awake_any _).mono ?_; rintro e w7 ⟨rfl, f7⟩)
                  go_ret
                  exact ⟨rfl, Fresh.below_ ((F6.out.step HF.out (fun _ _ h => h)).step f7 (fun _ _ h => h)) (Nat.le_refl _)⟩
open Go.ChangeShapes Go.WideShapes Go.ChangeAt
set_option maxRecDepth 100000 in
theorem savesCuts_lifted (os : Os) (started : os.Started) (H : Type) (enc : TypeId × Value → H) :
    ReturnsInHanded {} Try.checked os 8 .any (Rows.savesCutsSpec.pre6 enc Try.prog Try.f8 Rows.savesCutsRow.domain false) (Rows.savesCutsSpec.post enc Try.prog Try.f8 false true false false) := by
  refine law_lifted (C := Try.checked) (tb := 4) (by kernel_rfl) (by kernel_rfl) started (by kernel_rfl) Try.func8 rfl ?_ rfl Try.underlying4 (by kernel_rfl)
    (ChangeSpec.witness6 (enc := enc) (C := Try.checked) false ⟨#[], #[.slice none 0 0, .int .i64 0], []⟩ 12 (by kernel_rfl) (by kernel_rfl) (by kernel_rfl) (by kernel_rfl)) ?_
  · intro ds hds
    match ds, hds with
    | [e0, e1], _ => rfl
  · intro W base args ds p hval hA hreach
    rw [Try.params8] at hA hval hreach
    obtain ⟨v0, vs0, d0, ds0, p0, q0, hargs, rfl, rfl, h0, r0⟩ := trodAll_cons hA
    obtain ⟨v1, vs1, d1, ds1, p1, q1, rfl, rfl, rfl, h1, r1⟩ := trodAll_cons r0
    obtain ⟨rfl, rfl, rfl⟩ := trodAll_nil r1
    obtain rfl : args = #[v0, v1] := by cases args; simp_all
    obtain ⟨A_l, n_l, c_l, rows_l, rfl, len_l, cap_l, max_l, leaf_l, at_l⟩ := arg_slice (n := 6) Try.underlying24 (by kernel_rfl) (by kernel_rfl) (by rw [show Try.prog.cellsOf 31 = 3 by kernel_rfl]; decide) (hval 0 24 v0 rfl rfl) h0
    rw [show flat Try.prog 6 31 = [3, 3, 3] by kernel_rfl] at leaf_l
    rw [show Try.prog.cellsOf 31 = 3 by kernel_rfl] at at_l
    obtain ⟨t, rfl, w_t⟩ := arg_int Try.underlying3 (hval 1 3 v1 rfl rfl) h1
    by_cases h : 60 < n_l ∨ t < 0 ∨ 1073741824 < t
    · exact cuts_arg A_l n_l c_l t W h (by unfold maxLen at max_l; omega)
    · exact cuts_ok A_l n_l c_l rows_l t W (by omega) (by omega) (by omega) len_l (opRow_arg leaf_l) at_l

theorem savesCuts_holds : Rows.SavesCutsSaid :=
  OpenClaim.holds_of_wide 8 Try.f8 rfl rfl rfl rfl rfl rfl rfl ⟨rfl, rfl, rfl, rfl, rfl⟩ rfl rfl rfl rfl rfl (by kernel_rfl) Try.func8 (by kernel_rfl)
    (of_decide_eq_true (by kernel_rfl)) (by unfold Func.isWrapper; first | (rw [if_pos (by decide +kernel)]; kernel_rfl) | (rw [if_neg (by decide +kernel)]; exact ⟨rfl, rfl⟩))
    (fun os started H enc _ => savesCuts_lifted os started H enc)
end Go.Proofs.Ytehiakdagmocjaa
