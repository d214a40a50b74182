/- RingAgain returns true at every input: what is taken away by Back, and pushed again, is as it was. No conditions. -/
import Derived.Test.YtfckbgifmajbjaaCopy
namespace Go.Proofs.Ytfckbgifmajbjaa
open Go.RowKit
attribute [local go_sem ↓] Go.wp_at_zero Go.wp_at_succ run_min run_max

set_option maxRecDepth 100000 in
theorem again_arg (room a : Int) (A : Option Addr) (n c : Nat) (w : World) (h : room < 1 ∨ 40 < room ∨ 60 < n ∨ a = 9223372036854775807) (hn : n ≤ 9223372036854775807) :
    Law Try.prog 7 #[.int .i64 room, .slice A n c, .int .i64 a] w := by
  unfold Law
  have hq : decide (room < 1) = true ∨ (decide (room < 1) = false ∧ decide (40 < room) = true) ∨ (decide (room < 1) = false ∧ decide (40 < room) = false ∧ decide (n ≤ 60) = false) ∨ (decide (room < 1) = false ∧ decide (40 < room) = false ∧ decide (n ≤ 60) = true ∧ (a == 9223372036854775807) = true) := by
    by_cases h1 : room < 1 <;> by_cases h2 : 40 < room <;> by_cases h3 : n ≤ 60 <;> simp [h1, h2, h3] <;> omega
  clear h
  rcases hq with q1 | ⟨q1, q2⟩ | ⟨q1, q2, q5⟩ | ⟨q1, q2, q5, q6⟩
  all_goals
    go_enter Try.func7, Try.ntmps7
    go_wp2_with (first | (go_at_call 9; refine (few_any A n c _).mono ?_; rintro e w1 ⟨rfl, rfl⟩; rw [q5]) | (go_at_call 10; refine (awake_any _).mono ?_; rintro e w2 ⟨rfl, h3⟩))
    go_ret
    exact ⟨rfl, Fresh.below_ h3 (Nat.le_refl _)⟩

def tms (L : List (Int × Int)) (a : Int) (q : Nat) : List Int := ((L.take q).filter fun s => decide (a ≤ s.1)).map (·.1)
theorem tms_step {L : List (Int × Int)} {a : Int} {q : Nat} {x : Int × Int} (hx : L[q]? = some x) : tms L a (q + 1) = if a ≤ x.1 then tms L a q ++ [x.1] else tms L a q := by
  unfold tms
  rw [List.take_add_one, hx]
  simp only [Option.toList_some, List.filter_append, List.map_append, List.filter_cons, List.filter_nil]
  by_cases h : a ≤ x.1 <;> simp [h]
theorem tms_len (L : List (Int × Int)) (a : Int) (q : Nat) : (tms L a q).length ≤ q := by
  unfold tms
  rw [List.length_map]
  exact Nat.le_trans (List.length_filter_le _ _) (by rw [List.length_take]; omega)
theorem tms_all {L : List (Int × Int)} (h : Asc L) (a : Int) : tms L a L.length = (L.drop (lows L a)).map (·.1) := by
  unfold tms
  rw [List.take_length]
  have hf := (countP_asc (L := L) (p := fun t => decide (t < a)) (fun x y hxy hy => by simp at hy ⊢; omega) h).2
  have hc : L.countP (fun s => decide (s.1 < a)) = lows L a := rfl
  rw [hc] at hf
  rw [← hf]
  congr 1
  apply List.filter_congr
  intro s _
  by_cases h1 : a ≤ s.1 <;> simp [h1] <;> omega
theorem push_next {L : List (Int × Int)} (h : Asc L) {p room : Nat} {x : Int × Int} (hx : L[p]? = some x) (hr : L.length ≤ room) : pushL (L.take p) room (x.1, x.2) = (0, L.take (p + 1)) := by
  have hp := (List.getElem?_eq_some_iff.1 hx).1
  unfold pushL
  have h1 : ((L.take p).any fun y => decide ((x.1, x.2).1 < y.1)) = false := by
    rw [List.any_eq_false]
    intro y hy
    obtain ⟨i, hi, rfl⟩ := List.mem_iff_getElem.1 hy
    rw [List.length_take] at hi
    rw [List.getElem_take]
    have := h.le (List.getElem?_eq_getElem (show i < L.length by omega)) hx (by omega)
    simp
    omega
  rw [h1]
  simp only [Bool.false_eq_true, if_false]
  rw [if_neg (by rw [List.length_take]; omega), List.take_add_one, hx]
  rfl

set_option maxHeartbeats 4000000 in
set_option maxRecDepth 100000 in
theorem again_ok (room : Nat) (a : Int) (A : Option Addr) (c : Nat) (os : List ROp) (w : World) (h : Ops w A os) (hr1 : 1 ≤ room) (hr2 : room ≤ 40) (hn : os.length ≤ 60) (ha : a ≠ 9223372036854775807) (ha2 : -9223372036854775808 ≤ a ∧ a ≤ 9223372036854775807) :
    Law Try.prog 7 #[.int .i64 room, .slice A os.length c, .int .i64 a] w := by
  unfold Law
  have H := Lib.hid h
  have q1 : decide ((room : Int) < 1) = false := decide_eq_false (by omega)
  have q1' : decide (room < 1) = false := decide_eq_false (by omega)
  have q2 : decide (40 < (room : Int)) = false := decide_eq_false (by omega)
  have q2' : decide (40 < room) = false := decide_eq_false (by omega)
  have q5 : decide (os.length ≤ 60) = true := decide_eq_true hn
  have q6 : (a == 9223372036854775807) = false := by simpa using ha
  have HA := Lib.hid ha
  clear h ha
  go_enter Try.func7, Try.ntmps7
  go_wp2_with (go_at_call 9; refine (few_any A os.length c _).mono ?_; rintro e w1 ⟨rfl, rfl⟩; rw [q5])
  refine (new_any room hr1 (by omega) _).mono ?_
  rintro e w2 ⟨g, gs, off, cap, rfl, a2, f2, n1, n2⟩
  have START := Lib.hid (RInv.start a2 f2 n1 n2)
  clear a2 f2 n1 n2
  go_wp2_with fail
  obtain ⟨gr, hgr⟩ : ∃ gr, w2.heap.size = gr := ⟨_, rfl⟩
  rw [hgr] at START ⊢
  go_loopg [10] os.length (fun gk u wr => ∃ (q : Nat) (v : Value) (L : List (Int × Int)), q ≤ os.length ∧ gk = os.length - q ∧ u = .int .i64 q ∧ RInv w q g gs off cap gr v room L wr)
  case atStart => exact ⟨0, _, _, by omega, rfl, rfl, START.out⟩
  case round =>
    clear START hgr
    obtain ⟨q, v, L, hq, rfl, rfl, hI⟩ := hrel
    have HI := Lib.hid hI
    clear hI
    by_cases hlt : q < os.length
    · obtain ⟨o, ho⟩ : ∃ o, os[q]? = some o := ⟨_, List.getElem?_eq_getElem hlt⟩
      obtain ⟨b0, o0, rfl, lt0, hO⟩ := (H.out.fresh HI.out.fr) q o ho
      have HD := Lib.hid (does_any g gs off cap gr room v L o wr HI.out.hd HI.out.rr)
      have HN : Hid (∀ w', DPost g gs off cap gr v room (doesL L room o) wr w' → ∃ v' L', RInv w (q + 1) g gs off cap gr v' room L' w') := fun w' p => HI.out.does p
      obtain ⟨L', hL'⟩ : ∃ L', doesL L room o = L' := ⟨_, rfl⟩
      rw [hL'] at HD HN
      have c0 := hO 0 (.int .i64 o.ask) rfl
      have c1 := hO 1 (.int .i64 o.t) rfl
      have c2 := hO 2 (.int .i64 o.x) rfl
      obtain ⟨ask, t, x⟩ := o
      simp only [ROp.arr] at c0 c1 c2 HD
      rw [Nat.add_zero] at c0
      clear hL' hO ho
      go_wp2_with fail
      refine HD.out.mono ?_
      rintro e w3 ⟨rfl, p3⟩
      obtain ⟨v', L2, hI3⟩ := HN.out _ p3
      have H3 := Lib.hid hI3
      clear p3 hI3
      go_wp2_with fail
      go_roundg (os.length - (q + 1))
      case measure => omega
      case rel => exact ⟨q + 1, _, _, by omega, rfl, by go_num, H3.out⟩
    · obtain rfl : q = os.length := by omega
      rename World => wB
      have HS := Lib.hid HI.out.hd
      have hasc := HI.out.hd.asc
      have hroom := HI.out.hd.room
      have e1 : lows L (a + 1) = ups L a := by
        unfold ups lows
        apply List.countP_congr
        intro s _
        simp
        omega
      have hku : ups L a ≤ L.length := List.countP_le_length
      obtain ⟨k, hk⟩ : ∃ k, ups L a = k := ⟨_, rfl⟩
      have HU : Hid (Calls Try.prog 16 #[.pointer (some ⟨g, 0, none⟩), .int .i64 a] wB fun e w' => e = .returned (told (uptoL L a)) ∧ Fresh wB w') := upto_held HS.out a
      have HC : Hid (∀ W, Fresh wB W → Calls Try.prog 22 #[.pointer (some ⟨g, 0, none⟩)] W fun e w' => ∃ g' gs' off' cap', e = .returned (.pointer (some ⟨g', 0, none⟩)) ∧ Held g' gs' off' cap' room L w' ∧ Fresh W w' ∧ W.heap.size ≤ g' ∧ W.heap.size ≤ gs') := fun W f => copy_any g gs off cap room L W (HS.out.fresh f)
      have HFr : Hid (∀ g' gs' off' cap' W, Held g' gs' off' cap' room L W → Calls Try.prog 20 #[.pointer (some ⟨g', 0, none⟩), .int .i64 (a + 1)] W (PartP g' gs' off' cap' room (L.drop k) (vals (L.take k)) W)) := fun g' gs' off' cap' W h => by
        have := front_any g' gs' off' cap' room L (a + 1) W h
        rw [e1, hk] at this
        exact this
      have hcase : (k = 0 ∧ uptoL L a = none) ∨ (0 < k ∧ ∃ u, uptoL L a = some u ∧ L[k - 1]? = some u ∧ u.1 ≤ a) := by
        unfold uptoL
        rw [hk]
        rcases Nat.eq_zero_or_pos k with h0 | h0
        · exact .inl ⟨h0, by rw [if_neg (by omega)]⟩
        · obtain ⟨u, hu⟩ : ∃ u, L[k - 1]? = some u := ⟨_, List.getElem?_eq_getElem (by omega)⟩
          have := (ups_iff hasc a (by omega) hu).2 (by omega)
          exact .inr ⟨h0, u, by rw [if_pos h0, hu], hu, this⟩
      have hwr : IntKind.i64.wrap (a + 1) = a + 1 := IntWalk.i64_in _ (by have := HA.out; omega)
      have hlv : (vals (L.take k)).length = k := by simp [vals]; omega
      have HLV := Lib.hid hlv
      have HK := Lib.hid hk
      have hk60 : k ≤ 60 := by have := HI.out.le; omega
      have HKU := Lib.hid (show k ≤ L.length by omega)
      clear hk e1 hku hlv
      rcases hcase with ⟨rfl, hu⟩ | ⟨h0, ⟨ut, uv⟩, hu, hlu, hua⟩
      · rw [hu] at HU
        unfold told at HU
        simp only at HU
        clear hu
        go_wp2_with fail
        refine HU.out.mono ?_
        rintro e w3 ⟨rfl, f3⟩
        have F3 := Lib.hid f3
        clear f3
        go_wp2_with fail
        refine (HC.out _ F3.out).mono ?_
        rintro e w4 ⟨g2, gs2, off2, cap2, rfl, h4, f4, n4, m4⟩
        have F4 : Hid (Fresh wB w4) := F3.out.step f4 (fun _ _ h => h)
        have HF4 := Lib.hid (HFr.out _ _ _ _ _ h4)
        have N4 : Hid (wB.heap.size ≤ g2 ∧ wB.heap.size ≤ gs2) := ⟨Nat.le_trans F3.out.size n4, Nat.le_trans F3.out.size m4⟩
        clear h4 f4 n4 m4
        go_wp2_with fail
        refine HF4.out.mono ?_
        rintro e w5 ⟨v5, rfl, g5, h5, k5⟩
        obtain ⟨A5, c5, rfl, hcl5, hcm5⟩ := g5.1.shape
        have hcm5 : c5 ≤ 9223372036854775807 := by unfold maxLen at hcm5; omega
        have F5 : Hid (Fresh wB w5) := F4.out.step k5 (fun i hi e => by have := N4.out; rcases e with rfl | rfl <;> omega)
        have lv5 : (vals (List.take 0 L)).length = 0 := rfl
        clear g5 h5 k5 HF4
        go_wp2_with fail
        obtain ⟨i0, hi, hz0, hz1, hz2⟩ := info_parts info_int
        have h01 : 0 < 1 := by omega
        have hL60 : L.length ≤ 60 := by have := HI.out.le; omega
        have HASC := Lib.hid hasc
        clear hasc
        go_loopg [16, 17] L.length (fun gk tv u W => ∃ q : Nat, q ≤ L.length ∧ gk = L.length - q ∧ u = .int .i64 q ∧ OwnS W 3 1 tv (tms L a q).length (ints (tms L a q)) ∧ Fresh wB W ∧ ∀ k, tv.ownBlock = some k → wB.heap.size ≤ k)
        case atStart => exact ⟨0, Nat.zero_le _, rfl, rfl, OwnS.nil _ _ _, F5.out, by simp [Value.ownBlock]⟩
        case round =>
          obtain ⟨q, hq, rfl, rfl, hO, hF, hN⟩ := hrel
          have HO := Lib.hid hO
          have FR : Hid (Fresh wB wr) := hF
          have HN := Lib.hid hN
          have rr := HI.out.rr.fresh hF
          have cr := rr.blk.cell
          have lr := rr.blk.lt
          obtain ⟨Av, cv, hvv, hcv, hmv⟩ := rr.own.shape
          have hmv : cv ≤ 9223372036854775807 := by unfold maxLen at hmv; omega
          by_cases hlt : q < L.length
          · obtain ⟨x, hx⟩ : ∃ x, L[q]? = some x := ⟨_, List.getElem?_eq_getElem hlt⟩
            obtain ⟨ga, oa, ca, hva, la, _, _, cca⟩ := rr.own.form (by omega)
            obtain ⟨c0, _⟩ := cells_at L q x hx
            have c0 := cca _ _ c0
            rw [hva] at hvv
            injection hvv with hvv1 _ hvv2
            subst hvv1 hvv2
            rw [hva] at cr
            have hq0 : (0 : Int) ≤ (q : Int) := by omega
            have hq1 : (q : Int) < (L.length : Int) := by omega
            have t1 : decide ((q : Int) < (L.length : Int)) = true := decide_eq_true hq1
            have t1' : decide (q < L.length) = true := decide_eq_true hlt
            have HST := Lib.hid (tms_step (a := a) hx)
            have htl := tms_len L a q
            obtain ⟨At, ct, rfl, hct, hmt⟩ := hO.shape
            obtain ⟨xa, xb⟩ := x
            simp only at c0 HST
            have FWR : Hid (Fresh wr wr) := Keep.refl _ _
            have hm1 : (tms L a q).length + 1 ≤ maxLen := one_le_maxLen (by omega)
            have hm2 : ((tms L a q).length + 1) * 8 ≤ 140737488355328 := by omega
            have HSR : Hid (∀ W : World, Src (W.alloc (.cells #[.int .i64 xa] 3)) 1 (.slice (some ⟨W.heap.size, 0, none⟩) 1 1) 1 (ints [xa])) := fun W => Src.one_new W 3 1 #[.int .i64 xa] rfl
            clear hO hF hN hx cca rr hva
            by_cases hax : a ≤ xa
            · have t2 : decide (a ≤ xa) = true := decide_eq_true hax
              have HST2 : Hid (tms L a (q + 1) = tms L a q ++ [xa]) := by have := HST.out; rw [if_pos hax] at this; exact this
              clear hax
              go_wp2_with (at_builtin; refine wpList_append_OwnS _ rfl _ _ 47 rfl 3 i0 (.int .i64 0) 1 8 Try.underlying47 hi hz0 hz1 hz2 rfl h01 (.slice At (tms L a q).length ct) (tms L a q).length (ints (tms L a q)) rfl (HO.out.fresh (Keep.alloc FWR.out _)) (.slice (some ⟨wr.heap.size, 0, none⟩) 1 1) 1 (ints [xa]) rfl (HSR.out wr) (ints_one _) hm1 hm2 ?_; intro v6 w6 o6 k6 n6; obtain ⟨A6, c6, rfl, _, _⟩ := o6.shape; have O6 := Lib.hid o6; have K6 := Lib.hid k6; have N6 := Lib.hid n6; clear o6 k6 n6)
              go_roundg (L.length - (q + 1))
              case measure => omega
              case rel =>
                have fz : Fresh wB (wr.alloc (.cells #[.int .i64 xa] 3)) := FR.out.alloc _
                have hsz := fz.size
                refine ⟨q + 1, by omega, rfl, by go_num, ?_, fz.step K6.out (fun i hi h => by have := HN.out i h; omega), fun k hk => ?_⟩
                · rw [HST2.out, List.length_append, ints_append]
                  exact O6.out
                · rcases N6.out k hk with h | h
                  · exact HN.out k h
                  · omega
            · have t2 : decide (a ≤ xa) = false := decide_eq_false hax
              have HST2 : Hid (tms L a (q + 1) = tms L a q) := by have := HST.out; rw [if_neg hax] at this; exact this
              clear hax
              go_wp2_with fail
              go_roundg (L.length - (q + 1))
              case measure => omega
              case rel => exact ⟨q + 1, by omega, rfl, by go_num, by rw [HST2.out]; exact HO.out, FR.out, HN.out⟩
          · obtain rfl : q = L.length := by omega
            have t1 : decide ((L.length : Int) < (L.length : Int)) = false := decide_eq_false (by omega)
            rw [hvv] at cr
            rw [tms_all HASC.out] at hO
            obtain ⟨n0, hn0⟩ : ∃ n0, lows L a = n0 := ⟨_, rfl⟩
            have hn0l : n0 ≤ L.length := hn0 ▸ List.countP_le_length
            have HB : Hid (Calls Try.prog 19 #[.pointer (some ⟨g, 0, none⟩), .int .i64 a] wr (PartP g gs off cap room (L.take n0) (vals (L.drop n0).reverse) wr)) := by
              have := back_any g gs off cap room L a wr (HS.out.fresh hF)
              rw [hn0] at this
              exact this
            rw [hn0] at hO
            have hlt2 : ((L.drop n0).map (·.1)).length = L.length - n0 := by simp
            rw [hlt2] at hO
            have HO2 := Lib.hid hO
            have HN2 := Lib.hid hN
            have FRX : Hid (Fresh wB wr) := hF
            obtain ⟨At, ct, rfl, hct, hmt⟩ := hO.shape
            have hmt : ct ≤ 9223372036854775807 := by unfold maxLen at hmt; omega
            clear hO hF hN HO rr hn0 hlt2
            go_wp2_with fail
            refine HB.out.mono ?_
            rintro e w7 ⟨v7, rfl, g7, h7, k7⟩
            have hap := (apart HS.out HI.out.rr)
            have hgl := HS.out.lt
            have hvl : (vals (L.drop n0).reverse).length = L.length - n0 := by simp [vals]
            have g71 := g7.1
            rw [hvl] at g71
            obtain ⟨A8, c8, rfl, hc8, hm8⟩ := g71.shape
            have hm8 : c8 ≤ 9223372036854775807 := by unfold maxLen at hm8; omega
            have HV8 := Lib.hid g71
            have HVN : Hid (∀ i, (Value.slice A8 (L.length - n0) c8).ownBlock = some i → wB.heap.size ≤ i) := fun i hi => Nat.le_trans FRX.out.size (g7.2 i hi)
            have HGL := Lib.hid hgl
            have HT8 : Hid (OwnS w7 3 1 (.slice At (L.length - n0) ct) (L.length - n0) (ints ((L.drop n0).map (·.1)))) := HO2.out.kept k7 (fun i hi h => by
              have := HN2.out i hi
              rcases h with rfl | rfl <;> omega)
            have H7 := Lib.hid h7
            have K7 : Hid (Keep (fun k => k = g ∨ k = gs) wB w7) := (FR.out.more (fun _ _ h => h.elim)).trans k7
            obtain ⟨N, hNN⟩ : ∃ N, L.length - n0 = N := ⟨_, rfl⟩
            have HNN := Lib.hid hNN
            rw [hNN] at HV8 HT8
            have hN60 : N ≤ 60 := by omega
            rw [hNN]
            have HAP := Lib.hid hap
            clear g7 g71 h7 k7 hap hgl hvl HB cr lr hNN
            go_wp2_with fail
            go_loopg [19] N (fun gk u W => ∃ q : Nat, q ≤ N ∧ gk = N - q ∧ u = .int .i64 q ∧ Held g gs off cap room (L.take (n0 + q)) W ∧ Keep (fun k => k = g ∨ k = gs) w7 W)
            case atStart => exact ⟨0, Nat.zero_le _, rfl, rfl, H7.out, Keep.refl _ _⟩
            case round =>
              obtain ⟨q, hq, rfl, rfl, hH, hK⟩ := hrel
              have HH := Lib.hid hH
              have HK9 := Lib.hid hK
              by_cases hlt : q < N
              · obtain ⟨x, hx⟩ : ∃ x, L[n0 + q]? = some x := ⟨_, List.getElem?_eq_getElem (by have := HNN.out; omega)⟩
                have hnx := push_next HASC.out (p := n0 + q) (room := room) hx hroom.2
                have hdx : (L.drop n0)[q]? = some x := by rw [List.getElem?_drop]; exact hx
                have hNN := HNN.out
                have hgl := HGL.out
                have hks : ∀ i, wB.heap.size ≤ i → ¬ (i = g ∨ i = gs) := fun i h1 h2 => by rcases h2 with rfl | rfl <;> omega
                have oT := HT8.out.kept hK (fun i hi => hks i (HN2.out i (by rw [hNN]; exact hi)))
                have oB := HV8.out.kept hK (fun i hi => hks i (HVN.out i (by rw [hNN]; exact hi)))
                obtain ⟨bt, ot, ct', et, lt1, _, _, cT⟩ := oT.form (by omega)
                obtain ⟨bb, ob, cb', eb, lb1, _, _, cB⟩ := oB.form (by omega)
                obtain ⟨j, hj⟩ : ∃ j, N - 1 - q = j := ⟨_, rfl⟩
                have dT := cT q (.int .i64 x.1) (by
                  unfold ints
                  rw [List.getElem?_map, List.getElem?_map, hdx]
                  rfl)
                have dB := cB j (.int .i64 x.2) (by
                  unfold ints vals
                  rw [List.getElem?_map, List.getElem?_map, List.getElem?_reverse (by simp; omega)]
                  have : (L.drop n0).length - 1 - j = q := by simp; omega
                  rw [this, hdx]
                  rfl)
                injection et with et1 _ et2
                injection eb with eb1 _ eb2
                have hPU : ∀ W, Fresh wr W → Calls Try.prog 24 #[.pointer (some ⟨g, 0, none⟩), .int .i64 x.1, .int .i64 x.2] W fun e w' => e = .returned (.int .i64 0) ∧ Held g gs off cap room (L.take (n0 + q + 1)) w' ∧ Keep (fun k => k = g ∨ k = gs) W w' := fun W f => by
                  have := push_any g gs off cap room (L.take (n0 + q)) x.1 x.2 W (hH.fresh f)
                  rw [hnx] at this
                  exact this
                have HPU := Lib.hid hPU
                have hq0 : (0 : Int) ≤ (q : Int) := by omega
                have hq1 : (q : Int) < (N : Int) := by omega
                have hj0 : (0 : Int) ≤ (j : Int) := by omega
                have hj1 : (j : Int) < (N : Int) := by omega
                have hji : (N : Int) - 1 - (q : Int) = (j : Int) := by omega
                have v1 : IntKind.i64.wrap ((N : Int) - 1) = (N : Int) - 1 := IntWalk.i64_in _ (by omega)
                have v2 : IntKind.i64.wrap ((N : Int) - 1 - (q : Int)) = (j : Int) := by rw [hji]; exact IntWalk.i64_in _ (by omega)
                have v3 : IntKind.i64.wrap (j : Int) = (j : Int) := IntWalk.i64_in _ (by omega)
                have t1 : decide ((q : Int) < (N : Int)) = true := decide_eq_true hq1
                have t1' : decide (q < N) = true := decide_eq_true hlt
                have HJ := Lib.hid hj
                clear hnx hdx hNN hgl hks oT oB cT cB hx hPU hH hK hj
                subst et1 eb1 et2 eb2
                obtain ⟨xa, xb⟩ := x
                simp only at dT dB HPU
                have fwd : Fresh wr wr.drew := (Keep.refl _ _).drew
                have FWD := Lib.hid fwd
                clear fwd
                go_wp2_with fail
                go_still_tail 13, (by kernel_rfl)
                change wpList _ _ _ _ _ wr.drew
                go_wp2_with fail
                refine (HPU.out _ FWD.out).mono ?_
                rintro e w9 ⟨rfl, h9, k9⟩
                have H9 := Lib.hid h9
                have K9 := Lib.hid k9
                clear h9 k9
                go_wp2_with fail
                go_roundg (N - (q + 1))
                case measure => omega
                case rel => exact ⟨q + 1, by omega, rfl, by go_num, by rw [← Nat.add_assoc]; exact H9.out, (HK9.out.step FWD.out (fun _ _ h => h.elim)).trans K9.out⟩
              · obtain rfl : q = N := by omega
                have t1 : decide ((q : Int) < (q : Int)) = false := decide_eq_false (by omega)
                have hfull : L.take (n0 + q) = L := by rw [← HNN.out]; exact List.take_of_length_le (by omega)
                rw [hfull] at hH
                have K10 : Keep (fun k => k = g ∨ k = gs) wB wr := K7.out.trans hK
                have RR10 : RRing wr gr v room L := HI.out.rr.kept K10 (fun i hi h => by
                  rcases h with rfl | rfl
                  · exact HAP.out.1 hi
                  · exact HAP.out.2 hi)
                have HSA := Lib.hid (same_any g gs off cap room gr v L wr hH RR10)
                have FRW : Hid (Fresh w wr) := HI.out.fr.step K10 (fun i hi h => by
                  have h1 := HI.out.ng
                  have h2 := HI.out.ns
                  rcases h with rfl | rfl <;> omega)
                clear hH hK K10 RR10 hfull
                go_wp2_with (first
                  | (go_at_call 17; (with_reducible refine HSA.out.mono ?_); rintro e w11 ⟨rfl, f11⟩)
                  | (go_at_call 10; refine (awake_any _).mono ?_; rintro e w12 ⟨rfl, f12⟩))
                go_ret
                exact ⟨rfl, Fresh.below_ ((FRW.out.step f11 (fun _ _ h => h)).step f12 (fun _ _ h => h)) (Nat.le_refl _)⟩
      · rw [hu] at HU
        unfold told at HU
        simp only at HU
        have hlast : (ints (vals (L.take k)))[k - 1]? = some (.int .i64 uv) := by
          unfold ints vals
          rw [List.getElem?_map, List.getElem?_map, List.getElem?_take, if_pos (by omega), hlu]
          rfl
        have HLAST := Lib.hid hlast
        have t1 : decide (a < ut) = false := decide_eq_false (by simp at hua; omega)
        have t2 : ((k : Int) == 0) = false := by simp; omega
        have t3 : decide ((0 : Int) < (k : Int)) = true := decide_eq_true (by omega)
        have z1 : IntKind.i64.wrap ((k : Int) - 1) = (k : Int) - 1 := IntWalk.i64_in _ (by omega)
        have z2 : (0 : Int) ≤ (k : Int) - 1 := by omega
        have z3 : ((k : Int) - 1).toNat = k - 1 := by omega
        have z4 : (k : Int) - 1 < (k : Int) := by omega
        clear hu hua hlu hlast
        go_wp2_with fail
        refine HU.out.mono ?_
        rintro e w3 ⟨rfl, f3⟩
        have F3 := Lib.hid f3
        clear f3
        go_wp2_with fail
        refine (HC.out _ F3.out).mono ?_
        rintro e w4 ⟨g2, gs2, off2, cap2, rfl, h4, f4, n4, m4⟩
        have F4 : Hid (Fresh wB w4) := F3.out.step f4 (fun _ _ h => h)
        have HF4 := Lib.hid (HFr.out _ _ _ _ _ h4)
        have N4 : Hid (wB.heap.size ≤ g2 ∧ wB.heap.size ≤ gs2) := ⟨Nat.le_trans F3.out.size n4, Nat.le_trans F3.out.size m4⟩
        clear h4 f4 n4 m4
        go_wp2_with fail
        refine HF4.out.mono ?_
        rintro e w5 ⟨v5, rfl, g5, h5, k5⟩
        have g51 := g5.1
        rw [HLV.out] at g51
        obtain ⟨b5, o5, c5, rfl, hb5, hcl5, hcm5, hc5⟩ := g51.form h0
        have hcm5 : c5 ≤ 9223372036854775807 := by unfold maxLen at hcm5; omega
        have x5 := hc5 _ _ HLAST.out
        have F5 : Hid (Fresh wB w5) := F4.out.step k5 (fun i hi e => by have := N4.out; rcases e with rfl | rfl <;> omega)
        clear g5 h5 k5 HF4 g51 hc5
        go_wp2_with fail
        obtain ⟨i0, hi, hz0, hz1, hz2⟩ := info_parts info_int
        have h01 : 0 < 1 := by omega
        have hL60 : L.length ≤ 60 := by have := HI.out.le; omega
        have HASC := Lib.hid hasc
        clear hasc
        go_loopg [16, 17] L.length (fun gk tv u W => ∃ q : Nat, q ≤ L.length ∧ gk = L.length - q ∧ u = .int .i64 q ∧ OwnS W 3 1 tv (tms L a q).length (ints (tms L a q)) ∧ Fresh wB W ∧ ∀ k, tv.ownBlock = some k → wB.heap.size ≤ k)
        case atStart => exact ⟨0, Nat.zero_le _, rfl, rfl, OwnS.nil _ _ _, F5.out, by simp [Value.ownBlock]⟩
        case round =>
          obtain ⟨q, hq, rfl, rfl, hO, hF, hN⟩ := hrel
          have HO := Lib.hid hO
          have FR : Hid (Fresh wB wr) := hF
          have HN := Lib.hid hN
          have rr := HI.out.rr.fresh hF
          have cr := rr.blk.cell
          have lr := rr.blk.lt
          obtain ⟨Av, cv, hvv, hcv, hmv⟩ := rr.own.shape
          have hmv : cv ≤ 9223372036854775807 := by unfold maxLen at hmv; omega
          by_cases hlt : q < L.length
          · obtain ⟨x, hx⟩ : ∃ x, L[q]? = some x := ⟨_, List.getElem?_eq_getElem hlt⟩
            obtain ⟨ga, oa, ca, hva, la, _, _, cca⟩ := rr.own.form (by omega)
            obtain ⟨c0, _⟩ := cells_at L q x hx
            have c0 := cca _ _ c0
            rw [hva] at hvv
            injection hvv with hvv1 _ hvv2
            subst hvv1 hvv2
            rw [hva] at cr
            have hq0 : (0 : Int) ≤ (q : Int) := by omega
            have hq1 : (q : Int) < (L.length : Int) := by omega
            have t1 : decide ((q : Int) < (L.length : Int)) = true := decide_eq_true hq1
            have t1' : decide (q < L.length) = true := decide_eq_true hlt
            have HST := Lib.hid (tms_step (a := a) hx)
            have htl := tms_len L a q
            obtain ⟨At, ct, rfl, hct, hmt⟩ := hO.shape
            obtain ⟨xa, xb⟩ := x
            simp only at c0 HST
            have FWR : Hid (Fresh wr wr) := Keep.refl _ _
            have hm1 : (tms L a q).length + 1 ≤ maxLen := one_le_maxLen (by omega)
            have hm2 : ((tms L a q).length + 1) * 8 ≤ 140737488355328 := by omega
            have HSR : Hid (∀ W : World, Src (W.alloc (.cells #[.int .i64 xa] 3)) 1 (.slice (some ⟨W.heap.size, 0, none⟩) 1 1) 1 (ints [xa])) := fun W => Src.one_new W 3 1 #[.int .i64 xa] rfl
            clear hO hF hN hx cca rr hva
            by_cases hax : a ≤ xa
            · have t2 : decide (a ≤ xa) = true := decide_eq_true hax
              have HST2 : Hid (tms L a (q + 1) = tms L a q ++ [xa]) := by have := HST.out; rw [if_pos hax] at this; exact this
              clear hax
              go_wp2_with (at_builtin; refine wpList_append_OwnS _ rfl _ _ 47 rfl 3 i0 (.int .i64 0) 1 8 Try.underlying47 hi hz0 hz1 hz2 rfl h01 (.slice At (tms L a q).length ct) (tms L a q).length (ints (tms L a q)) rfl (HO.out.fresh (Keep.alloc FWR.out _)) (.slice (some ⟨wr.heap.size, 0, none⟩) 1 1) 1 (ints [xa]) rfl (HSR.out wr) (ints_one _) hm1 hm2 ?_; intro v6 w6 o6 k6 n6; obtain ⟨A6, c6, rfl, _, _⟩ := o6.shape; have O6 := Lib.hid o6; have K6 := Lib.hid k6; have N6 := Lib.hid n6; clear o6 k6 n6)
              go_roundg (L.length - (q + 1))
              case measure => omega
              case rel =>
                have fz : Fresh wB (wr.alloc (.cells #[.int .i64 xa] 3)) := FR.out.alloc _
                have hsz := fz.size
                refine ⟨q + 1, by omega, rfl, by go_num, ?_, fz.step K6.out (fun i hi h => by have := HN.out i h; omega), fun k hk => ?_⟩
                · rw [HST2.out, List.length_append, ints_append]
                  exact O6.out
                · rcases N6.out k hk with h | h
                  · exact HN.out k h
                  · omega
            · have t2 : decide (a ≤ xa) = false := decide_eq_false hax
              have HST2 : Hid (tms L a (q + 1) = tms L a q) := by have := HST.out; rw [if_neg hax] at this; exact this
              clear hax
              go_wp2_with fail
              go_roundg (L.length - (q + 1))
              case measure => omega
              case rel => exact ⟨q + 1, by omega, rfl, by go_num, by rw [HST2.out]; exact HO.out, FR.out, HN.out⟩
          · obtain rfl : q = L.length := by omega
            have t1 : decide ((L.length : Int) < (L.length : Int)) = false := decide_eq_false (by omega)
            rw [hvv] at cr
            rw [tms_all HASC.out] at hO
            obtain ⟨n0, hn0⟩ : ∃ n0, lows L a = n0 := ⟨_, rfl⟩
            have hn0l : n0 ≤ L.length := hn0 ▸ List.countP_le_length
            have HB : Hid (Calls Try.prog 19 #[.pointer (some ⟨g, 0, none⟩), .int .i64 a] wr (PartP g gs off cap room (L.take n0) (vals (L.drop n0).reverse) wr)) := by
              have := back_any g gs off cap room L a wr (HS.out.fresh hF)
              rw [hn0] at this
              exact this
            rw [hn0] at hO
            have hlt2 : ((L.drop n0).map (·.1)).length = L.length - n0 := by simp
            rw [hlt2] at hO
            have HO2 := Lib.hid hO
            have HN2 := Lib.hid hN
            have FRX : Hid (Fresh wB wr) := hF
            obtain ⟨At, ct, rfl, hct, hmt⟩ := hO.shape
            have hmt : ct ≤ 9223372036854775807 := by unfold maxLen at hmt; omega
            clear hO hF hN HO rr hn0 hlt2
            go_wp2_with fail
            refine HB.out.mono ?_
            rintro e w7 ⟨v7, rfl, g7, h7, k7⟩
            have hap := (apart HS.out HI.out.rr)
            have hgl := HS.out.lt
            have hvl : (vals (L.drop n0).reverse).length = L.length - n0 := by simp [vals]
            have g71 := g7.1
            rw [hvl] at g71
            obtain ⟨A8, c8, rfl, hc8, hm8⟩ := g71.shape
            have hm8 : c8 ≤ 9223372036854775807 := by unfold maxLen at hm8; omega
            have HV8 := Lib.hid g71
            have HVN : Hid (∀ i, (Value.slice A8 (L.length - n0) c8).ownBlock = some i → wB.heap.size ≤ i) := fun i hi => Nat.le_trans FRX.out.size (g7.2 i hi)
            have HGL := Lib.hid hgl
            have HT8 : Hid (OwnS w7 3 1 (.slice At (L.length - n0) ct) (L.length - n0) (ints ((L.drop n0).map (·.1)))) := HO2.out.kept k7 (fun i hi h => by
              have := HN2.out i hi
              rcases h with rfl | rfl <;> omega)
            have H7 := Lib.hid h7
            have K7 : Hid (Keep (fun k => k = g ∨ k = gs) wB w7) := (FR.out.more (fun _ _ h => h.elim)).trans k7
            obtain ⟨N, hNN⟩ : ∃ N, L.length - n0 = N := ⟨_, rfl⟩
            have HNN := Lib.hid hNN
            rw [hNN] at HV8 HT8
            have hN60 : N ≤ 60 := by omega
            rw [hNN]
            have HAP := Lib.hid hap
            clear g7 g71 h7 k7 hap hgl hvl HB cr lr hNN
            go_wp2_with fail
            go_loopg [19] N (fun gk u W => ∃ q : Nat, q ≤ N ∧ gk = N - q ∧ u = .int .i64 q ∧ Held g gs off cap room (L.take (n0 + q)) W ∧ Keep (fun k => k = g ∨ k = gs) w7 W)
            case atStart => exact ⟨0, Nat.zero_le _, rfl, rfl, H7.out, Keep.refl _ _⟩
            case round =>
              obtain ⟨q, hq, rfl, rfl, hH, hK⟩ := hrel
              have HH := Lib.hid hH
              have HK9 := Lib.hid hK
              by_cases hlt : q < N
              · obtain ⟨x, hx⟩ : ∃ x, L[n0 + q]? = some x := ⟨_, List.getElem?_eq_getElem (by have := HNN.out; omega)⟩
                have hnx := push_next HASC.out (p := n0 + q) (room := room) hx hroom.2
                have hdx : (L.drop n0)[q]? = some x := by rw [List.getElem?_drop]; exact hx
                have hNN := HNN.out
                have hgl := HGL.out
                have hks : ∀ i, wB.heap.size ≤ i → ¬ (i = g ∨ i = gs) := fun i h1 h2 => by rcases h2 with rfl | rfl <;> omega
                have oT := HT8.out.kept hK (fun i hi => hks i (HN2.out i (by rw [hNN]; exact hi)))
                have oB := HV8.out.kept hK (fun i hi => hks i (HVN.out i (by rw [hNN]; exact hi)))
                obtain ⟨bt, ot, ct', et, lt1, _, _, cT⟩ := oT.form (by omega)
                obtain ⟨bb, ob, cb', eb, lb1, _, _, cB⟩ := oB.form (by omega)
                obtain ⟨j, hj⟩ : ∃ j, N - 1 - q = j := ⟨_, rfl⟩
                have dT := cT q (.int .i64 x.1) (by
                  unfold ints
                  rw [List.getElem?_map, List.getElem?_map, hdx]
                  rfl)
                have dB := cB j (.int .i64 x.2) (by
                  unfold ints vals
                  rw [List.getElem?_map, List.getElem?_map, List.getElem?_reverse (by simp; omega)]
                  have : (L.drop n0).length - 1 - j = q := by simp; omega
                  rw [this, hdx]
                  rfl)
                injection et with et1 _ et2
                injection eb with eb1 _ eb2
                have hPU : ∀ W, Fresh wr W → Calls Try.prog 24 #[.pointer (some ⟨g, 0, none⟩), .int .i64 x.1, .int .i64 x.2] W fun e w' => e = .returned (.int .i64 0) ∧ Held g gs off cap room (L.take (n0 + q + 1)) w' ∧ Keep (fun k => k = g ∨ k = gs) W w' := fun W f => by
                  have := push_any g gs off cap room (L.take (n0 + q)) x.1 x.2 W (hH.fresh f)
                  rw [hnx] at this
                  exact this
                have HPU := Lib.hid hPU
                have hq0 : (0 : Int) ≤ (q : Int) := by omega
                have hq1 : (q : Int) < (N : Int) := by omega
                have hj0 : (0 : Int) ≤ (j : Int) := by omega
                have hj1 : (j : Int) < (N : Int) := by omega
                have hji : (N : Int) - 1 - (q : Int) = (j : Int) := by omega
                have v1 : IntKind.i64.wrap ((N : Int) - 1) = (N : Int) - 1 := IntWalk.i64_in _ (by omega)
                have v2 : IntKind.i64.wrap ((N : Int) - 1 - (q : Int)) = (j : Int) := by rw [hji]; exact IntWalk.i64_in _ (by omega)
                have v3 : IntKind.i64.wrap (j : Int) = (j : Int) := IntWalk.i64_in _ (by omega)
                have t1 : decide ((q : Int) < (N : Int)) = true := decide_eq_true hq1
                have t1' : decide (q < N) = true := decide_eq_true hlt
                have HJ := Lib.hid hj
                clear hnx hdx hNN hgl hks oT oB cT cB hx hPU hH hK hj
                subst et1 eb1 et2 eb2
                obtain ⟨xa, xb⟩ := x
                simp only at dT dB HPU
                have fwd : Fresh wr wr.drew := (Keep.refl _ _).drew
                have FWD := Lib.hid fwd
                clear fwd
                go_wp2_with fail
                go_still_tail 13, (by kernel_rfl)
                change wpList _ _ _ _ _ wr.drew
                go_wp2_with fail
                refine (HPU.out _ FWD.out).mono ?_
                rintro e w9 ⟨rfl, h9, k9⟩
                have H9 := Lib.hid h9
                have K9 := Lib.hid k9
                clear h9 k9
                go_wp2_with fail
                go_roundg (N - (q + 1))
                case measure => omega
                case rel => exact ⟨q + 1, by omega, rfl, by go_num, by rw [← Nat.add_assoc]; exact H9.out, (HK9.out.step FWD.out (fun _ _ h => h.elim)).trans K9.out⟩
              · obtain rfl : q = N := by omega
                have t1 : decide ((q : Int) < (q : Int)) = false := decide_eq_false (by omega)
                have hfull : L.take (n0 + q) = L := by rw [← HNN.out]; exact List.take_of_length_le (by omega)
                rw [hfull] at hH
                have K10 : Keep (fun k => k = g ∨ k = gs) wB wr := K7.out.trans hK
                have RR10 : RRing wr gr v room L := HI.out.rr.kept K10 (fun i hi h => by
                  rcases h with rfl | rfl
                  · exact HAP.out.1 hi
                  · exact HAP.out.2 hi)
                have HSA := Lib.hid (same_any g gs off cap room gr v L wr hH RR10)
                have FRW : Hid (Fresh w wr) := HI.out.fr.step K10 (fun i hi h => by
                  have h1 := HI.out.ng
                  have h2 := HI.out.ns
                  rcases h with rfl | rfl <;> omega)
                clear hH hK K10 RR10 hfull
                go_wp2_with (first
                  | (go_at_call 17; (with_reducible refine HSA.out.mono ?_); rintro e w11 ⟨rfl, f11⟩)
                  | (go_at_call 10; refine (awake_any _).mono ?_; rintro e w12 ⟨rfl, f12⟩))
                go_ret
                exact ⟨rfl, Fresh.below_ ((FRW.out.step f11 (fun _ _ h => h)).step f12 (fun _ _ h => h)) (Nat.le_refl _)⟩
open Go.ChangeShapes Go.WideShapes Go.ChangeAt
set_option maxRecDepth 100000 in
theorem ringAgain_lifted (os : Os) (started : os.Started) (H : Type) (enc : TypeId × Value → H) :
    ReturnsInHanded {} Try.checked os 7 .any (Rows.ringAgainSpec.pre6 enc Try.prog Try.f7 Rows.ringAgainRow.domain false) (Rows.ringAgainSpec.post enc Try.prog Try.f7 false true false false) := by
  refine law_lifted (C := Try.checked) (tb := 4) (by kernel_rfl) (by kernel_rfl) started (by kernel_rfl) Try.func7 rfl ?_ rfl Try.underlying4 (by kernel_rfl)
    (ChangeSpec.witness6 (enc := enc) (C := Try.checked) false ⟨#[], #[.int .i64 0, .slice none 0 0, .int .i64 0], []⟩ 12 (by kernel_rfl) (by kernel_rfl) (by kernel_rfl) (by kernel_rfl)) ?_
  · intro ds hds
    match ds, hds with
    | [e0, e1, e2], _ => rfl
  · intro W base args ds p hval hA hreach
    rw [Try.params7] at hA hval hreach
    obtain ⟨v0, vs0, d0, ds0, p0, q0, hargs, rfl, rfl, h0, r0⟩ := trodAll_cons hA
    obtain ⟨v1, vs1, d1, ds1, p1, q1, rfl, rfl, rfl, h1, r1⟩ := trodAll_cons r0
    obtain ⟨v2, vs2, d2, ds2, p2, q2, rfl, rfl, rfl, h2, r2⟩ := trodAll_cons r1
    obtain ⟨rfl, rfl, rfl⟩ := trodAll_nil r2
    obtain rfl : args = #[v0, v1, v2] := by cases args; simp_all
    obtain ⟨room, rfl, w_room⟩ := arg_int Try.underlying3 (hval 0 3 v0 rfl rfl) h0
    obtain ⟨A_l, n_l, c_l, rows_l, rfl, len_l, cap_l, max_l, leaf_l, at_l⟩ := arg_slice (n := 6) Try.underlying22 (by kernel_rfl) (by kernel_rfl) (by rw [show Try.prog.cellsOf 36 = 3 by kernel_rfl]; decide) (hval 1 22 v1 rfl rfl) h1
    rw [show flat Try.prog 6 36 = [3, 3, 3] by kernel_rfl] at leaf_l
    rw [show Try.prog.cellsOf 36 = 3 by kernel_rfl] at at_l
    obtain ⟨a, rfl, w_a⟩ := arg_int Try.underlying3 (hval 2 3 v2 rfl rfl) h2
    obtain ⟨os, hos, hops⟩ := ops_arg leaf_l at_l
    have hn : os.length = n_l := hos.trans len_l
    subst hn
    have hm : os.length ≤ 9223372036854775807 := by unfold maxLen at max_l; omega
    have hw : -9223372036854775808 ≤ a ∧ a ≤ 9223372036854775807 := by
      have h := w_a
      simp [Lit.wf, IntKind.min, IntKind.max, IntKind.bits, IntKind.signed] at h
      omega
    by_cases hbad : room < 1 ∨ 40 < room ∨ 60 < os.length ∨ a = 9223372036854775807
    · exact again_arg room a A_l os.length c_l W hbad hm
    · obtain ⟨k, rfl⟩ := Int.eq_ofNat_of_zero_le (show 0 ≤ room by omega)
      exact again_ok k a A_l c_l os W hops (by omega) (by omega) (by omega) (by omega) hw

theorem ringAgain_holds : Rows.RingAgainSaid :=
  OpenClaim.holds_of_wide 7 Try.f7 rfl rfl rfl rfl rfl rfl rfl ⟨rfl, rfl, rfl, rfl, rfl⟩ rfl rfl rfl rfl rfl (by kernel_rfl) Try.func7 (by kernel_rfl)
    (of_decide_eq_true (by kernel_rfl)) (by unfold Func.isWrapper; first | (rw [if_pos (by decide +kernel)]; kernel_rfl) | (rw [if_neg (by decide +kernel)]; exact ⟨rfl, rfl⟩))
    (fun os started H enc _ => ringAgain_lifted os started H enc)
end Go.Proofs.Ytfckbgifmajbjaa
