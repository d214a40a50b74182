/- RingBounds returns true at every input: Upto is between First and Last, does not fall as time rises, and is Last from the last time on. No conditions. -/
import Derived.Test.YtfckbgifmajbjaaOpsP
namespace Go.Proofs.Ytfckbgifmajbjaa
open Go.RowKit
attribute [local go_sem ↓] Go.wp_at_zero Go.wp_at_succ run_min run_max

set_option maxRecDepth 100000 in
theorem bounds_arg (room a b : Int) (A : Option Addr) (n c : Nat) (w : World) (h : room < 1 ∨ 40 < room ∨ 60 < n) (hn : n ≤ 9223372036854775807) :
    Law Try.prog 3 #[.int .i64 room, .slice A n c, .agg #[.int .i64 a, .int .i64 b]] w := by
  unfold Law
  have hq : decide (room < 1) = true ∨ (decide (room < 1) = false ∧ decide (40 < room) = true) ∨ (decide (room < 1) = false ∧ decide (40 < room) = false ∧ decide (n ≤ 60) = false) := by
    by_cases h1 : room < 1 <;> by_cases h2 : 40 < room <;> simp [h1, h2] <;> omega
  have f0 : Fresh w (w.alloc (.cells #[.int .i64 a, .int .i64 b] 23)) := (Keep.refl _ _).alloc _
  clear h
  rcases hq with q1 | ⟨q1, q2⟩ | ⟨q1, q2, q5⟩
  all_goals
    go_enter Try.func3, Try.ntmps3
    go_wp2_with (first | (go_at_call 9; refine (few_any A n c _).mono ?_; rintro e w1 ⟨rfl, rfl⟩; rw [q5]) | (go_at_call 10; refine (awake_any _).mono ?_; rintro e w2 ⟨rfl, h3⟩))
    go_ret
    exact ⟨rfl, Fresh.below_ (f0.step h3 (fun _ _ h => h)) (Nat.le_refl _)⟩

set_option maxHeartbeats 4000000 in
set_option maxRecDepth 100000 in
theorem bounds_ok (room : Nat) (a b : Int) (A : Option Addr) (c : Nat) (os : List ROp) (w : World) (h : Ops w A os) (hr1 : 1 ≤ room) (hr2 : room ≤ 40) (hn : os.length ≤ 60) :
    Law Try.prog 3 #[.int .i64 room, .slice A os.length c, .agg #[.int .i64 a, .int .i64 b]] w := by
  unfold Law
  have H := Lib.hid h
  have q1 : decide ((room : Int) < 1) = false := decide_eq_false (by omega)
  have q1' : decide (room < 1) = false := decide_eq_false (by omega)
  have q2 : decide (40 < (room : Int)) = false := decide_eq_false (by omega)
  have q2' : decide (40 < room) = false := decide_eq_false (by omega)
  have q5 : decide (os.length ≤ 60) = true := decide_eq_true hn
  have F0 : Hid (Fresh w (w.alloc (.cells #[.int .i64 a, .int .i64 b] 23))) := (Keep.refl _ _).alloc _
  have BO := Lib.hid (Blk.new w 23 #[.int .i64 a, .int .i64 b])
  clear h
  go_enter Try.func3, Try.ntmps3
  go_wp2_with (go_at_call 9; refine (few_any A os.length c _).mono ?_; rintro e w1 ⟨rfl, rfl⟩; rw [q5])
  refine (new_any room hr1 (by omega) _).mono ?_
  rintro e w2 ⟨g, gs, off, cap, rfl, a2, f2, n1, n2⟩
  have START := Lib.hid (RInv.start a2 f2 n1 n2)
  clear a2 f2 n1 n2
  go_wp2_with fail
  obtain ⟨gr, hgr⟩ : ∃ gr, w2.heap.size = gr := ⟨_, rfl⟩
  rw [hgr] at START ⊢
  go_loopg [10] os.length (fun gk u wr => ∃ (q : Nat) (v : Value) (L : List (Int × Int)), q ≤ os.length ∧ gk = os.length - q ∧ u = .int .i64 q ∧ RInv (w.alloc (.cells #[.int .i64 a, .int .i64 b] 23)) q g gs off cap gr v room L wr)
  case atStart => exact ⟨0, _, _, by omega, rfl, rfl, START.out⟩
  case round =>
    clear START hgr
    obtain ⟨q, v, L, hq, rfl, rfl, hI⟩ := hrel
    have HI := Lib.hid hI
    clear hI
    by_cases hlt : q < os.length
    · obtain ⟨o, ho⟩ : ∃ o, os[q]? = some o := ⟨_, List.getElem?_eq_getElem hlt⟩
      obtain ⟨b0, o0, rfl, lt0, hO⟩ := ((H.out.fresh F0.out).fresh HI.out.fr) q o ho
      have HD := Lib.hid (does_any g gs off cap gr room v L o wr HI.out.hd HI.out.rr)
      have HN : Hid (∀ w', DPost g gs off cap gr v room (doesL L room o) wr w' → ∃ v' L', RInv (w.alloc (.cells #[.int .i64 a, .int .i64 b] 23)) (q + 1) g gs off cap gr v' room L' w') := fun w' p => HI.out.does p
      obtain ⟨L', hL'⟩ : ∃ L', doesL L room o = L' := ⟨_, rfl⟩
      rw [hL'] at HD HN
      have c0 := hO 0 (.int .i64 o.ask) rfl
      have c1 := hO 1 (.int .i64 o.t) rfl
      have c2 := hO 2 (.int .i64 o.x) rfl
      obtain ⟨ask, t, x⟩ := o
      simp only [ROp.arr] at c0 c1 c2 HD
      rw [Nat.add_zero] at c0
      clear hL' hO ho
      go_wp2_with fail
      refine HD.out.mono ?_
      rintro e w3 ⟨rfl, p3⟩
      obtain ⟨v', L2, hI3⟩ := HN.out _ p3
      have H3 := Lib.hid hI3
      clear p3 hI3
      go_wp2_with fail
      go_roundg (os.length - (q + 1))
      case measure => omega
      case rel => exact ⟨q + 1, _, _, by omega, rfl, by go_num, H3.out⟩
    · obtain rfl : q = os.length := by omega
      have HS := Lib.hid HI.out.hd
      have HF := Lib.hid HI.out.fr
      have hasc := HI.out.hd.asc
      have b1 := (HI.out.fr.blk_ BO.out).cell
      have HFi := Lib.hid (first_held HS.out)
      have HLa : Hid (∀ W, Fresh wr W → Calls Try.prog 14 #[.pointer (some ⟨g, 0, none⟩)] W fun e w' => e = .returned (told L[L.length - 1]?) ∧ Fresh W w') := fun W f => last_held (HS.out.fresh f)
      have HLe : Hid (∀ W, Fresh wr W → Calls Try.prog 15 #[.pointer (some ⟨g, 0, none⟩)] W fun e w' => e = .returned (.int .i64 L.length) ∧ W = w') := fun W f => len_held (HS.out.fresh f)
      have HU1 : Hid (∀ W, Fresh wr W → Calls Try.prog 16 #[.pointer (some ⟨g, 0, none⟩), .int .i64 (min a b)] W fun e w' => e = .returned (told (uptoL L (min a b))) ∧ Fresh W w') := fun W f => upto_held (HS.out.fresh f) _
      have HU2 : Hid (∀ W, Fresh wr W → Calls Try.prog 16 #[.pointer (some ⟨g, 0, none⟩), .int .i64 (max a b)] W fun e w' => e = .returned (told (uptoL L (max a b))) ∧ Fresh W w') := fun W f => upto_held (HS.out.fresh f) _
      have BB : Hid (∀ W, Fresh wr W → ∀ i, W.cell? ⟨w.heap.size, i, none⟩ = #[.int .i64 a, .int .i64 b][i]?) := fun W f => (Fresh.blk_ (HI.out.fr.step f (fun _ _ h => h)) BO.out).cell
      have BL : Hid (∀ W, Fresh wr W → w.heap.size < W.heap.size) := fun W f => (Fresh.blk_ (HI.out.fr.step f (fun _ _ h => h)) BO.out).lt
      have hel : min a b ≤ max a b := by omega
      have END : Hid (∀ W W', Fresh wr W → Fresh W W' → Below w.heap.size w W') := fun W W' f1 f2 => Fresh.below_ (((F0.out.step HF.out (fun _ _ h => h)).step f1 (fun _ _ h => h)).step f2 (fun _ _ h => h)) (Nat.le_refl _)
      have hcase : (L = [] ∧ L[0]? = none ∧ L[L.length - 1]? = none ∧ uptoL L (min a b) = none ∧ uptoL L (max a b) = none) ∨ ∃ x y, 0 < L.length ∧ L[0]? = some x ∧ L[L.length - 1]? = some y := by
        rcases Nat.eq_zero_or_pos L.length with hz | hp
        · obtain rfl := List.length_eq_zero_iff.1 hz
          exact .inl ⟨rfl, rfl, rfl, rfl, rfl⟩
        · exact .inr ⟨_, _, hp, List.getElem?_eq_getElem (by omega), List.getElem?_eq_getElem (by omega)⟩
      rcases hcase with ⟨rfl, e1, e2, e3, e4⟩ | ⟨x, y, hp, hx, hy⟩
      · rw [e1] at HFi
        rw [e2] at HLa
        rw [e3] at HU1
        rw [e4] at HU2
        unfold told at HFi HLa HU1 HU2
        simp only at HFi HLa HU1 HU2
        simp only [List.length_nil] at HLe
        clear e1 e2 e3 e4 hel hasc
        go_wp2_with fail
        refine HFi.out.mono ?_
        rintro e w3 ⟨rfl, f3⟩
        have F3 := Lib.hid f3
        clear f3
        go_wp2_with fail
        with_reducible refine (HLa.out _ F3.out).mono ?_
        rintro e w4 ⟨rfl, f4⟩
        have F4 := Lib.hid (F3.out.step f4 (fun _ _ h => h))
        have b4 := BB.out _ F4.out
        have l4 := BL.out _ F4.out
        clear f4
        go_wp2_with (go_at_call 15; (with_reducible refine (HLe.out _ F4.out).mono ?_); rintro e w5 ⟨rfl, rfl⟩)
        with_reducible refine (HU1.out _ F4.out).mono ?_
        rintro e w6 ⟨rfl, f6⟩
        have F6 := Lib.hid (F4.out.step f6 (fun _ _ h => h))
        clear f6
        go_wp2_with fail
        with_reducible refine (HU2.out _ F6.out).mono ?_
        rintro e w7 ⟨rfl, f7⟩
        have F7 := Lib.hid (F6.out.step f7 (fun _ _ h => h))
        clear f7
        go_wp2_with (go_at_call 10; refine (awake_any _).mono ?_; rintro e w8 ⟨rfl, f8⟩)
        go_ret
        exact ⟨rfl, END.out _ _ F7.out f8⟩
      · have hp' : decide (0 < L.length) = true := decide_eq_true hp
        have hp2 : decide ((0 : Int) < (L.length : Int)) = true := decide_eq_true (by omega)
        have hxy := hasc.le hx hy (by omega)
        have u1 := upto_of hasc hx hy (min a b)
        have u2 := upto_of hasc hx hy (max a b)
        have hum := ups_mono L hel
        rw [hx] at HFi
        rw [hy] at HLa
        unfold told at HFi HLa
        obtain ⟨xa, xb⟩ := x
        obtain ⟨ya, yb⟩ := y
        simp only at HFi HLa hxy u1 u2
        have t1 : decide (ya < xa) = false := decide_eq_false (by omega)
        have hmid : (uptoL L (min a b) = none ∧ uptoL L (max a b) = none ∧ decide (xa ≤ min a b) = false ∧ decide (xa ≤ max a b) = false ∧ decide (max a b < ya) = true) ∨
            (∃ u : Int × Int, uptoL L (min a b) = none ∧ uptoL L (max a b) = some u ∧ decide (xa ≤ min a b) = false ∧ decide (xa ≤ max a b) = true ∧ decide (min ya (max a b) < u.1) = false ∧ (decide (max a b < ya) = true ∨ (decide (max a b < ya) = false ∧ u = (ya, yb)))) ∨
            (∃ s u : Int × Int, uptoL L (min a b) = some s ∧ uptoL L (max a b) = some u ∧ decide (xa ≤ min a b) = true ∧ decide (xa ≤ max a b) = true ∧ decide (s.1 < xa) = false ∧ decide (min a b < s.1) = false ∧ decide (u.1 < s.1) = false ∧ decide (min ya (max a b) < u.1) = false ∧ (decide (max a b < ya) = true ∨ (decide (max a b < ya) = false ∧ u = (ya, yb)))) := by
          have hlast : ∀ u : Int × Int, (ya ≤ max a b → u = (ya, yb)) → (decide (max a b < ya) = true ∨ (decide (max a b < ya) = false ∧ u = (ya, yb))) := fun u hu => by
            by_cases hl : max a b < ya
            · exact .inl (decide_eq_true hl)
            · exact .inr ⟨decide_eq_false hl, hu (by omega)⟩
          rcases u1 with ⟨v1, v2⟩ | ⟨v1, s, v2, v3, v4, v5, v6, v7, v8⟩
          · rcases u2 with ⟨z1, z2⟩ | ⟨z1, u, z2, z3, z4, z5, z6, z7, z8⟩
            · exact .inl ⟨v2, z2, decide_eq_false (by omega), decide_eq_false (by omega), decide_eq_true (by omega)⟩
            · exact .inr (.inl ⟨u, v2, z2, decide_eq_false (by omega), decide_eq_true z1, decide_eq_false (by omega), hlast u z8⟩)
          · rcases u2 with ⟨z1, z2⟩ | ⟨z1, u, z2, z3, z4, z5, z6, z7, z8⟩
            · omega
            · have hsu := hasc.le v3 z3 (by omega)
              exact .inr (.inr ⟨s, u, v2, z2, decide_eq_true v1, decide_eq_true z1, decide_eq_false (by omega), decide_eq_false (by omega), decide_eq_false (by omega), decide_eq_false (by omega), hlast u z8⟩)
        clear hxy u1 u2 hum hx hy hasc hel
        go_wp2_with fail
        refine HFi.out.mono ?_
        rintro e w3 ⟨rfl, f3⟩
        have F3 := Lib.hid f3
        clear f3
        go_wp2_with fail
        with_reducible refine (HLa.out _ F3.out).mono ?_
        rintro e w4 ⟨rfl, f4⟩
        have F4 := Lib.hid (F3.out.step f4 (fun _ _ h => h))
        have b4 := BB.out _ F4.out
        have l4 := BL.out _ F4.out
        clear f4
        go_wp2_with (go_at_call 15; (with_reducible refine (HLe.out _ F4.out).mono ?_); rintro e w5 ⟨rfl, rfl⟩)
        obtain ⟨E, hE⟩ : ∃ E, min a b = E := ⟨_, rfl⟩
        obtain ⟨T, hT⟩ : ∃ T, max a b = T := ⟨_, rfl⟩
        rw [hE] at HU1 hmid ⊢
        rw [hT] at HU2 hmid ⊢
        clear hE hT
        rcases hmid with ⟨e1, e2, g1, g2, g3⟩ | ⟨⟨ta, tb⟩, e1, e2, g1, g2, g3, g4⟩ | ⟨⟨sa, sb⟩, ⟨ta, tb⟩, e1, e2, g1, g2, g3, g4, g5, g6, g7⟩
        · rw [e1] at HU1
          rw [e2] at HU2
          unfold told at HU1 HU2
          simp only at HU1 HU2
          clear e1 e2
          with_reducible refine (HU1.out _ F4.out).mono ?_
          rintro e w6 ⟨rfl, f6⟩
          have F6 := Lib.hid (F4.out.step f6 (fun _ _ h => h))
          clear f6
          go_wp2_with fail
          with_reducible refine (HU2.out _ F6.out).mono ?_
          rintro e w7 ⟨rfl, f7⟩
          have F7 := Lib.hid (F6.out.step f7 (fun _ _ h => h))
          clear f7
          go_wp2_with (go_at_call 10; refine (awake_any _).mono ?_; rintro e w8 ⟨rfl, f8⟩)
          go_ret
          exact ⟨rfl, END.out _ _ F7.out f8⟩
        · rw [e1] at HU1
          rw [e2] at HU2
          unfold told at HU1 HU2
          simp only at HU1 HU2 g3
          clear e1 e2
          with_reducible refine (HU1.out _ F4.out).mono ?_
          rintro e w6 ⟨rfl, f6⟩
          have F6 := Lib.hid (F4.out.step f6 (fun _ _ h => h))
          clear f6
          go_wp2_with fail
          with_reducible refine (HU2.out _ F6.out).mono ?_
          rintro e w7 ⟨rfl, f7⟩
          have F7 := Lib.hid (F6.out.step f7 (fun _ _ h => h))
          clear f7
          rcases g4 with g4 | ⟨g4, g5⟩
          · go_wp2_with (go_at_call 10; refine (awake_any _).mono ?_; rintro e w8 ⟨rfl, f8⟩)
            go_ret
            exact ⟨rfl, END.out _ _ F7.out f8⟩
          · injection g5 with g5 g6
            subst g5 g6
            go_wp2_with (go_at_call 10; refine (awake_any _).mono ?_; rintro e w8 ⟨rfl, f8⟩)
            go_ret
            exact ⟨rfl, END.out _ _ F7.out f8⟩
        · rw [e1] at HU1
          rw [e2] at HU2
          unfold told at HU1 HU2
          simp only at HU1 HU2 g3 g4 g5 g6
          clear e1 e2
          with_reducible refine (HU1.out _ F4.out).mono ?_
          rintro e w6 ⟨rfl, f6⟩
          have F6 := Lib.hid (F4.out.step f6 (fun _ _ h => h))
          clear f6
          go_wp2_with fail
          with_reducible refine (HU2.out _ F6.out).mono ?_
          rintro e w7 ⟨rfl, f7⟩
          have F7 := Lib.hid (F6.out.step f7 (fun _ _ h => h))
          clear f7
          rcases g7 with g7 | ⟨g7, g8⟩
          · go_wp2_with (go_at_call 10; refine (awake_any _).mono ?_; rintro e w8 ⟨rfl, f8⟩)
            go_ret
            exact ⟨rfl, END.out _ _ F7.out f8⟩
          · injection g8 with g8 g9
            subst g8 g9
            go_wp2_with (go_at_call 10; refine (awake_any _).mono ?_; rintro e w8 ⟨rfl, f8⟩)
            go_ret
            exact ⟨rfl, END.out _ _ F7.out f8⟩
open Go.ChangeShapes Go.WideShapes Go.ChangeAt
set_option maxRecDepth 100000 in
theorem ringBounds_lifted (os : Os) (started : os.Started) (H : Type) (enc : TypeId × Value → H) :
    ReturnsInHanded {} Try.checked os 3 .any (Rows.ringBoundsSpec.pre6 enc Try.prog Try.f3 Rows.ringBoundsRow.domain false) (Rows.ringBoundsSpec.post enc Try.prog Try.f3 false true false false) := by
  refine law_lifted (C := Try.checked) (tb := 4) (by kernel_rfl) (by kernel_rfl) started (by kernel_rfl) Try.func3 rfl ?_ rfl Try.underlying4 (by kernel_rfl)
    (ChangeSpec.witness6 (enc := enc) (C := Try.checked) false ⟨#[], #[.int .i64 0, .slice none 0 0, .agg #[.int .i64 0, .int .i64 0]], []⟩ 12 (by kernel_rfl) (by kernel_rfl) (by kernel_rfl) (by kernel_rfl)) ?_
  · intro ds hds
    match ds, hds with
    | [e0, e1, e2], _ => rfl
  · intro W base args ds p hval hA hreach
    rw [Try.params3] at hA hval hreach
    obtain ⟨v0, vs0, d0, ds0, p0, q0, hargs, rfl, rfl, h0, r0⟩ := trodAll_cons hA
    obtain ⟨v1, vs1, d1, ds1, p1, q1, rfl, rfl, rfl, h1, r1⟩ := trodAll_cons r0
    obtain ⟨v2, vs2, d2, ds2, p2, q2, rfl, rfl, rfl, h2, r2⟩ := trodAll_cons r1
    obtain ⟨rfl, rfl, rfl⟩ := trodAll_nil r2
    obtain rfl : args = #[v0, v1, v2] := by cases args; simp_all
    obtain ⟨room, rfl, w_room⟩ := arg_int Try.underlying3 (hval 0 3 v0 rfl rfl) h0
    obtain ⟨A_l, n_l, c_l, rows_l, rfl, len_l, cap_l, max_l, leaf_l, at_l⟩ := arg_slice (n := 6) Try.underlying22 (by kernel_rfl) (by kernel_rfl) (by rw [show Try.prog.cellsOf 36 = 3 by kernel_rfl]; decide) (hval 1 22 v1 rfl rfl) h1
    rw [show flat Try.prog 6 36 = [3, 3, 3] by kernel_rfl] at leaf_l
    rw [show Try.prog.cellsOf 36 = 3 by kernel_rfl] at at_l
    obtain ⟨l0, rfl, hl0⟩ := arg_array (n := 6) Try.underlying23 (by kernel_rfl) (hval 2 23 v2 rfl rfl) h2
    have hfl : flat Try.prog 6 23 = [3, 3] := by kernel_rfl
    rw [hfl] at hl0; clear hfl
    obtain ⟨a, l1, e1, w_a, hl1⟩ := all2_int Try.underlying3 hl0
    obtain ⟨b, l2, e2, w_b, hl2⟩ := all2_int Try.underlying3 hl1
    obtain rfl := all2_nil hl2
    subst e2 e1
    clear hl2 hl1 hl0
    obtain ⟨os, hos, hops⟩ := ops_arg leaf_l at_l
    have hn : os.length = n_l := hos.trans len_l
    subst hn
    have hm : os.length ≤ 9223372036854775807 := by unfold maxLen at max_l; omega
    by_cases hbad : room < 1 ∨ 40 < room ∨ 60 < os.length
    · exact bounds_arg room a b A_l os.length c_l W hbad hm
    · obtain ⟨k, rfl⟩ := Int.eq_ofNat_of_zero_le (show 0 ≤ room by omega)
      exact bounds_ok k a b A_l c_l os W hops (by omega) (by omega) (by omega)

theorem ringBounds_holds : Rows.RingBoundsSaid :=
  OpenClaim.holds_of_wide 3 Try.f3 rfl rfl rfl rfl rfl rfl rfl ⟨rfl, rfl, rfl, rfl, rfl⟩ rfl rfl rfl rfl rfl (by kernel_rfl) Try.func3 (by kernel_rfl)
    (of_decide_eq_true (by kernel_rfl)) (by unfold Func.isWrapper; first | (rw [if_pos (by decide +kernel)]; kernel_rfl) | (rw [if_neg (by decide +kernel)]; exact ⟨rfl, rfl⟩))
    (fun os started H enc _ => ringBounds_lifted os started H enc)
end Go.Proofs.Ytfckbgifmajbjaa
