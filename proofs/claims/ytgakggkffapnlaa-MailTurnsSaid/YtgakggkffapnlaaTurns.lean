/- MailTurns returns true at every input: what is taken first does not count, and a copy goes its own way. No conditions. -/
import Derived.Test.YtgakggkffapnlaaTurnsP
namespace Go.Proofs.Ytgakggkffapnlaa
open Go.RowKit R_int
attribute [local go_sem ↓] Go.wp_at_zero Go.wp_at_succ
attribute [local go_sem] run_neq_pk

theorem turns_no (A : Option Addr) (c : Nat) (a b : Int) (os : List GOp) (w : World) (h : Ops w A os) (hn : os.length ≤ 9223372036854775807) (hf : fewB os = false) : Law Try.prog 5 #[.slice A os.length c, .int .i64 a, .int .i64 b] w := by
  unfold Law
  have HFE : Hid (∀ W, Fresh w W → Calls Try.prog 8 #[.slice A os.length c] W fun e w' => e = .returned (.bool false) ∧ Fresh W w') := fun W f => by
    have := few_any A c os W (h.fresh f) hn
    rw [hf] at this
    exact this
  clear h hf
  go_enter Try.func5, Try.ntmps5
  go_wp2_with fail
  refine (new_ok 4 _ (by decide) (by decide)).mono ?_
  rintro e w1 ⟨rfl, a1, f1⟩
  have F1 := Lib.hid f1
  clear a1 f1
  go_wp2_with (first
    | (go_at_call 8; refine (HFE.out _ F1.out).mono ?_; rintro e w2 ⟨rfl, f2⟩; have F2 := Lib.hid (F1.out.step f2 (fun _ _ h => h)); clear f2)
    | (go_at_call 9; refine (awake_any _).mono ?_; rintro e w3 ⟨rfl, f3⟩))
  go_ret
  exact ⟨rfl, Fresh.below_ (F2.out.step f3 (fun _ _ h => h)) (Nat.le_refl _)⟩
set_option maxRecDepth 100000 in
set_option maxHeartbeats 8000000 in
theorem turns_ok (A : Option Addr) (c : Nat) (a b : Int) (os : List GOp) (w : World) (h : Ops w A os) (hn : os.length ≤ 9223372036854775807) (hf : fewB os = true) : Law Try.prog 5 #[.slice A os.length c, .int .i64 a, .int .i64 b] w := by
  unfold Law
  have HFE : Hid (∀ W, Fresh w W → Calls Try.prog 8 #[.slice A os.length c] W fun e w' => e = .returned (.bool true) ∧ Fresh W w') := fun W f => by
    have := few_any A c os W (h.fresh f) hn
    rw [hf] at this
    exact this
  obtain ⟨h20, h40⟩ := few_len hf
  have H20 := Lib.hid h20
  have H := Lib.hid h
  clear h hf h20
  go_enter Try.func5, Try.ntmps5
  go_wp2_with fail
  refine (new_ok 4 _ (by decide) (by decide)).mono ?_
  rintro e w1 ⟨rfl, a1, f1⟩
  have F1 := Lib.hid f1
  have A1 := Lib.hid a1
  clear a1 f1
  go_wp2_with (go_at_call 8; refine (HFE.out _ F1.out).mono ?_; rintro e w2 ⟨rfl, f2⟩; have F2 := Lib.hid f2; clear f2)
  have START := Lib.hid (PI.start A1.out F1.out F2.out)
  obtain ⟨gr, hgr⟩ : ∃ gr, w2.heap.size = gr := ⟨_, rfl⟩
  obtain ⟨g, hg⟩ : ∃ g, w.heap.size = g := ⟨_, rfl⟩
  rw [hgr] at START ⊢
  rw [hg] at START ⊢
  have HG := Lib.hid hg
  clear hg hgr A1 F1 F2 HFE
  go_loopg [10] os.length (fun gk u wr => ∃ (q : Nat) (v vr : Value) (s : Int × List Pk), q ≤ os.length ∧ gk = os.length - q ∧ u = .int .i64 q ∧ PI w q 4 g gr v vr s wr)
  case atStart => exact ⟨0, _, _, _, by omega, rfl, rfl, START.out⟩
  case round =>
    clear START
    obtain ⟨q, v, vr, s, hq, rfl, rfl, hI⟩ := hrel
    have HI := Lib.hid hI
    clear hI
    by_cases hlt : q < os.length
    · obtain ⟨o, ho⟩ : ∃ o, os[q]? = some o := ⟨_, List.getElem?_eq_getElem hlt⟩
      have hom := List.mem_of_getElem? ho
      obtain ⟨b0, off, rfl, lt0, hO⟩ := (H.out.fresh HI.out.fr).at_ q o ho
      have HD := Lib.hid (HI.out.call (by omega) H.out hom (H20.out o hom))
      have c0 := hO.1 0 (.int .i64 o.ask) rfl
      have c1 := hO.1 1 (.int .i64 o.a) rfl
      have c2 := hO.1 2 (.int .i64 o.b) rfl
      have c3 := hO.1 3 (.slice o.A o.l.length o.cap) rfl
      obtain ⟨s', hs'⟩ : ∃ s', stepN 4 s o = s' := ⟨_, rfl⟩
      rw [hs'] at HD
      obtain ⟨ask, a, bb, A', cap, l⟩ := o
      simp only [GOp.arr] at c0 c1 c2 c3 HD
      rw [Nat.add_zero] at c0
      clear hs' hO hom ho
      go_wp2_with fail
      refine HD.out.mono ?_
      rintro e w3 ⟨rfl, v', vr', hI3⟩
      have H3 := Lib.hid hI3
      clear hI3 c0 c1 c2 c3
      go_wp2_with fail
      go_roundg (os.length - (q + 1))
      case measure => omega
      case rel => exact ⟨q + 1, _, _, _, by omega, rfl, by go_num, H3.out⟩
    · obtain rfl : q = os.length := by omega
      obtain ⟨nx, l⟩ := s
      have hfew := HI.out.few
      simp only at hfew
      have hl : l.length ≤ 10000 := by omega
      go_wp2_with fail
      refine (copy_any g v 4 nx l _ HI.out.sn (by omega)).mono ?_
      rintro e w1 ⟨gc, vc, rfl, sc, f1, n1⟩
      have SC := Lib.hid sc
      have F1 := Lib.hid f1
      have N1 := Lib.hid n1
      clear sc f1 n1
      go_wp2_with fail
      refine (copy_any g v 4 nx l _ (HI.out.sn.fresh F1.out) (by omega)).mono ?_
      rintro e w2 ⟨gd, vd, rfl, sd, f2, n2⟩
      have T2 : Hid (Two wr 4 nx gc vc l gd vd l [] w2) := ⟨SC.out.fresh f2, sd, fun k a b => by have := SC.out.lt k a; have := n2 k b; omega, F1.out.step f2 (fun _ _ h => h), N1.out, fun k hk => by have := n2 k hk; have := F1.out.size; omega, by simp⟩
      clear sd f2 n2
      have R2 := Lib.hid (HI.out.rn.fresh T2.out.fr)
      go_wp2_with fail
      refine (same_any 4 nx gc gr vc vr l w2 T2.out.sc R2.out hl (by decide) (by decide)).mono ?_
      rintro e w3 ⟨rfl, f3⟩
      have T3 := Lib.hid (T2.out.fresh f3)
      clear f3
      go_wp2_with fail
      refine (take_norm gc vc 4 nx a l w3 T3.out.sc HI.out.good hl).mono ?_
      rintro e w4 ⟨p1, p2, p3, p4, p5, rfl, o4, vc1, s4, k4, l4⟩
      have OP := Lib.hid o4
      have T4 := Lib.hid ((T3.out.took s4 k4 l4).alloc #[.int .i64 p1, .int .i64 p2, .int .i64 p3, .int .i64 p4])
      clear o4 s4 k4 l4
      have hla : (rm l a).length ≤ l.length := List.length_filter_le _ _
      have hlb : (rm l b).length ≤ l.length := List.length_filter_le _ _
      go_wp2_with fail
      refine (take_norm gc vc1 4 nx b (rm l a) _ T4.out.sc (HI.out.good.rm a) (by omega)).mono ?_
      rintro e w5 ⟨q1, q2, q3, q4, q5, rfl, o5, vc2, s5, k5, l5⟩
      have OQ := Lib.hid o5
      have T5 := Lib.hid ((T4.out.took s5 k5 l5).alloc #[.int .i64 q1, .int .i64 q2, .int .i64 q3, .int .i64 q4])
      clear o5 s5 k5 l5
      go_wp2_with fail
      refine (take_norm gd vd 4 nx b l _ T5.out.sd HI.out.good hl).mono ?_
      rintro e w6 ⟨x1, x2, x3, x4, x5, rfl, o6, vd1, s6, k6, l6⟩
      have OX := Lib.hid o6
      have T6 := Lib.hid ((T5.out.swap.took s6 k6 l6).swap.alloc #[.int .i64 x1, .int .i64 x2, .int .i64 x3, .int .i64 x4])
      clear o6 s6 k6 l6
      go_wp2_with fail
      refine (take_norm gd vd1 4 nx a (rm l b) _ T6.out.sd (HI.out.good.rm b) (by omega)).mono ?_
      rintro e w7 ⟨y1, y2, y3, y4, y5, rfl, o7, vd2, s7, k7, l7⟩
      have OY := Lib.hid o7
      have T7 := Lib.hid ((T6.out.swap.took s7 k7 l7).swap.alloc #[.int .i64 y1, .int .i64 y2, .int .i64 y3, .int .i64 y4])
      clear o7 s7 k7 l7
      have LC := Lib.hid (len_any gc vc2 4 nx (rm (rm l a) b) _ T7.out.sc)
      have LD := Lib.hid (len_any gd vd2 4 nx (rm (rm l b) a) _ T7.out.sd)
      have hll := rm_len l a b
      obtain ⟨L, hL⟩ : ∃ L, (rm (rm l a) b).length = L := ⟨_, rfl⟩
      rw [← hll, hL] at LD
      rw [hL] at LC
      have HSM := Lib.hid (same_any 4 nx g gr v vr l _ (HI.out.sn.fresh T7.out.fr) (HI.out.rn.fresh T7.out.fr) hl (by decide) (by decide))
      have by_ := (T7.out.box (w7.heap.size, #[.int .i64 y1, .int .i64 y2, .int .i64 y3, .int .i64 y4]) (by simp)).1
      have bx_ := (T7.out.box (w6.heap.size, #[.int .i64 x1, .int .i64 x2, .int .i64 x3, .int .i64 x4]) (by simp)).1
      have bq_ := (T7.out.box (w5.heap.size, #[.int .i64 q1, .int .i64 q2, .int .i64 q3, .int .i64 q4]) (by simp)).1
      have bp_ := (T7.out.box (w4.heap.size, #[.int .i64 p1, .int .i64 p2, .int .i64 p3, .int .i64 p4]) (by simp)).1
      have HT := Lib.hid T7.out.fr
      clear hll hL
      by_cases hab : a = b
      · have t1 : (a != b) = false := by simp [hab]
        clear hab
        have c1 := by_.cell
        have c2 := bx_.cell
        have c3 := bq_.cell
        have c4 := bp_.cell
        clear by_ bx_ bq_ bp_
        go_wp2_with (first
          | (go_at_call 13; first | ((with_reducible refine LC.out.mono ?_); rintro e w8 ⟨rfl, rfl⟩; clear LC) | ((with_reducible refine LD.out.mono ?_); rintro e w9 ⟨rfl, rfl⟩)))
        refine HSM.out.mono ?_
        rintro e w10 ⟨rfl, f10⟩
        have F10 := Lib.hid ((HI.out.fr.step HT.out (fun _ _ h => h)).step f10 (fun _ _ h => h))
        clear f10
        go_wp2_with fail
        refine (awake_any _).mono ?_
        rintro e w11 ⟨rfl, f11⟩
        have F11 := Lib.hid (F10.out.step f11 (fun _ _ h => h))
        clear f11
        go_wp2_with fail
        go_ret
        exact ⟨rfl, Fresh.below_ F11.out (by rw [HG.out]; exact Nat.le_refl _)⟩
      · have t1 : (a != b) = true := by simpa using hab
        obtain ⟨rfl, rfl, rfl, rfl, rfl⟩ := OutIs.one OP.out (byNo_rm l hab ▸ OY.out)
        obtain ⟨rfl, rfl, rfl, rfl, rfl⟩ := OutIs.one OX.out (byNo_rm l (fun e => hab e.symm) ▸ OQ.out)
        clear hab
        have c1 := by_.cell
        have c2 := bx_.cell
        have c3 := bq_.cell
        have c4 := bp_.cell
        clear by_ bx_ bq_ bp_
        go_wp2_with (first
          | (go_at_call 13; first | ((with_reducible refine LC.out.mono ?_); rintro e w8 ⟨rfl, rfl⟩; clear LC) | ((with_reducible refine LD.out.mono ?_); rintro e w9 ⟨rfl, rfl⟩)))
        refine HSM.out.mono ?_
        rintro e w10 ⟨rfl, f10⟩
        have F10 := Lib.hid ((HI.out.fr.step HT.out (fun _ _ h => h)).step f10 (fun _ _ h => h))
        clear f10
        go_wp2_with fail
        refine (awake_any _).mono ?_
        rintro e w11 ⟨rfl, f11⟩
        have F11 := Lib.hid (F10.out.step f11 (fun _ _ h => h))
        clear f11
        go_wp2_with fail
        go_ret
        exact ⟨rfl, Fresh.below_ F11.out (by rw [HG.out]; exact Nat.le_refl _)⟩
open Go.ChangeShapes Go.WideShapes Go.ChangeAt
set_option maxRecDepth 100000 in
theorem mailTurns_lifted (os : Os) (started : os.Started) (H : Type) (enc : TypeId × Value → H) :
    ReturnsInHanded {} Try.checked os 5 .any (Rows.mailTurnsSpec.pre6 enc Try.prog Try.f5 Rows.mailTurnsRow.domain false) (Rows.mailTurnsSpec.post enc Try.prog Try.f5 false true false false) := by
  refine law_lifted (C := Try.checked) (tb := 4) (by kernel_rfl) (by kernel_rfl) started (by kernel_rfl) Try.func5 rfl ?_ rfl Try.underlying4 (by kernel_rfl)
    (ChangeSpec.witness6 (enc := enc) (C := Try.checked) false ⟨#[], #[.slice none 0 0, .int .i64 0, .int .i64 0], []⟩ 12 (by kernel_rfl) (by kernel_rfl) (by kernel_rfl) (by kernel_rfl)) ?_
  · intro ds hds
    match ds, hds with
    | [e0, e1, e2], _ => rfl
  · intro W base args ds p hval hA hreach
    rw [Try.params5] at hA hval hreach
    obtain ⟨v0, vs0, d0, ds0, p0, q0, hargs, rfl, rfl, h0, r0⟩ := trodAll_cons hA
    obtain ⟨v1, vs1, d1, ds1, p1, q1, rfl, rfl, rfl, h1, r1⟩ := trodAll_cons r0
    obtain ⟨v2, vs2, d2, ds2, p2, q2, rfl, rfl, rfl, h2, r2⟩ := trodAll_cons r1
    obtain ⟨rfl, rfl, rfl⟩ := trodAll_nil r2
    obtain rfl : args = #[v0, v1, v2] := by cases args; simp_all
    obtain ⟨A_l, n_l, c_l, rows_l, rfl, len_l, cap_l, max_l, leaf_l, at_l⟩ := arg_slice (n := 6) Try.underlying22 (by kernel_rfl) (by kernel_rfl) (by rw [show Try.prog.cellsOf 36 = 4 by kernel_rfl]; decide) (hval 0 22 v0 rfl rfl) h0
    rw [show flat Try.prog 6 36 = [3, 3, 3, 34] by kernel_rfl] at leaf_l
    rw [show Try.prog.cellsOf 36 = 4 by kernel_rfl] at at_l
    obtain ⟨a, rfl, w_a⟩ := arg_int Try.underlying3 (hval 1 3 v1 rfl rfl) h1
    obtain ⟨b, rfl, w_b⟩ := arg_int Try.underlying3 (hval 2 3 v2 rfl rfl) h2
    obtain ⟨os, hos, hops⟩ := ops_arg leaf_l at_l
    have hn : os.length = n_l := hos.trans len_l
    subst hn
    have hm : os.length ≤ 9223372036854775807 := by unfold maxLen at max_l; omega
    cases hf : fewB os
    · exact turns_no A_l c_l a b os W hops hm hf
    · exact turns_ok A_l c_l a b os W hops hm hf

theorem mailTurns_holds : Rows.MailTurnsSaid :=
  OpenClaim.holds_of_wide 5 Try.f5 rfl rfl rfl rfl rfl rfl rfl ⟨rfl, rfl, rfl, rfl, rfl⟩ rfl rfl rfl rfl rfl (by kernel_rfl) Try.func5 (by kernel_rfl)
    (of_decide_eq_true (by kernel_rfl)) (by unfold Func.isWrapper; first | (rw [if_pos (by decide +kernel)]; kernel_rfl) | (rw [if_neg (by decide +kernel)]; exact ⟨rfl, rfl⟩))
    (fun os started H enc _ => mailTurns_lifted os started H enc)
end Go.Proofs.Ytgakggkffapnlaa
