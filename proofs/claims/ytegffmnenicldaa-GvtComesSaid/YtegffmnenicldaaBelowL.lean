/- GvtBelow returns true at every input: whatever comes in whatever order, the master's time is never above an open time or one on its way, and never falls, and nothing is answered with an error. No conditions. -/
import Derived.Test.YtegffmnenicldaaStep
import Derived.Test.YtegffmnenicldaaMade
import Derived.Test.YtegffmnenicldaaAwake
namespace Go.Proofs.Ytegffmnenicldaa
open Go.RowKit
attribute [local go_sem ↓] Go.wp_at_zero Go.wp_at_succ run_min

theorem small_parts {os : List LA} {ps : List PA} (h : smallB os ps = true) : (1 ≤ os.length ∧ os.length ≤ 8 ∧ ps.length ≤ 200) ∧ (∀ o ∈ os, o.l.length ≤ 20) ∧ ∀ o ∈ ps, o.l.length ≤ 5 := by
  unfold smallB at h
  simp only [Bool.and_eq_true, List.all_eq_true, decide_eq_true_eq] at h
  exact ⟨h.2, h.1.1, h.1.2⟩
theorem made_wi {os : List LA} (h1 : 1 ≤ os.length) (h8 : os.length ≤ 8) (h20 : ∀ o ∈ os, o.l.length ≤ 20) : WI os.length 0 (WS.made (os.map LA.clip)) := by
  have h := WI.made (os := os.map LA.clip) (by simpa using h1) (by simpa using h8) (fun l hl => by
    obtain ⟨o, ho, rfl⟩ := List.mem_map.1 hl
    refine ⟨Nat.le_trans (List.length_filter_le _ _) (h20 o ho), fun t ht => ?_⟩
    have := (List.mem_filter.1 ht).2
    simp only [okT, Bool.and_eq_true, decide_eq_true_eq] at this
    exact this)
  simpa using h
theorem SW.bxf {w W : World} {gx gm gr n K k : Nat} {gs bs : List Nat} {vos : List Value} {vw vo vl : Value} {x : WS} (h : SW w gx gs bs vos vw vo vl gm gr n K x W) (hx : WI n k x) : Blk W gx 54 #[vw, vo, vl, .pointer (some ⟨gm, 0, none⟩), .int .i64 x.sent, .bool false] := by
  have := h.bx
  rw [hx.bad] at this
  exact this
set_option maxRecDepth 100000 in
set_option maxHeartbeats 4000000 in
theorem below_no (A B : Option Addr) (c d : Nat) (os : List LA) (ps : List PA) (w : World) (h : Las w A os) (hp : Pas w B ps) (hn : os.length ≤ 9223372036854775807) (hm : ps.length ≤ 9223372036854775807) (hs : smallB os ps = false) : Law Try.prog 5 #[.slice A os.length c, .slice B ps.length d] w := by
  have HS := Lib.hid (small_any A B c d os ps w h hp hn hm)
  rw [hs] at HS
  clear h hp hs
  go_enter Try.func5, Try.ntmps5
  go_wp2_with (first
    | (go_at_call 18; (with_reducible refine HS.out.mono ?_); rintro e w1 ⟨rfl, f1⟩)
    | (go_at_call 11; refine (awake_any _).mono ?_; rintro e w2 ⟨rfl, f2⟩))
  go_ret
  exact ⟨rfl, Fresh.below_ (f1.step f2 (fun _ _ h => h)) (Nat.le_refl _)⟩
set_option maxRecDepth 100000 in
set_option maxHeartbeats 4000000 in
theorem below_ok (A B : Option Addr) (c d : Nat) (os : List LA) (ps : List PA) (w : World) (h : Las w A os) (hp : Pas w B ps) (hn : os.length ≤ 9223372036854775807) (hm : ps.length ≤ 9223372036854775807) (hs : smallB os ps = true) : Law Try.prog 5 #[.slice A os.length c, .slice B ps.length d] w := by
  have HS := Lib.hid (small_any A B c d os ps w h hp hn hm)
  rw [hs] at HS
  obtain ⟨⟨h1, h8, h200⟩, h20, h5⟩ := small_parts hs
  have HO := Lib.hid h
  have HP := Lib.hid hp
  have H20 := Lib.hid h20
  have H5 := Lib.hid h5
  have H0 := Lib.hid (made_wi h1 h8 h20)
  clear h hp hs h20 h5
  go_enter Try.func5, Try.ntmps5
  go_wp2_with (first
    | (go_at_call 18; (with_reducible refine HS.out.mono ?_); rintro e w1 ⟨rfl, f1⟩; have F1 := Lib.hid f1; clear f1)
    | (go_at_call 19; (with_reducible refine (made_any A c os _ (HO.out.fresh F1.out) h1 h8 H20.out).mono ?_); rintro e w2 ⟨gx, gs, bs, vos, vw, vo, gm, gr, rfl, s2⟩; have S2 := Lib.hid s2; clear s2))
  have HP1 := Lib.hid (HP.out.fresh F1.out)
  go_loopg [6, 7] ps.length (fun gk was u wr => ∃ (i K : Nat) (vos : List Value) (vl : Value) (y : WS), i ≤ ps.length ∧ gk = ps.length - i ∧ was = .int .i64 y.m.time ∧ u = .int .i64 i ∧ K ≤ 5 * i ∧ SW w1 gx gs bs vos vw vo vl gm gr os.length K y wr ∧ WI os.length (6 * i) y)
  case atStart => exact ⟨0, 0, vos, _, _, by omega, rfl, rfl, rfl, by omega, S2.out, H0.out⟩
  case round =>
    obtain ⟨i, K, vos, vl, y, hi, rfl, rfl, rfl, hK, hS, hW⟩ := hrel
    have SR := Lib.hid hS
    have WR := Lib.hid hW
    clear hS hW S2 H0
    by_cases hlt : i < ps.length
    · obtain ⟨o, ho⟩ : ∃ o, ps[i]? = some o := ⟨_, List.getElem?_eq_getElem hlt⟩
      have hl5 := H5.out o (List.mem_of_getElem? ho)
      have hcap := (HP1.out.ok o (List.mem_of_getElem? ho)).2
      obtain ⟨b, off, rfl, lt, hc, hint⟩ := HP1.out.at_ i o ho
      have HC := Lib.hid (step_any SR.out WR.out o hint hl5 hcap (by omega) (by omega))
      obtain ⟨o0, o1, o2, oA, ocap, ol⟩ := o
      unfold PA.arr at hc HC
      simp only at hc HC hl5 hcap
      have c0 := SR.out.f.cell_ (hc 0 _ rfl)
      have c1 := SR.out.f.cell_ (hc 1 _ rfl)
      have c2 := SR.out.f.cell_ (hc 2 _ rfl)
      have c3 := SR.out.f.cell_ (hc 3 _ rfl)
      rw [Nat.add_zero] at c0
      have i1 : (i : Int) < (ps.length : Int) := by omega
      have n8 := WR.out.ms.n1
      obtain ⟨T0, hT0⟩ : ∃ T0, y.m.time = T0 := ⟨_, rfl⟩
      rw [hT0]
      have HT0 := Lib.hid hT0
      clear hc hint ho hT0
      go_upto_region 12 with (first
        | (go_at_call 20; (with_reducible refine HC.out.mono ?_); rintro e w5 ⟨rfl, vos', vl', K', y', hK', h5, went⟩; have S5 := Lib.hid h5; have W5 := Lib.hid went; have c5 := (h5.bxf went.wi).cell; have l5 := h5.bx.lt; clear h5 went)
        | (go_at_call 21; (with_reducible refine (mtime_any gm gr os.length _ _ S5.out.m).mono ?_); rintro e w6 ⟨rfl, rfl⟩))
      have t1 : decide (y'.m.time < T0) = false := decide_eq_false (by have := W5.out.time; rw [HT0.out] at this; omega)
      have t2 : decide (y'.least < y'.m.time) = false := decide_eq_false (by have := W5.out.wi.below; omega)
      have HLE := Lib.hid (least_any S5.out (by omega) (fun l hl => by have := (W5.out.wi.ot l hl).1; omega) (by have := W5.out.wi.ln; omega))
      obtain ⟨T1, hT1⟩ : ∃ T1, y'.m.time = T1 := ⟨_, rfl⟩
      rw [hT1] at t1 t2 ⊢
      have HT1 := Lib.hid hT1
      clear hT1
      go_wp2_with (go_at_call 22; (with_reducible refine HLE.out.mono ?_); rintro e w7 ⟨rfl, f7⟩)
      go_roundg (ps.length - (i + 1))
      case measure => omega
      case rel => exact ⟨i + 1, K', vos', vl', y', by omega, rfl, by rw [HT1.out], by go_num, by omega, S5.out.fresh f7, W5.out.wi.to (by omega)⟩
    · obtain rfl : i = ps.length := by omega
      go_wp2_with (go_at_call 11; refine (awake_any _).mono ?_; rintro e w2 ⟨rfl, f2⟩)
      go_ret
      exact ⟨rfl, Fresh.below_ ((F1.out.step SR.out.f (fun _ _ h => h)).step f2 (fun _ _ h => h)) (Nat.le_refl _)⟩
open Go.ChangeShapes Go.WideShapes Go.ChangeAt
set_option maxRecDepth 100000 in
theorem gvtBelow_lifted (os : Os) (started : os.Started) (H : Type) (enc : TypeId × Value → H) :
    ReturnsInHanded {} Try.checked os 5 .any (Rows.gvtBelowSpec.pre6 enc Try.prog Try.f5 Rows.gvtBelowRow.domain false) (Rows.gvtBelowSpec.post enc Try.prog Try.f5 false true false false) := by
  refine law_lifted (C := Try.checked) (tb := 4) (by kernel_rfl) (by kernel_rfl) started (by kernel_rfl) Try.func5 rfl ?_ rfl Try.underlying4 (by kernel_rfl)
    (ChangeSpec.witness6 (enc := enc) (C := Try.checked) false ⟨#[], #[.slice none 0 0, .slice none 0 0], []⟩ 12 (by kernel_rfl) (by kernel_rfl) (by kernel_rfl) (by kernel_rfl)) ?_
  · intro ds hds
    match ds, hds with
    | [e0, e1], _ => rfl
  · intro W base args ds p hval hA hreach
    rw [Try.params5] at hA hval hreach
    obtain ⟨v0, vs0, d0, ds0, p0, q0, hargs, rfl, rfl, h0, r0⟩ := trodAll_cons hA
    obtain ⟨v1, vs1, d1, ds1, p1, q1, rfl, rfl, rfl, h1, r1⟩ := trodAll_cons r0
    obtain ⟨rfl, rfl, rfl⟩ := trodAll_nil r1
    obtain rfl : args = #[v0, v1] := by cases args; simp_all
    obtain ⟨A_l, n_l, c_l, rows_l, rfl, len_l, cap_l, max_l, leaf_l, at_l⟩ := arg_slice (n := 6) Try.underlying42 (by kernel_rfl) (by kernel_rfl) (by rw [show Try.prog.cellsOf 28 = 1 by kernel_rfl]; decide) (hval 0 42 v0 rfl rfl) h0
    rw [show flat Try.prog 6 28 = [28] by kernel_rfl] at leaf_l
    rw [show Try.prog.cellsOf 28 = 1 by kernel_rfl] at at_l
    obtain ⟨A_m, n_m, c_m, rows_m, rfl, len_m, cap_m, max_m, leaf_m, at_m⟩ := arg_slice (n := 6) Try.underlying43 (by kernel_rfl) (by kernel_rfl) (by rw [show Try.prog.cellsOf 49 = 4 by kernel_rfl]; decide) (hval 1 43 v1 rfl rfl) h1
    rw [show flat Try.prog 6 49 = [3, 3, 3, 28] by kernel_rfl] at leaf_m
    rw [show Try.prog.cellsOf 49 = 4 by kernel_rfl] at at_m
    obtain ⟨os, hos, hlas⟩ := las_arg leaf_l at_l
    have hn : os.length = n_l := hos.trans len_l
    subst hn
    obtain ⟨ps, hps, hpas⟩ := pas_arg leaf_m at_m
    have hn2 : ps.length = n_m := hps.trans len_m
    subst hn2
    have hm1 : os.length ≤ 9223372036854775807 := by unfold maxLen at max_l; omega
    have hm2 : ps.length ≤ 9223372036854775807 := by unfold maxLen at max_m; omega
    cases hs : smallB os ps
    · exact below_no A_l A_m c_l c_m os ps W hlas hpas hm1 hm2 hs
    · exact below_ok A_l A_m c_l c_m os ps W hlas hpas hm1 hm2 hs

theorem gvtBelow_holds : Rows.GvtBelowSaid :=
  OpenClaim.holds_of_wide 5 Try.f5 rfl rfl rfl rfl rfl rfl rfl ⟨rfl, rfl, rfl, rfl, rfl⟩ rfl rfl rfl rfl rfl (by kernel_rfl) Try.func5 (by kernel_rfl)
    (of_decide_eq_true (by kernel_rfl)) (by unfold Func.isWrapper; first | (rw [if_pos (by decide +kernel)]; kernel_rfl) | (rw [if_neg (by decide +kernel)]; exact ⟨rfl, rfl⟩))
    (fun os started H enc _ => gvtBelow_lifted os started H enc)
end Go.Proofs.Ytegffmnenicldaa
