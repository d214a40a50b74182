/- GvtComes returns true at every input: when nothing is sent any more and all that is on its way comes, a round and one more come to the least open time of all, and nothing waits. No conditions. -/
import Derived.Test.YtegffmnenicldaaBelowL
namespace Go.Proofs.Ytegffmnenicldaa
open Go.RowKit
attribute [local go_sem ↓] Go.wp_at_zero Go.wp_at_succ run_min

/-- a world at rest, or not, between the turns: 0 nothing is said; 1 a round without messages; 2 one more, without lows -/
def Phase (t : Nat) (T : Int) (os : List (List Int)) (x : WS) : Prop :=
  (t = 1 → Calm false T os x) ∧ (2 ≤ t → Calm true T os x) ∧ T ≤ 1073741825 ∧ (∀ l ∈ os, ∀ u ∈ l, T ≤ u) ∧ (1 ≤ t → ∃ x0 : WS, x0.l = [] ∧ x0.least = T ∧ x0.o = os)
theorem comesW_zero (x : WS) : x.comesW 0 = if x.l.length = 0 then x else x.comes 0 := by
  unfold WS.comesW pickN
  split
  · rfl
  · rename_i h
    congr 1
    have : ((0 : Int).tmod (x.l.length : Int) + (x.l.length : Int)).tmod (x.l.length : Int) = 0 := by simp
    rw [this]
    rfl
theorem Phase.comes {t : Nat} {T : Int} {os : List (List Int)} {n k : Nat} {x : WS} (h : WI n k x) (p : Phase t T os x) : Phase t T os (x.comes 0) :=
  ⟨fun e => (p.1 e).comes h p.2.2.1 p.2.2.2.1, fun e => (p.2.1 e).comes h p.2.2.1 p.2.2.2.1, p.2.2⟩
/-- a round begins behind a turn at rest: the next phase, of the least time now -/
theorem Phase.begin {t : Nat} {T : Int} {os : List (List Int)} {n k : Nat} {x : WS} (h : WI n k x) (hl : x.l = []) (p : Phase t T os x) (ht : t < 2) : Phase (t + 1) x.least x.o x.begin := by
  obtain ⟨l1, l2⟩ := least_open hl
  refine ⟨fun e => Calm.begin h hl (fun hh => by cases hh), fun e => ?_, l2, l1, fun _ => ⟨x, hl, rfl, rfl⟩⟩
  have ht1 : t = 1 := by omega
  refine Calm.begin h hl (fun _ g hg => ?_)
  have c := p.1 ht1
  exact (c.w g hg).2 (.inr ((h.rest hl).2 g hg).2)
theorem Phase.done {t : Nat} {T : Int} {os : List (List Int)} {n k : Nat} {x : WS} (h : WI n k x) (hl : x.l = []) (p : Phase t T os x) (ht : 2 ≤ t) : x.m.time = x.least := by
  obtain ⟨x0, e1, e2, e3⟩ := p.2.2.2.2 (by omega)
  have c := p.2.1 ht
  rw [← e2, ← e3] at c
  exact c.done h hl e1
set_option maxRecDepth 100000 in
set_option maxHeartbeats 4000000 in
theorem comes_no (A B : Option Addr) (c d : Nat) (os : List LA) (ps : List PA) (w : World) (h : Las w A os) (hp : Pas w B ps) (hn : os.length ≤ 9223372036854775807) (hm : ps.length ≤ 9223372036854775807) (hs : smallB os ps = false) : Law Try.prog 6 #[.slice A os.length c, .slice B ps.length d] w := by
  have HS := Lib.hid (small_any A B c d os ps w h hp hn hm)
  rw [hs] at HS
  clear h hp hs
  go_enter Try.func6, Try.ntmps6
  go_wp2_with (first
    | (go_at_call 18; (with_reducible refine HS.out.mono ?_); rintro e w1 ⟨rfl, f1⟩)
    | (go_at_call 11; refine (awake_any _).mono ?_; rintro e w2 ⟨rfl, f2⟩))
  go_ret
  exact ⟨rfl, Fresh.below_ (f1.step f2 (fun _ _ h => h)) (Nat.le_refl _)⟩
set_option maxRecDepth 100000 in
set_option maxHeartbeats 8000000 in
theorem comes_ok (A B : Option Addr) (c d : Nat) (os : List LA) (ps : List PA) (w : World) (h : Las w A os) (hp : Pas w B ps) (hn : os.length ≤ 9223372036854775807) (hm : ps.length ≤ 9223372036854775807) (hs : smallB os ps = true) : Law Try.prog 6 #[.slice A os.length c, .slice B ps.length d] w := by
  have HS := Lib.hid (small_any A B c d os ps w h hp hn hm)
  rw [hs] at HS
  obtain ⟨⟨h1, h8, h200⟩, h20, h5⟩ := small_parts hs
  have HO := Lib.hid h
  have HP := Lib.hid hp
  have H20 := Lib.hid h20
  have H5 := Lib.hid h5
  have H0 := Lib.hid (made_wi h1 h8 h20)
  clear h hp hs h20 h5
  go_enter Try.func6, Try.ntmps6
  go_wp2_with (first
    | (go_at_call 18; (with_reducible refine HS.out.mono ?_); rintro e w1 ⟨rfl, f1⟩; have F1 := Lib.hid f1; clear f1)
    | (go_at_call 19; (with_reducible refine (made_any A c os _ (HO.out.fresh F1.out) h1 h8 H20.out).mono ?_); rintro e w2 ⟨gx, gs, bs, vos, vw, vo, gm, gr, rfl, s2⟩; have S2 := Lib.hid s2; clear s2))
  have HP1 := Lib.hid (HP.out.fresh F1.out)
  go_loopg [6] ps.length (fun gk u wr => ∃ (i K : Nat) (vos : List Value) (vl : Value) (y : WS), i ≤ ps.length ∧ gk = ps.length - i ∧ u = .int .i64 i ∧ K ≤ 5 * i ∧ SW w1 gx gs bs vos vw vo vl gm gr os.length K y wr ∧ WI os.length (6 * i) y ∧ pot y.l ≤ 16 * i)
  case atStart => exact ⟨0, 0, vos, _, _, by omega, rfl, rfl, by omega, S2.out, H0.out, by simp [WS.made, pot]⟩
  case round =>
    obtain ⟨i, K, vos, vl, y, hi, rfl, rfl, hK, hS, hW, hP⟩ := hrel
    have SR := Lib.hid hS
    have WR := Lib.hid hW
    clear hS hW S2 H0
    by_cases hlt : i < ps.length
    · obtain ⟨o, ho⟩ : ∃ o, ps[i]? = some o := ⟨_, List.getElem?_eq_getElem hlt⟩
      have hl5 := H5.out o (List.mem_of_getElem? ho)
      have hcap := (HP1.out.ok o (List.mem_of_getElem? ho)).2
      obtain ⟨b, off, rfl, lt, hc, hint⟩ := HP1.out.at_ i o ho
      have HC := Lib.hid (step_any SR.out WR.out o hint hl5 hcap (by omega) (by omega))
      obtain ⟨o0, o1, o2, oA, ocap, ol⟩ := o
      unfold PA.arr at hc HC
      simp only at hc HC hl5 hcap
      have c0 := SR.out.f.cell_ (hc 0 _ rfl)
      have c1 := SR.out.f.cell_ (hc 1 _ rfl)
      have c2 := SR.out.f.cell_ (hc 2 _ rfl)
      have c3 := SR.out.f.cell_ (hc 3 _ rfl)
      rw [Nat.add_zero] at c0
      have i1 : (i : Int) < (ps.length : Int) := by omega
      clear hc hint ho
      go_wp2_with (go_at_call 20; (with_reducible refine HC.out.mono ?_); rintro e w5 ⟨rfl, vos', vl', K', y', hK', h5, went⟩; have S5 := Lib.hid h5; have W5 := Lib.hid went; clear h5 went)
      go_roundg (ps.length - (i + 1))
      case measure => omega
      case rel => exact ⟨i + 1, K', vos', vl', y', by omega, rfl, by go_num, by omega, S5.out, W5.out.wi.to (by omega), by have := W5.out.pot; omega⟩
    · obtain rfl : i = ps.length := by omega
      clear hlt
      go_wp2_with fail
      rename World => wP
      go_loopg [7] 3 (fun gk u wr => ∃ (t K k : Nat) (vos : List Value) (vl : Value) (y : WS) (T : Int) (oo : List (List Int)), t ≤ 3 ∧ gk = 3 - t ∧ u = .int .i64 t ∧ K ≤ 2000 + 4000 * t ∧ k ≤ 2000 + 4000 * t ∧ SW w1 gx gs bs vos vw vo vl gm gr os.length K y wr ∧ WI os.length k y ∧ pot y.l ≤ 3200 ∧ Hid (t < 3 → Phase t T oo y) ∧ Hid (t = 3 → y.l = [] ∧ y.m.time = y.least))
      case atStart => exact ⟨0, K, 6 * ps.length, vos, vl, y, 0, [], by omega, rfl, rfl, by omega, by omega, SR.out, WR.out, by omega, Lib.hid (fun _ => ⟨fun h => (by omega), fun h => (by omega), by omega, fun l hl => (by cases hl), fun h => (by omega)⟩), Lib.hid (fun h => by omega)⟩
      case round =>
        obtain ⟨t, K, k, vos, vl, y, T, oo, ht, rfl, rfl, hK, hk, hS, hW, hP, HPh, HDn⟩ := hrel
        clear SR WR
        have SR := Lib.hid hS
        have WR := Lib.hid hW
        clear hS hW
        by_cases ht3 : t < 3
        · have HPH := Lib.hid (HPh.out ht3)
          have t31 : decide ((t : Int) < 3) = true := decide_eq_true (by omega)
          have t31' : decide (t < 3) = true := decide_eq_true ht3
          clear HPh HDn
          go_wp2_with fail
          rename World => wT
          obtain ⟨P0, hP0⟩ : ∃ P0, pot y.l = P0 := ⟨_, rfl⟩
          have HP0 := Lib.hid hP0
          rw [hP0] at hP
          clear hP0
          go_loopg [8] P0 (fun gk u wr => ∃ (q : Nat) (vos : List Value) (vl : Value) (z : WS), gk = pot z.l ∧ u = .int .i64 q ∧ q + pot z.l = P0 ∧ SW w1 gx gs bs vos vw vo vl gm gr os.length (K + q) z wr ∧ WI os.length (k + q) z ∧ Hid (Phase t T oo z))
          case atStart => exact ⟨0, vos, vl, y, HP0.out.symm, rfl, by have := HP0.out; omega, SR.out, WR.out, HPH⟩
          case round =>
            obtain ⟨q, vos, vl, z, hgk, rfl, hq, hS, hW, HZ⟩ := hrel
            have SZ := Lib.hid hS
            have WZ := Lib.hid hW
            have HGK := Lib.hid hgk
            clear hS hW hgk SR WR
            have cz := (SZ.out.bxf WZ.out).cell
            have lz := SZ.out.bx.lt
            have hlz : z.l.length ≤ 8 * (k + q) := WZ.out.ln
            obtain ⟨Al, cl, rfl, hcl, hml⟩ := SZ.out.ol.shape
            have hml : cl ≤ 9223372036854775807 := by unfold maxLen at hml; omega
            have q1 : decide ((q : Int) < 10000) = true := decide_eq_true (by omega)
            have q1' : decide (q < 10000) = true := decide_eq_true (by omega)
            by_cases hz : z.l.length = 0
            · have zt : decide ((0 : Int) < (z.l.length : Int)) = false := decide_eq_false (by omega)
              have zt' : decide (0 < z.l.length) = false := decide_eq_false (by omega)
              have HZL : Hid (z.l = []) := Lib.hid (List.eq_nil_of_length_eq_zero hz)
              have hrun := (WZ.out.rest HZL.out).1
              have HRU : Hid (∀ W', SMast W' gm gr os.length z.m → Calls Try.prog 24 #[.pointer (some ⟨gm, 0, none⟩)] W' fun e w' => e = .returned (.bool false) ∧ W' = w') := Lib.hid fun W' hm => by
                have := running_any gm gr os.length z.m W' hm
                rw [hrun] at this
                exact this
              clear hrun hz
              go_upto_region 19 with (go_at_call 24; (with_reducible refine (HRU.out _ SZ.out.m).mono ?_); rintro e w6 ⟨rfl, rfl⟩)
              by_cases ht2 : t < 2
              · have t21 : decide ((t : Int) < 2) = true := decide_eq_true (by omega)
                have t21' : decide (t < 2) = true := decide_eq_true ht2
                have HBG := Lib.hid (wbegin_any SZ.out WZ.out (by omega))
                have HPN := Lib.hid (HZ.out.begin WZ.out HZL.out ht2)
                have hpb := begin_pot z
                have hwn := WZ.out.wl
                have hp0 : pot z.l = 0 := by rw [HZL.out]; rfl
                have HBP : Hid (pot z.begin.l ≤ 16) := Lib.hid (by omega)
                clear hpb hwn hp0
                go_wp2_with (go_at_call 25; (with_reducible refine HBG.out.mono ?_); rintro e w7 ⟨rfl, vl7, h7⟩; have S7 := Lib.hid h7; clear h7)
                go_roundg (3 - (t + 1))
                case measure => omega
                case rel => exact ⟨t + 1, K + q, k + q + 1, vos, vl7, z.begin, z.least, z.o, by omega, rfl, by go_num, by omega, by omega, S7.out, WZ.out.begin, by have := HBP.out; omega, Lib.hid (fun _ => HPN.out), Lib.hid (fun h => by omega)⟩
              · have t21 : decide ((t : Int) < 2) = false := decide_eq_false (by omega)
                have t21' : decide (t < 2) = false := decide_eq_false ht2
                have HDD := Lib.hid (HZ.out.done WZ.out HZL.out (by omega))
                go_wp2_with fail
                go_roundg (3 - (t + 1))
                case measure => omega
                case rel => exact ⟨t + 1, K + q, k + q, vos, _, z, T, oo, by omega, rfl, by go_num, by omega, by omega, SZ.out, WZ.out, by rw [HZL.out]; simp [pot], Lib.hid (fun h => by omega), Lib.hid (fun _ => ⟨HZL.out, HDD.out⟩)⟩
            · have zt : decide ((0 : Int) < (z.l.length : Int)) = true := decide_eq_true (by omega)
              have zt' : decide (0 < z.l.length) = true := decide_eq_true (by omega)
              have HCM := Lib.hid (comes_any SZ.out WZ.out 0 (by omega) (by omega))
              rw [comesW_zero, if_neg hz] at HCM
              have hpz := comes_pot (x := z) (fun h => hz (by rw [h]; rfl))
              have HPZ := Lib.hid hpz
              clear hz hpz
              go_wp2_with (go_at_call 23; (with_reducible refine HCM.out.mono ?_); rintro e w7 ⟨rfl, vos7, vl7, h7⟩; have S7 := Lib.hid h7; clear h7)
              go_roundg (pot (z.comes 0).l)
              case measure => have := HPZ.out; have := HGK.out; omega
              case rel => exact ⟨q + 1, vos7, vl7, z.comes 0, rfl, by go_num, by have := HPZ.out; omega, S7.out, WZ.out.comes 0, Lib.hid (HZ.out.comes WZ.out)⟩
        · obtain rfl : t = 3 := by omega
          obtain ⟨hyl, hym⟩ := HDn.out rfl
          have HYL := Lib.hid hyl
          have HYM := Lib.hid hym
          have cz := (SR.out.bxf WR.out).cell
          have lz := SR.out.bx.lt
          obtain ⟨Aw, cw, rfl, hcw, hmw⟩ := SR.out.ow.shape
          have hmw : cw ≤ 9223372036854775807 := by unfold maxLen at hmw; omega
          have HRS := Lib.hid (WR.out.rest hyl)
          clear hyl hym HPh HDn
          go_wp2_with fail
          rename World => wE
          go_loopg [9] os.length (fun gk u wr => ∃ q : Nat, q ≤ os.length ∧ gk = os.length - q ∧ u = .int .i64 q ∧ Fresh wE wr)
          case atStart => exact ⟨0, by omega, rfl, rfl, Keep.refl _ _⟩
          case round =>
            obtain ⟨q, hq, rfl, rfl, hF⟩ := hrel
            have HF := Lib.hid hF
            have SQ := Lib.hid (SR.out.fresh hF)
            have cq := (SQ.out.bxf WR.out).cell
            have lq := SQ.out.bx.lt
            clear hF cz lz
            by_cases hqn : q < os.length
            · obtain ⟨g, ga, ba, hg, hga, hba, hsw⟩ := SQ.out.some_w hqn
              obtain ⟨gw, offw, _, hvw, lgw, _, _, hcw⟩ := SQ.out.ow.form (by omega)
              injection hvw with e1 e2 e3
              subst e1 e3
              have cwi := hcw _ _ (show (ptrs gs)[q]? = some (.pointer (some ⟨ga, 0, none⟩)) by rw [ptrs, List.getElem?_map, hga]; rfl)
              have hgl := (HRS.out.2 g (List.mem_of_getElem? hg)).1
              have HOP := Lib.hid (open_any ga ba K k g wr hsw (WR.out.ws g (List.mem_of_getElem? hg)) (by omega))
              rw [hgl] at HOP
              have q1 : (q : Int) < (os.length : Int) := by omega
              have HOP2 : Hid (Calls Try.prog 13 #[.pointer (some ⟨ga, 0, none⟩)] wr fun e w' => e = .returned (.tuple #[.int .i64 0, .int .i64 1073741825]) ∧ Fresh wr w') := HOP
              clear hg hga hba hsw hcw hgl HOP
              go_wp2_with (go_at_call 13; (with_reducible refine HOP2.out.mono ?_); rintro e w7 ⟨rfl, f7⟩; have F7 := Lib.hid f7; clear f7)
              go_roundg (os.length - (q + 1))
              case measure => omega
              case rel => exact ⟨q + 1, by omega, rfl, by go_num, HF.out.step F7.out (fun _ _ h => h)⟩
            · obtain rfl : q = os.length := by omega
              have HLE := Lib.hid (least_any SQ.out (by omega) (fun l hl => by have := (WR.out.ot l hl).1; omega) (by have := WR.out.ln; omega))
              rw [← HYM.out] at HLE
              have HTM := Lib.hid (mtime_any gm gr os.length _ _ SQ.out.m)
              obtain ⟨T1, hT1⟩ : ∃ T1, y.m.time = T1 := ⟨_, rfl⟩
              rw [hT1] at HLE HTM
              clear hT1
              go_wp2_with (first
                | (go_at_call 21; (with_reducible refine HTM.out.mono ?_); rintro e w6 ⟨rfl, rfl⟩)
                | (go_at_call 22; (with_reducible refine HLE.out.mono ?_); rintro e w7 ⟨rfl, f7⟩)
                | (go_at_call 11; refine (awake_any _).mono ?_; rintro e w8 ⟨rfl, f8⟩))
              go_ret
              exact ⟨rfl, Fresh.below_ (((F1.out.step SQ.out.f (fun _ _ h => h)).step f7 (fun _ _ h => h)).step f8 (fun _ _ h => h)) (Nat.le_refl _)⟩
open Go.ChangeShapes Go.WideShapes Go.ChangeAt
set_option maxRecDepth 100000 in
theorem gvtComes_lifted (os : Os) (started : os.Started) (H : Type) (enc : TypeId × Value → H) :
    ReturnsInHanded {} Try.checked os 6 .any (Rows.gvtComesSpec.pre6 enc Try.prog Try.f6 Rows.gvtComesRow.domain false) (Rows.gvtComesSpec.post enc Try.prog Try.f6 false true false false) := by
  refine law_lifted (C := Try.checked) (tb := 4) (by kernel_rfl) (by kernel_rfl) started (by kernel_rfl) Try.func6 rfl ?_ rfl Try.underlying4 (by kernel_rfl)
    (ChangeSpec.witness6 (enc := enc) (C := Try.checked) false ⟨#[], #[.slice none 0 0, .slice none 0 0], []⟩ 12 (by kernel_rfl) (by kernel_rfl) (by kernel_rfl) (by kernel_rfl)) ?_
  · intro ds hds
    match ds, hds with
    | [e0, e1], _ => rfl
  · intro W base args ds p hval hA hreach
    rw [Try.params6] at hA hval hreach
    obtain ⟨v0, vs0, d0, ds0, p0, q0, hargs, rfl, rfl, h0, r0⟩ := trodAll_cons hA
    obtain ⟨v1, vs1, d1, ds1, p1, q1, rfl, rfl, rfl, h1, r1⟩ := trodAll_cons r0
    obtain ⟨rfl, rfl, rfl⟩ := trodAll_nil r1
    obtain rfl : args = #[v0, v1] := by cases args; simp_all
    obtain ⟨A_l, n_l, c_l, rows_l, rfl, len_l, cap_l, max_l, leaf_l, at_l⟩ := arg_slice (n := 6) Try.underlying42 (by kernel_rfl) (by kernel_rfl) (by rw [show Try.prog.cellsOf 28 = 1 by kernel_rfl]; decide) (hval 0 42 v0 rfl rfl) h0
    rw [show flat Try.prog 6 28 = [28] by kernel_rfl] at leaf_l
    rw [show Try.prog.cellsOf 28 = 1 by kernel_rfl] at at_l
    obtain ⟨A_m, n_m, c_m, rows_m, rfl, len_m, cap_m, max_m, leaf_m, at_m⟩ := arg_slice (n := 6) Try.underlying43 (by kernel_rfl) (by kernel_rfl) (by rw [show Try.prog.cellsOf 49 = 4 by kernel_rfl]; decide) (hval 1 43 v1 rfl rfl) h1
    rw [show flat Try.prog 6 49 = [3, 3, 3, 28] by kernel_rfl] at leaf_m
    rw [show Try.prog.cellsOf 49 = 4 by kernel_rfl] at at_m
    obtain ⟨os, hos, hlas⟩ := las_arg leaf_l at_l
    have hn : os.length = n_l := hos.trans len_l
    subst hn
    obtain ⟨ps, hps, hpas⟩ := pas_arg leaf_m at_m
    have hn2 : ps.length = n_m := hps.trans len_m
    subst hn2
    have hm1 : os.length ≤ 9223372036854775807 := by unfold maxLen at max_l; omega
    have hm2 : ps.length ≤ 9223372036854775807 := by unfold maxLen at max_m; omega
    cases hs : smallB os ps
    · exact comes_no A_l A_m c_l c_m os ps W hlas hpas hm1 hm2 hs
    · exact comes_ok A_l A_m c_l c_m os ps W hlas hpas hm1 hm2 hs

theorem gvtComes_holds : Rows.GvtComesSaid :=
  OpenClaim.holds_of_wide 6 Try.f6 rfl rfl rfl rfl rfl rfl rfl ⟨rfl, rfl, rfl, rfl, rfl⟩ rfl rfl rfl rfl rfl (by kernel_rfl) Try.func6 (by kernel_rfl)
    (of_decide_eq_true (by kernel_rfl)) (by unfold Func.isWrapper; first | (rw [if_pos (by decide +kernel)]; kernel_rfl) | (rw [if_neg (by decide +kernel)]; exact ⟨rfl, rfl⟩))
    (fun os started H enc _ => gvtComes_lifted os started H enc)
end Go.Proofs.Ytegffmnenicldaa
