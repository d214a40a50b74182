/-
  The law's work: a worker takes an open time away, and sends.
-/
import Derived.Test.YtegffmnenicldaaPick
namespace Go.Proofs.Ytegffmnenicldaa
open Go.RowKit Go.Maps
attribute [local go_sem ↓] Go.wp_at_zero Go.wp_at_succ run_min

theorem sends_snoc (w : Nat) (at_ d : Int) : ∀ (l : List Int) (x : WS), x.sends w at_ (l ++ [d]) = (x.sends w at_ l).send w ((x.sends w at_ l).w.getD w ⟨0, [], 0⟩) at_ d
  | [], _ => rfl
  | a :: l, x => by
    simp only [List.cons_append, WS.sends]
    exact sends_snoc w at_ d l _
def WS.workW (x : WS) (w : Nat) (which : Int) (later : List Int) : WS := if (x.o.getD w []).length = 0 then x else x.work w (pickN which (x.o.getD w []).length) later
theorem send_skip {x : WS} {w : Nat} {g : GW} {at_ d : Int} (h : d < 0 ∨ 1000 < d ∨ 1073741824 < at_ + d) : x.send w g at_ d = x := by unfold WS.send; rw [if_pos h]
theorem send_is {y : WS} {wi n : Nat} {g : GW} {at_ dd r : Int} {k : Nat} (hW : WI n k y) (hg : y.w[wi]? = some g) (hr : ((wi : Int) + dd).tmod (n : Int) = r) (hs : ¬ (dd < 0 ∨ 1000 < dd ∨ 1073741824 < at_ + dd)) (hat : 0 ≤ at_) : y.send wi (y.w.getD wi ⟨0, [], 0⟩) at_ dd = ⟨y.w.set wi ⟨g.no, g.l ++ [(y.sent, at_ + dd)], g.low⟩, y.o, y.l ++ [⟨0, (wi : Int), r, y.sent, at_ + dd⟩], y.m, y.sent + 1, false⟩ := by
  have e : y.w.getD wi ⟨0, [], 0⟩ = g := by rw [List.getD_eq_getElem?_getD, hg]; rfl
  unfold WS.send
  rw [if_neg hs, e, sent_ok hW.sn.1 (by omega) (fun p hp => (hW.sk g (List.mem_of_getElem? hg) p hp).1), hW.wl, hr, hW.bad]
  simp
set_option maxRecDepth 100000 in
set_option maxHeartbeats 8000000 in
theorem work_any {w W : World} {gx gm gr n K k : Nat} {gs bs : List Nat} {vos : List Value} {vw vo vl : Value} {x : WS} (h : SW w gx gs bs vos vw vo vl gm gr n K x W) (hx : WI n k x) (wi : Nat) (hw : wi < n) (which : Int) (A : Option Addr) (c : Nat) (later : List Int) (ha : IntsAt w A later) (hla : later.length ≤ 5) (hk : k ≤ 90000) (hK : K ≤ 90000) :
    Calls Try.prog 39 #[.pointer (some ⟨gx, 0, none⟩), .int .i64 wi, .int .i64 which, .slice A later.length c] W fun e w' => e = .returned (.tuple #[]) ∧ ∃ vos' vl' K', K' ≤ K + 5 ∧ SW w gx gs bs vos' vw vo vl' gm gr n K' (x.workW wi which later) w' := by
  obtain ⟨i0, hi, hz0, hz1, hz2⟩ := info_parts info_packet
  have h05 : Hid (0 < 5) := Lib.hid (by omega)
  have hno := h.ln.2.2.2
  obtain ⟨l, hl0⟩ : ∃ l, x.o[wi]? = some l := ⟨_, List.getElem?_eq_getElem (by omega)⟩
  have hll := (hx.ot l (List.mem_of_getElem? hl0)).1
  obtain ⟨v, hv, ov⟩ := h.os wi l hl0
  have HS := Lib.hid h
  have HX := Lib.hid hx
  have HA := Lib.hid ha
  have HL := Lib.hid hl0
  have OV := Lib.hid ov
  have HV := Lib.hid hv
  obtain ⟨go, offo, co, rfl, lgo, hco1, hco2, hco⟩ := h.oo.form (by omega)
  have hco2 : co ≤ 9223372036854775807 := by unfold maxLen at hco2; omega
  have cv := hco _ _ hv
  have zo := h.oo.at_
  obtain ⟨Av, cap, rfl, hcv, hmv⟩ := ov.shape
  have hmv : cap ≤ 9223372036854775807 := by unfold maxLen at hmv; omega
  have cx := h.bx.cell
  have lx := h.bx.lt
  have w0 : (0 : Int) ≤ (wi : Int) := by omega
  have w1 : (wi : Int) < (n : Int) := by omega
  have hgd : x.o.getD wi [] = l := by rw [List.getD_eq_getElem?_getD, hl0]; rfl
  unfold WS.workW
  rw [hgd]
  clear h hx ha hl0 ov hv hco hgd
  by_cases hz : l.length = 0
  · rw [if_pos hz]
    have tz : ((l.length : Int) == 0) = true := by rw [beq_iff_eq]; omega
    clear hz
    go_enter Try.func39, Try.ntmps39
    go_wp2_with fail
    refine bodyPost_ret (results_none rfl _ _ _) rfl ?_
    exact ⟨rfl, vos, vl, K, by omega, HS.out⟩
  · rw [if_neg hz]
    have tz : ((l.length : Int) == 0) = false := by rw [beq_eq_false_iff_ne]; omega
    obtain ⟨j, hj, hpj, hp1, hp2⟩ := pick_at which l.length (by omega)
    have hpn : pickN which l.length = j := by unfold pickN; rw [hpj]; simp
    rw [hpn]
    have t4 : ¬ (l.length : Int) = 0 := by omega
    have j0 : (0 : Int) ≤ (j : Int) := by omega
    have j1 : (j : Int) < (l.length : Int) := by omega
    obtain ⟨TM, hTM⟩ : ∃ TM, which.tmod (l.length : Int) = TM := ⟨_, rfl⟩
    rw [hTM] at hpj hp1 hp2
    have hwt : IntKind.i64.wrap (TM + (l.length : Int)) = TM + (l.length : Int) := IntWalk.i64_in _ (by omega)
    have hww : IntKind.i64.wrap TM = TM := IntWalk.i64_in _ (by omega)
    have hwj : IntKind.i64.wrap (j : Int) = (j : Int) := IntWalk.i64_in _ (by omega)
    obtain ⟨at_, hat⟩ : ∃ at_, l[j]? = some at_ := ⟨_, List.getElem?_eq_getElem hj⟩
    obtain ⟨gv, offv, _, hvv, lgv, _, _, hcc⟩ := OV.out.form (by omega)
    injection hvv with e1 e2 e3
    subst e1 e3
    have ct := hcc _ _ (show (ints l)[j]? = some (.int .i64 at_) by rw [ints, List.getElem?_map, hat]; rfl)
    have HAT := Lib.hid hat
    clear hpn hz hcc hat e2
    go_enter Try.func39, Try.ntmps39
    go_wp2_with fail
    have hat0 := (HX.out.ot l (List.mem_of_getElem? HL.out)).2 at_ (List.mem_of_getElem? HAT.out)
    go_loopg [11] later.length (fun gk u wr => ∃ (q : Nat) (v : Value), q ≤ later.length ∧ gk = later.length - q ∧ u = .int .i64 q ∧ SW w gx gs bs vos vw (.slice (some ⟨go, offo, none⟩) n co) v gm gr n (K + q) (x.sends wi at_ (later.take q)) wr ∧ WI n (k + q) (x.sends wi at_ (later.take q)))
    case atStart => exact ⟨0, vl, by omega, rfl, rfl, HS.out, HX.out⟩
    case round =>
      obtain ⟨q, v, hq, rfl, rfl, hS, hW⟩ := hrel
      clear cx lx cv ct
      by_cases hlq : q < later.length
      · obtain ⟨dd, hdd⟩ : ∃ dd, later[q]? = some dd := ⟨_, List.getElem?_eq_getElem hlq⟩
        obtain ⟨ba, offa, rfl, lta, cd⟩ := HA.out q dd hdd
        have cd := hS.f.cell_ cd
        have lta2 := Nat.lt_of_lt_of_le lta hS.f.size
        have htk : x.sends wi at_ (later.take (q + 1)) = (x.sends wi at_ (later.take q)).send wi ((x.sends wi at_ (later.take q)).w.getD wi ⟨0, [], 0⟩) at_ dd := by
          rw [List.take_add_one, hdd, Option.toList_some, sends_snoc]
        have HTK := Lib.hid htk
        have q1 : (q : Int) < (later.length : Int) := by omega
        have SR := Lib.hid hS
        have WR := Lib.hid hW
        clear hdd htk hS hW
        by_cases hd1 : dd < 0
        · have t1 : decide (dd < 0) = true := decide_eq_true hd1
          have HSK := Lib.hid (show dd < 0 ∨ 1000 < dd ∨ 1073741824 < at_ + dd from .inl hd1)
          clear hd1
          go_wp2_with fail
          go_roundg (later.length - (q + 1))
          case measure => omega
          case rel => exact ⟨q + 1, v, by omega, rfl, by go_num, by rw [HTK.out, send_skip HSK.out]; exact SR.out.more, by rw [HTK.out, send_skip HSK.out]; exact WR.out.more⟩
        · have t1 : decide (dd < 0) = false := decide_eq_false hd1
          by_cases hd2 : 1000 < dd
          · have t2 : decide (1000 < dd) = true := decide_eq_true hd2
            have HSK := Lib.hid (show dd < 0 ∨ 1000 < dd ∨ 1073741824 < at_ + dd from .inr (.inl hd2))
            clear hd1 hd2
            go_wp2_with fail
            go_roundg (later.length - (q + 1))
            case measure => omega
            case rel => exact ⟨q + 1, v, by omega, rfl, by go_num, by rw [HTK.out, send_skip HSK.out]; exact SR.out.more, by rw [HTK.out, send_skip HSK.out]; exact WR.out.more⟩
          · have t2 : decide (1000 < dd) = false := decide_eq_false hd2
            have hwa : IntKind.i64.wrap (at_ + dd) = at_ + dd := IntWalk.i64_in _ (by omega)
            by_cases hd3 : 1073741824 < at_ + dd
            · have t3 : decide (1073741824 < at_ + dd) = true := decide_eq_true hd3
              have HSK := Lib.hid (show dd < 0 ∨ 1000 < dd ∨ 1073741824 < at_ + dd from .inr (.inr hd3))
              clear hd1 hd2 hd3
              go_wp2_with fail
              go_roundg (later.length - (q + 1))
              case measure => omega
              case rel => exact ⟨q + 1, v, by omega, rfl, by go_num, by rw [HTK.out, send_skip HSK.out]; exact SR.out.more, by rw [HTK.out, send_skip HSK.out]; exact WR.out.more⟩
            · have t3 : decide (1073741824 < at_ + dd) = false := decide_eq_false hd3
              have HSK := Lib.hid (show ¬ (dd < 0 ∨ 1000 < dd ∨ 1073741824 < at_ + dd) from by omega)
              clear hd1 hd2 hd3
              obtain ⟨y, hy⟩ : ∃ y, x.sends wi at_ (later.take q) = y := ⟨_, rfl⟩
              rw [hy] at SR WR HTK
              have HYO : Hid (y.o = x.o) := Lib.hid (by rw [← hy]; exact (sends_o wi at_ (later.take q) x).1)
              obtain ⟨g, ga, bb, hyg, hga, hbb, hsw⟩ := SR.out.some_w hw
              have lny := SR.out.ln.2.2.1
              have hsn := WR.out.sn
              have hyl := WR.out.ln
              have hn8 := HX.out.ms.n1
              obtain ⟨Av2, cv2, rfl, hcv2, hmv2⟩ := SR.out.ol.shape
              obtain ⟨gw, offw, cw, rfl, lgw, hcw1, hcw2, hcw⟩ := SR.out.ow.form (by omega)
              have hcw2 : cw ≤ 9223372036854775807 := by unfold maxLen at hcw2; omega
              have cwi := hcw _ _ (show (ptrs gs)[wi]? = some (.pointer (some ⟨ga, 0, none⟩)) by rw [ptrs, List.getElem?_map, hga]; rfl)
              have cy := SR.out.bx.cell
              have ly := SR.out.bx.lt
              have hwd : IntKind.i64.wrap ((wi : Int) + dd) = (wi : Int) + dd := IntWalk.i64_in _ (by have := HSK.out; omega)
              obtain ⟨r, hr⟩ : ∃ r, ((wi : Int) + dd).tmod (n : Int) = r := ⟨_, rfl⟩
              have hr0 : 0 ≤ r := by rw [← hr]; exact Int.tmod_nonneg _ (by have := HSK.out; omega)
              have hrn : r < n := by rw [← hr]; exact Int.tmod_lt_of_pos _ (by omega)
              have hwr : IntKind.i64.wrap r = r := IntWalk.i64_in _ (by omega)
              have t5 : ¬ (n : Int) = 0 := by omega
              have t5' : ¬ n = 0 := by omega
              have HR := Lib.hid hr
              have HSW := Lib.hid hsw
              have HYG := Lib.hid hyg
              have HGA := Lib.hid hga
              have HBB := Lib.hid hbb
              have FA : Hid (Fresh wr (wr.alloc (.cells #[.int .i64 0, .int .i64 wi, .int .i64 r, .int .i64 y.sent, .int .i64 (at_ + dd)] 77)).drew) := Lib.hid ((Keep.refl _ wr).alloc _).drew
              have PA := Lib.hid (SR.out.fresh FA.out)
              have LO : Hid (OwnS (wr.alloc (.cells #[.int .i64 0, .int .i64 wi, .int .i64 r, .int .i64 y.sent, .int .i64 (at_ + dd)] 77)).drew 77 5 (.slice Av2 y.l.length cv2) y.l.length (pcells y.l)) := Lib.hid PA.out.ol
              have S1 : Hid (Src (wr.alloc (.cells #[.int .i64 0, .int .i64 wi, .int .i64 r, .int .i64 y.sent, .int .i64 (at_ + dd)] 77)).drew 5 (.slice (some ⟨wr.heap.size, 0, none⟩) 1 1) 1 (pcells [⟨0, (wi : Int), r, y.sent, at_ + dd⟩])) := Lib.hid (OwnS.new_ (Blk.drew (Blk.new wr 77 #[.int .i64 0, .int .i64 wi, .int .i64 r, .int .i64 y.sent, .int .i64 (at_ + dd)])) (by simp) (by unfold maxLen; omega)).src
              have g1 : y.l.length + 1 ≤ maxLen := one_le_maxLen (by omega)
              have g2 : (y.l.length + 1) * 40 ≤ 140737488355328 := by omega
              clear hy hyg hga hbb hsw hcw
              go_wp2_with fail
              go_cut [] (fun wx => ∃ v', SW w gx gs bs vos (.slice (some ⟨gw, offw, none⟩) n cw) (.slice (some ⟨go, offo, none⟩) n co) v' gm gr n (K + q) ⟨y.w, y.o, y.l ++ [⟨0, (wi : Int), r, y.sent, at_ + dd⟩], y.m, y.sent, y.bad⟩ wx)
              case first =>
                go_region_law ((refine step_append_OwnS _ (by rfl) _ _ 51 (by rfl) 77 i0 (.agg #[.int .i64 0, .int .i64 0, .int .i64 0, .int .i64 0, .int .i64 0]) 5 40 Try.underlying51 hi hz0 hz1 hz2 (by rfl) h05.out (.slice Av2 y.l.length cv2) y.l.length (pcells y.l) (by rfl) LO.out (.slice (some ⟨wr.heap.size, 0, none⟩) 1 1) 1 (pcells [⟨0, (wi : Int), r, y.sent, at_ + dd⟩]) (by rfl) S1.out (pcells_one _) g1 g2 ?_; intro v5 w5 o5 k5 n5; rw [← pcells_append] at o5; have S5 := Lib.hid (PA.out.setL (l' := y.l ++ [⟨0, (wi : Int), r, y.sent, at_ + dd⟩]) (by simpa using o5) k5 n5); have b5 := PA.out.bx.keep k5 (PA.out.ol.ne_blk PA.out.bx (by decide)); have cb5 := b5.cell; have zb5 := b5.frozen; have lb5 := b5.lt; obtain ⟨A5, c5, rfl, _, _⟩ := o5.shape; clear o5 k5 n5 b5))
                all_goals go_wp2_with fail
                all_goals go_meet
                all_goals exact ⟨_, S5.out⟩
              case rest =>
                obtain ⟨v', hS2⟩ := hcut
                have S2 := Lib.hid hS2
                clear hS2 FA PA LO S1 cy ly cwi
                have hyb := WR.out.bad
                have WK : Hid (Wk gx gw offw wi ga #[.slice (some ⟨gw, offw, none⟩) n cw, .slice (some ⟨go, offo, none⟩) n co, v', .pointer (some ⟨gm, 0, none⟩), .int .i64 y.sent, .bool false] wc.drew) := Lib.hid (by
                  have := (S2.out.fresh (Keep.refl _ wc).drew).wk hw HGA.out
                  rw [← hyb]
                  exact this)
                have y0 := fun (W : World) (h : Wk gx gw offw wi ga #[.slice (some ⟨gw, offw, none⟩) n cw, .slice (some ⟨go, offo, none⟩) n co, v', .pointer (some ⟨gm, 0, none⟩), .int .i64 y.sent, .bool false] W) (i : Nat) => h.1.cell i
                have y1 := fun (W : World) (h : Wk gx gw offw wi ga #[.slice (some ⟨gw, offw, none⟩) n cw, .slice (some ⟨go, offo, none⟩) n co, v', .pointer (some ⟨gm, 0, none⟩), .int .i64 y.sent, .bool false] W) (i : Nat) => h.1.frozen i
                have y2 := fun (W : World) (h : Wk gx gw offw wi ga #[.slice (some ⟨gw, offw, none⟩) n cw, .slice (some ⟨go, offo, none⟩) n co, v', .pointer (some ⟨gm, 0, none⟩), .int .i64 y.sent, .bool false] W) => h.1.lt
                have y3 := fun (W : World) (h : Wk gx gw offw wi ga #[.slice (some ⟨gw, offw, none⟩) n cw, .slice (some ⟨go, offo, none⟩) n co, v', .pointer (some ⟨gm, 0, none⟩), .int .i64 y.sent, .bool false] W) => h.2
                have CS : Hid (Calls Try.prog 32 #[.pointer (some ⟨ga, 0, none⟩), .int .i64 y.sent, .int .i64 (at_ + dd)] wc.drew fun e w' => e = .returned (.int .i64 0) ∧ SW w gx gs bs vos (.slice (some ⟨gw, offw, none⟩) n cw) (.slice (some ⟨go, offo, none⟩) n co) v' gm gr n (K + q + 1) ⟨y.w.set wi ⟨g.no, g.l ++ [(y.sent, at_ + dd)], g.low⟩, y.o, y.l ++ [⟨0, (wi : Int), r, y.sent, at_ + dd⟩], y.m, y.sent, y.bad⟩ w') := Lib.hid (by
                  have S3 := S2.out.fresh (Keep.refl _ wc).drew
                  obtain ⟨g2, ga2, bb2, c1, c2, c3, c4⟩ := S3.some_w hw
                  simp only at c1
                  rw [HYG.out] at c1
                  injection c1 with c1
                  rw [HGA.out] at c2
                  injection c2 with c2
                  rw [HBB.out] at c3
                  injection c3 with c3
                  subst c1 c2 c3
                  have hs0 := WR.out.sn
                  have hsk := HSK.out
                  have hsent := sent_ok (g := g) (no := y.sent) (t := at_ + dd) hs0.1 (by omega) (fun p hp => (WR.out.sk g (List.mem_of_getElem? HYG.out) p hp).1)
                  refine (sent_any ga bb (K + q) g y.sent (at_ + dd) _ c4 (by omega) (WalkArith.wf_i64 (by omega))).mono ?_
                  rintro e w' ⟨e1, e2, e3⟩
                  rw [hsent] at e1 e2
                  exact ⟨e1, S3.turnW HYG.out HGA.out HBB.out e2 (e3.more (fun _ _ h => .inr h))⟩)
                go_wp2_with fail
                go_region_held3 (fun W => Wk gx gw offw wi ga #[.slice (some ⟨gw, offw, none⟩) n cw, .slice (some ⟨go, offo, none⟩) n co, v', .pointer (some ⟨gm, 0, none⟩), .int .i64 y.sent, .bool false] W) (first | exact WK.out | exact sd | exact se)
                  ((go_at_call 32; (with_reducible refine CS.out.mono ?_); rintro e w4 ⟨rfl, h4⟩; have H4 := Lib.hid h4; have sd : Wk gx gw offw wi ga #[.slice (some ⟨gw, offw, none⟩) n cw, .slice (some ⟨go, offo, none⟩) n co, v', .pointer (some ⟨gm, 0, none⟩), .int .i64 y.sent, .bool false] w4 := (by have := h4.wk hw HGA.out; rw [← hyb]; exact this); have se : Wk gx gw offw wi ga #[.slice (some ⟨gw, offw, none⟩) n cw, .slice (some ⟨go, offo, none⟩) n co, v', .pointer (some ⟨gm, 0, none⟩), .int .i64 y.sent, .bool false] (w4.setCell ⟨gx, 5, none⟩ (.bool false)) := (by have := (h4.setX (sent := y.sent) (bad := false) 5 (.bool false) (by rw [hyb]; rfl)).wk hw HGA.out; exact this); clear h4))
                have S6 := Lib.hid (H4.out.setX (sent := y.sent) (bad := false) 5 (.bool false) (by rw [hyb]; rfl))
                have S7 := Lib.hid (S6.out.setX (sent := y.sent + 1) (bad := false) 4 (.int .i64 (y.sent + 1)) rfl)
                have c6 := S6.out.bx.cell
                have z6 := S6.out.bx.frozen
                have l6 := S6.out.bx.lt
                have hws : IntKind.i64.wrap (y.sent + 1) = y.sent + 1 := IntWalk.i64_in _ (by omega)
                obtain ⟨w6, hw6⟩ : ∃ w6, w4.setCell ⟨gx, 5, none⟩ (.bool false) = w6 := ⟨_, rfl⟩
                rw [hw6] at c6 z6 l6 S7 ⊢
                clear y0 y1 y2 y3 sd se WK CS hw6 S6
                go_wp2_with fail
                go_roundg (later.length - (q + 1))
                case measure => omega
                case rel =>
                  refine ⟨q + 1, v', by omega, rfl, by go_num, ?_, ?_⟩
                  · rw [HTK.out, send_is WR.out HYG.out HR.out HSK.out hat0.1]
                    exact S7.out
                  · rw [HTK.out]
                    exact WR.out.send (getD_some (by omega)) (by rw [HYO.out]; exact HL.out) (List.mem_of_getElem? HAT.out) (by omega)
      · obtain rfl : q = later.length := by omega
        rw [List.take_length] at hS hW
        have SR := Lib.hid hS
        have WR := Lib.hid hW
        clear hS hW
        obtain ⟨y, hy⟩ : ∃ y, x.sends wi at_ later = y := ⟨_, rfl⟩
        have HYO : Hid (y.o = x.o) := Lib.hid (by rw [← hy]; exact (sends_o wi at_ later x).1)
        have HWK : Hid (x.work wi j later = y.shut wi (l.eraseIdx j)) := Lib.hid (by
          unfold WS.work
          have e1 : x.o.getD wi [] = l := by rw [List.getD_eq_getElem?_getD, HL.out]; rfl
          have e2 : l.getD j 0 = at_ := by rw [List.getD_eq_getElem?_getD, HAT.out]; rfl
          rw [e1, e2, hy])
        rw [hy] at SR WR
        obtain ⟨u, hu, ou⟩ := SR.out.os wi l (by rw [HYO.out]; exact HL.out)
        rw [HV.out] at hu
        injection hu with hu
        subst hu
        have HOU := Lib.hid ou
        have hw0 : Hid (w.heap.size ≤ wr.heap.size) := Lib.hid SR.out.f.size
        have HWO : Hid (∀ W', Fresh wr W' → Calls Try.prog 44 #[.slice (some ⟨gv, offv, none⟩) l.length cap, .int .i64 j] W' fun e w' => ∃ v', e = .returned v' ∧ OwnS w' 3 1 v' (l.eraseIdx j).length (ints (l.eraseIdx j)) ∧ Fresh W' w' ∧ ∀ k, v'.ownBlock = some k → W'.heap.size ≤ k) := Lib.hid fun W' f => without_any _ l j W' (HOU.out.fresh f) hj (by omega)
        obtain ⟨g1, o1, c1, hve, lge, _, _, hce⟩ := SR.out.oo.form (by omega)
        injection hve with e1 e2 e3
        injection e1 with e1
        injection e1 with e4 e5 e6
        subst e4 e5
        have ce := hce _ _ HV.out
        have zz := SR.out.oo.at_
        have cxr := fun (W' : World) (f : Fresh wr W') (i : Nat) => (f.blk_ SR.out.bx).cell i
        have HCE := Lib.hid ce
        have ke := fun (W' : World) (f : Fresh wr W') => f.cell_ HCE.out
        have SS : Hid (Fresh wr wr.drew) := Lib.hid (Keep.refl _ wr).drew
        have hWO2 := Lib.hid (HWO.out wr.drew (Keep.refl _ wr).drew)
        clear hy hce e2 ou zz HWO ce
        go_wp2_with fail
        refine region_T (S := fun W => Fresh wr W) (T := [15]) (by kernel_rfl) ?_
        refine anyT_take (i := 0) (oi := _) (v := ?v0) rfl (by kernel_rfl) (by kernel_rfl) (by kernel_rfl) (by kernel_rfl) (fun _ _ _ h => h) (Or.inl ⟨by rfl, ?hy0⟩) SS.out ?rest0
        case hy0 => (intro W hSw; go_simp; try with_reducible rfl)
        try simp only [List.getElem_toArray, List.getElem_cons_zero, Act.put, List.setIfInBounds_toArray, List.set_cons_zero, List.set_cons_succ]
        refine anyT_take (i := 1) (oi := _) (v := ?v1) rfl (by kernel_rfl) (by kernel_rfl) (by kernel_rfl) (by kernel_rfl) (fun _ _ _ h => h) (Or.inl ⟨by rfl, ?hy1⟩) SS.out ?rest1
        case hy1 => (intro W hSw; go_simp; try with_reducible rfl)
        try simp only [List.getElem_toArray, List.getElem_cons_zero, List.getElem_cons_succ, Act.put, List.setIfInBounds_toArray, List.set_cons_zero, List.set_cons_succ]
        refine anyT_take (i := 2) (oi := _) (v := ?v2) rfl (by kernel_rfl) (by kernel_rfl) (by kernel_rfl) (by kernel_rfl) (fun _ _ _ h => h) (Or.inl ⟨by rfl, ?hy2⟩) SS.out ?rest2
        case hy2 => (intro W hSw; go_simp; try with_reducible rfl)
        try simp only [List.getElem_toArray, List.getElem_cons_zero, List.getElem_cons_succ, Act.put, List.setIfInBounds_toArray, List.set_cons_zero, List.set_cons_succ]
        refine anyT_take (i := 3) (oi := _) (v := ?v3) rfl (by kernel_rfl) (by kernel_rfl) (by kernel_rfl) (by kernel_rfl) (fun _ _ _ h => h) (Or.inl ⟨by rfl, ?hy3⟩) SS.out ?rest3
        case hy3 => (intro W hSw; go_simp; try with_reducible rfl)
        try simp only [List.getElem_toArray, List.getElem_cons_zero, List.getElem_cons_succ, Act.put, List.setIfInBounds_toArray, List.set_cons_zero, List.set_cons_succ]
        refine anyT_take (i := 4) (oi := _) (v := ?v4) rfl (by kernel_rfl) (by kernel_rfl) (by kernel_rfl) (by kernel_rfl) (fun _ _ _ h => h) (Or.inl ⟨by rfl, ?hy4⟩) SS.out ?rest4
        case hy4 => (intro W hSw; go_simp; try with_reducible rfl)
        try simp only [List.getElem_toArray, List.getElem_cons_zero, List.getElem_cons_succ, Act.put, List.setIfInBounds_toArray, List.set_cons_zero, List.set_cons_succ]
        refine anyT_take (i := 5) (oi := _) (v := ?v5) rfl (by kernel_rfl) (by kernel_rfl) (by kernel_rfl) (by kernel_rfl) (fun _ _ _ h => h) (Or.inl ⟨by rfl, ?hy5⟩) SS.out ?rest5
        case hy5 => (intro W hSw; go_simp; try with_reducible rfl)
        try simp only [List.getElem_toArray, List.getElem_cons_zero, List.getElem_cons_succ, Act.put, List.setIfInBounds_toArray, List.set_cons_zero, List.set_cons_succ]
        refine anyT_take (i := 6) (oi := _) (v := ?v6) rfl (by kernel_rfl) (by kernel_rfl) (by kernel_rfl) (by kernel_rfl) (fun _ _ _ h => h) (Or.inl ⟨by rfl, ?hy6⟩) SS.out ?rest6
        case hy6 => (intro W hSw; go_simp; try with_reducible rfl)
        try simp only [List.getElem_toArray, List.getElem_cons_zero, List.getElem_cons_succ, Act.put, List.setIfInBounds_toArray, List.set_cons_zero, List.set_cons_succ]
        refine anyT_take (i := 7) (oi := _) (v := ?v7) rfl (by kernel_rfl) (by kernel_rfl) (by kernel_rfl) (by kernel_rfl) (fun _ _ _ h => h) (Or.inl ⟨by rfl, ?hy7⟩) SS.out ?rest7
        case hy7 => (intro W hSw; go_simp; try with_reducible rfl)
        try simp only [List.getElem_toArray, List.getElem_cons_zero, List.getElem_cons_succ, Act.put, List.setIfInBounds_toArray, List.set_cons_zero, List.set_cons_succ]
        refine anyT_take (i := 8) (oi := _) (v := ?v8) rfl (by kernel_rfl) (by kernel_rfl) (by kernel_rfl) (by kernel_rfl) (fun _ _ _ h => h) (Or.inl ⟨by rfl, ?hy8⟩) SS.out ?rest8
        case hy8 => (intro W hSw; go_simp; try with_reducible rfl)
        try simp only [List.getElem_toArray, List.getElem_cons_zero, List.getElem_cons_succ, Act.put, List.setIfInBounds_toArray, List.set_cons_zero, List.set_cons_succ]
        refine anyT_take (i := 9) (oi := _) (v := ?v9) rfl (by kernel_rfl) (by kernel_rfl) (by kernel_rfl) (by kernel_rfl) (fun _ _ _ h => h) (Or.inl ⟨by rfl, ?hy9⟩) SS.out ?rest9
        case hy9 => (intro W hSw; go_simp; try with_reducible rfl)
        try simp only [List.getElem_toArray, List.getElem_cons_zero, List.getElem_cons_succ, Act.put, List.setIfInBounds_toArray, List.set_cons_zero, List.set_cons_succ]
        refine anyT_take (i := 10) (oi := _) (v := ?v10) rfl (by kernel_rfl) (by kernel_rfl) (by kernel_rfl) (by kernel_rfl) (fun _ _ _ h => h) (Or.inl ⟨by rfl, ?hy10⟩) SS.out ?rest10
        case hy10 => (intro W hSw; go_simp; try with_reducible rfl)
        try simp only [List.getElem_toArray, List.getElem_cons_zero, List.getElem_cons_succ, Act.put, List.setIfInBounds_toArray, List.set_cons_zero, List.set_cons_succ]
        refine anyT_take (i := 11) (oi := _) (v := ?v11) rfl (by kernel_rfl) (by kernel_rfl) (by kernel_rfl) (by kernel_rfl) (fun _ _ _ h => h) (Or.inl ⟨by rfl, ?hy11⟩) SS.out ?rest11
        case hy11 => (intro W hSw; go_simp; try with_reducible rfl)
        try simp only [List.getElem_toArray, List.getElem_cons_zero, List.getElem_cons_succ, Act.put, List.setIfInBounds_toArray, List.set_cons_zero, List.set_cons_succ]
        refine anyT_take (i := 12) (oi := _) (v := ?v12) rfl (by kernel_rfl) (by kernel_rfl) (by kernel_rfl) (by kernel_rfl) (fun _ _ _ h => h) (Or.inl ⟨by rfl, ?hy12⟩) SS.out ?rest12
        case hy12 => (intro W hSw; go_simp; try with_reducible rfl)
        try simp only [List.getElem_toArray, List.getElem_cons_zero, List.getElem_cons_succ, Act.put, List.setIfInBounds_toArray, List.set_cons_zero, List.set_cons_succ]
        refine anyT_one' (i := 13) (by kernel_rfl) rfl (by rfl) (fun K hK => ?_)
        go_simp
        go_at_call 44
        (with_reducible refine (hWO2.out).mono ?_)
        rintro e w5 ⟨v5, rfl, o5, f5, n5⟩
        have O5 := Lib.hid o5
        have N5 := Lib.hid n5
        have F5 : Hid (Fresh wr w5) := Lib.hid (Keep.step (S := fun _ => False) (Keep.refl _ wr).drew f5 (fun _ _ h => h))
        have S5 := Lib.hid (SR.out.fresh F5.out)
        have lgo5 := S5.out.oo.at_.1
        have ce5 := F5.out.cell_ HCE.out
        have zgo5 := S5.out.oo.at_.2.1
        obtain ⟨A5, c5, rfl, _, _⟩ := o5.shape
        clear o5 n5 f5
        refine hK.out _ _ F5.out ?_
        clear hK K
        try simp only [List.getElem_toArray, List.getElem_cons_zero, List.getElem_cons_succ, Act.put, List.setIfInBounds_toArray, List.set_cons_zero, List.set_cons_succ]
        refine anyT_take (i := 14) (oi := _) (v := ?v14) rfl (by kernel_rfl) (by kernel_rfl) (by kernel_rfl) (by kernel_rfl) (fun _ _ _ h => h) (Or.inl ⟨by rfl, ?hy14⟩) F5.out ?rest14
        case hy14 => (intro W hSw; go_simp; try with_reducible rfl)
        try simp only [List.getElem_toArray, List.getElem_cons_zero, List.getElem_cons_succ, Act.put, List.setIfInBounds_toArray, List.set_cons_zero, List.set_cons_succ]
        refine anyT_tail (k := 15) rfl (by decide) (by kernel_rfl) ?_
        simp only [List.drop_succ_cons, List.drop_zero]
        clear cxr ke
        go_wp2_with fail
        go_end0
        refine ⟨rfl, vos.set wi (.slice A5 (l.eraseIdx j).length c5), v, K + later.length, by omega, ?_⟩
        rw [HWK.out]
        refine S5.out.setO hw O5.out (fun k hk => ?_)
        have h1 := N5.out k hk
        have h1 : wr.heap.size ≤ k := h1
        refine ⟨by have := hw0.out; omega, ?_, fun i u hne hu hku => ?_⟩
        · intro he
          have h2 : gr < wr.heap.size := SR.out.m.os.lt (k := gr) rfl
          omega
        · have hin : i < n := by have := (List.getElem?_eq_some_iff.1 hu).1; have := SR.out.ln.2.1; omega
          obtain ⟨u2, hu2, ou2⟩ := SR.out.os i _ (List.getElem?_eq_getElem (by have := SR.out.ln.2.2.2; omega))
          rw [hu] at hu2
          injection hu2 with hu2
          subst hu2
          have := ou2.lt hku
          omega
end Go.Proofs.Ytegffmnenicldaa
