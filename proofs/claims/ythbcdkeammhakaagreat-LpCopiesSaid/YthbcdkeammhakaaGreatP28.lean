/- Chapter 13: LpG. -/
import Derived.Test.YthbcdkeammhakaaGreatP27
import Derived.Test.YthbcdkeammhakaaGreatP23
set_option maxRecDepth 100000
set_option maxHeartbeats 16000000
namespace Go.Proofs.YthbcdkeammhakaaGreat
open Go.RowKit
attribute [local go_sem ↓] Go.wp_at_zero Go.wp_at_succ
theorem goback_any (c : LC) (y : PV) (p : LPs) (N : Nat) (b0 : Int) (pre post : List (Int × St)) (s : Int × St) (w : World) (h : SLP w c y p) (hg : GoodP c p N) (hN : N ≤ 90000) (hq : p.q.length ≤ 50000) (hsv : p.sv = pre ++ s :: post) (h1 : ∀ z ∈ pre ++ [s], z.1 < b0) (h2 : ∀ z, post.head? = some z → ¬ z.1 < b0) :
  Calls Tryz.prog 69 #[.pointer (some ⟨y.g, 0, none⟩), .int .i64 b0] w (GoBackP c y (N + 1000) (backMs c p b0) (backL c p b0 pre s) w) := by
 have hup := upTo_split h1 h2
 have hsvl := hg.svl
 have hlen : p.sv.length = pre.length + 1 + post.length := by rw [hsv]; simp; omega
 have HCUT : Hid (Calls Tryz.prog 116 #[.pointer (some ⟨y.gr, 0, none⟩), .int .i64 b0] w fun e w' => e = .returned (.int .i64 (p.sv.length - (pre.length + 1) : Nat)) ∧ ∃ v', RS.SRow w' y.gr v' (pre ++ [s]) ∧ Keep (RS.foot y.gr y.v4) w w' ∧ RS.Later w y.v4 v') := Lib.hid (by
  have := RS.cut_any y.gr y.v4 p.sv b0 w h.sr (by omega) (by omega)
  rw [hsv, hup, show max (pre.length + 1) 1 = pre.length + 1 by omega, show (pre ++ s :: post).take (pre.length + 1) = pre ++ [s] by rw [show pre ++ s :: post = (pre ++ [s]) ++ post by simp, List.take_left' (by simp)]] at this
  rw [hsv]
  exact this)
 have HLAST : Hid (∀ W v, RS.SRow W y.gr v (pre ++ [s]) → Calls Tryz.prog 117 #[.pointer (some ⟨y.gr, 0, none⟩), .int .i64 b0] W fun e w' => e = .returned (.tuple #[.int .i64 s.1, s.2.val, .int .i64 0]) ∧ Fresh W w') := Lib.hid fun W v hr => by
  have hu2 : RS.upTo (pre ++ [s]) b0 = pre.length + 1 := upTo_split (post := []) h1 (fun z hz => by cases hz)
  exact RS.last_some y.gr v (pre ++ [s]) b0 s W hr (by omega) (by rw [hu2]; simp)
 have c0 := fun i => (h.blk.cell i).trans (lcells_at c y p i)
 have l0 := h.blk.lt
 have HH := Lib.hid h
 have HG := Lib.hid hg
 have HSOK : Hid (OkS s.2) := Lib.hid (hg.svok s (by rw [hsv]; simp))
 have HG1 : Hid (GoodP c { p with sv := pre ++ [s], now := s.1, st := s.2, since := 0 } (N + 1000)) := Lib.hid (by
  have hal := above_le p.l s.1
  have hll := hg.ll
  have hsub : ∀ z ∈ pre ++ [s], z ∈ p.sv := fun z hz => by rw [hsv]; rcases List.mem_append.1 hz with hz | hz <;> simp_all
  have hpw := hg.svr
  rw [hsv, show pre ++ s :: post = (pre ++ [s]) ++ post by simp, List.pairwise_append] at hpw
  refine ⟨hg.srt, hg.ll, hg.lm, hg.ev, HSOK.out, by simp, fun z hz => ?_, fun z hz => hg.svok z (hsub z hz), hpw.1, by show (pre ++ [s]).length + above p.l s.1 ≤ _; rw [List.length_append]; simp only [List.length_singleton]; omega, ⟨Int.le_refl _, by show (0 : Int) + (above p.l s.1 : Nat) ≤ _; omega⟩, hg.cid, hg.md⟩
  rcases List.mem_append.1 hz with hz | hz
  ·have h3 := hpw.1
   rw [List.pairwise_append] at h3
   exact Int.le_of_lt (h3.2.2 z hz s (by simp))
  ·rw [List.mem_singleton.1 hz]; exact Int.le_refl _)
 obtain ⟨stt, ⟨s0, s1, s2, s3⟩⟩ := s
 unfold St.val at HLAST
 simp only at HLAST
 clear h hg HSOK hup hsv h1 h2
 go_enter Tryz.func69, Tryz.ntmps69
 go_upto_region 3 with (first
  | (go_at_call 116; (with_reducible refine HCUT.out.mono ?_); rintro e w1 ⟨rfl, v4', sr1, k1, n1⟩; obtain ⟨a1, t1⟩ := HH.out.turnR sr1 k1 n1; have A1 := Lib.hid a1; have T1 := Lib.hid t1; have SR1 := Lib.hid sr1; have bl1 : Blk w1 y.g 103 _ := a1.blk; have c1 := fun i => (bl1.cell i).trans (lcells_at c _ _ i); have m1 := bl1.lt; clear a1 t1 sr1 k1 n1 bl1)
  | (go_at_call 117; (with_reducible refine (HLAST.out _ _ SR1.out).mono ?_); rintro e w2 ⟨rfl, f2⟩; have A2 := Lib.hid (A1.out.fresh f2); have T2 := Lib.hid (T1.out.two (LTurn.fresh f2)); have bl2 : Blk w2 y.g 103 _ := (A1.out.fresh f2).blk; have c2 := fun i => (bl2.cell i).trans (lcells_at c _ _ i); have g2 := bl2.frozen; have m2 := bl2.lt; clear f2 bl2))
 go_wp2_with fail
 have P0S : Hid (∀ W y, SLP W c y { p with sv := pre ++ [(stt, ⟨s0, s1, s2, s3⟩)] } → SLP ((((((W.setCell ⟨y.g, 7, none⟩ (.int .i64 stt)).setCell ⟨y.g, 8, none⟩ (.int .i64 s0)).setCell ⟨y.g, 9, none⟩ (.int .i64 s1)).setCell ⟨y.g, 10, none⟩ (.int .i64 s2)).setCell ⟨y.g, 11, none⟩ (.int .i64 s3)).setCell ⟨y.g, 12, none⟩ (.int .i64 0)) c y { p with sv := pre ++ [(stt, ⟨s0, s1, s2, s3⟩)], now := stt, st := ⟨s0, s1, s2, s3⟩, since := 0 }) := Lib.hid (fun W y a0 => by
  have a1 := a0.set 7 (.int .i64 stt) { p with sv := pre ++ [(stt, ⟨s0, s1, s2, s3⟩)], now := stt } rfl rfl rfl rfl rfl
  have a2 := a1.set 8 (.int .i64 s0) { p with sv := pre ++ [(stt, ⟨s0, s1, s2, s3⟩)], now := stt, st := { p.st with s0 := s0 } } rfl rfl rfl rfl rfl
  have a3 := a2.set 9 (.int .i64 s1) { p with sv := pre ++ [(stt, ⟨s0, s1, s2, s3⟩)], now := stt, st := { p.st with s0 := s0, s1 := s1 } } rfl rfl rfl rfl rfl
  have a4 := a3.set 10 (.int .i64 s2) { p with sv := pre ++ [(stt, ⟨s0, s1, s2, s3⟩)], now := stt, st := { p.st with s0 := s0, s1 := s1, s2 := s2 } } rfl rfl rfl rfl rfl
  have a5 := a4.set 11 (.int .i64 s3) { p with sv := pre ++ [(stt, ⟨s0, s1, s2, s3⟩)], now := stt, st := ⟨s0, s1, s2, s3⟩ } rfl rfl rfl rfl rfl
  exact a5.set 12 (.int .i64 0) _ rfl rfl rfl rfl rfl)
 go_loopg [5, 6, 7, 8] (above p.l stt) (fun gk u5 u6 u7 u8 wr => ∃ P y', gk = above P.l P.now ∧ SLP wr c y' P ∧ LTurn w wr y y' ∧ GoodP c P (N + 1000) ∧ P.q = p.q ∧ coastT c b0 P = coastT c b0 { p with sv := pre ++ [(stt, ⟨s0, s1, s2, s3⟩)], now := stt, st := ⟨s0, s1, s2, s3⟩, since := 0 })
 case atStart =>
  refine ⟨_, { y with v4 := v4' }, rfl, P0S.out w2 { y with v4 := v4' } A2.out, T2.out.two ?_, HG1.out, rfl, rfl⟩
  exact (((((LTurn.set { y with v4 := v4' } w2 7 _).two (LTurn.set { y with v4 := v4' } _ 8 _)).two (LTurn.set { y with v4 := v4' } _ 9 _)).two (LTurn.set { y with v4 := v4' } _ 10 _)).two (LTurn.set { y with v4 := v4' } _ 11 _)).two (LTurn.set { y with v4 := v4' } _ 12 _)
 case round =>
  obtain ⟨P, y', rfl, hS, hT, hGP, hPq, hco⟩ := hrel
  have HS := Lib.hid hS
  have HT := Lib.hid hT
  have HGP := Lib.hid hGP
  have HPQ := Lib.hid hPq
  have HCO := Lib.hid hco
  have hg' : y'.g = y.g := hT.g
  have HNX : Hid (Calls Tryz.prog 40 #[.pointer (some ⟨y.g, 0, none⟩)] wr (NextP (nextE P.l P.now) wr)) := Lib.hid (by
   have := lnext_any c y' P wr hS (by have := hGP.ll; omega)
   rw [hg'] at this
   exact this)
  clear hS hT hPq hco A1 T1 SR1 A2 T2 P0S c0 l0 c1 m1 c2 g2 m2 HH HG
  have HGY := Lib.hid hg'
  clear hg'
  obtain ⟨ne, hne⟩ : ∃ ne, nextE P.l P.now = ne := ⟨_, rfl⟩
  have HNE := Lib.hid hne
  rw [hne] at HNX
  unfold NextP at HNX
  clear hne
  have REST : Hid ((∀ x, nx P.l P.now = some x → b0 ≤ x) → backL c p b0 pre (stt, ⟨s0, s1, s2, s3⟩) = { P with q := if c.lz then doubt b0 p.q else stay (backP b0) p.q }) := Lib.hid (fun h => by
   unfold backL
   rw [← HCO.out, coastT_stop c h])
  have GEND : Hid (GoodP c { P with q := if c.lz then doubt b0 p.q else stay (backP b0) p.q } (N + 1000)) := Lib.hid (by
   have g := HGP.out
   exact ⟨g.srt, g.ll, g.lm, g.ev, g.st, g.ne, g.last, g.svok, g.svr, g.svl, g.since, g.cid, g.md⟩)
  have HBK : Hid (∀ W, Fresh wr W → Calls Tryz.prog 118 #[.pointer (some ⟨y'.go, 0, none⟩), .int .i64 b0, .bool c.lz] W fun e w' => ∃ va y5, e = .returned va ∧ OwnS w' 43 8 va (backMs c p b0).length (rcells (backMs c p b0)) ∧ SLP w' c y5 { P with q := if c.lz then doubt b0 p.q else stay (backP b0) p.q } ∧ LTurn w w' y y5 ∧ ∀ k, va.ownBlock = some k → w.heap.size ≤ k) := Lib.hid fun W f => by
   have hT0 := HT.out.two (LTurn.fresh (y := y') f)
   have hsz := hT0.keep.size
   unfold backMs
   cases hlz : c.lz with
   | false =>
    simp only [Bool.false_eq_true, if_false]
    refine (back_any y'.go y'.v3 P.q b0 W (HS.out.fresh f).oq (by rw [HPQ.out]; omega)).mono ?_
    rintro e w' ⟨va, v3', h1, h2, h3, h4, h5⟩
    obtain ⟨a1, a2⟩ := (HS.out.fresh f).turnO h3 h4
    rw [HPQ.out] at h2 a1
    exact ⟨va, _, h1, h2, a1, hT0.two a2, fun k hk => Nat.le_trans hsz (h5 k hk)⟩
   | true =>
    simp only [if_true]
    refine (backL_any y'.go y'.v3 P.q b0 W (HS.out.fresh f).oq (by rw [HPQ.out]; omega)).mono ?_
    rintro e w' ⟨h1, h3, h4⟩
    obtain ⟨a1, a2⟩ := (HS.out.fresh f).turnO h3 h4
    rw [HPQ.out] at a1
    exact ⟨_, _, h1, OwnS.nil _ _ _, a1, hT0.two a2, fun k hk => by simp [Value.ownBlock] at hk⟩
  have HASK : Hid (∀ W xa, Fresh wr W → Calls Tryz.prog 53 #[.pointer (some ⟨y.g, 0, none⟩), .int .i64 xa] W (fun en w' => ∃ v', en = .returned (.tuple #[(runP c.md c.id P.st (bat P.l xa)).1.val, v']) ∧ Fresh W w')) := Lib.hid fun W xa f => by
   have := ask_any c y' P xa W (HS.out.fresh f) HGP.out.ll HGP.out.cid HGP.out.md HGP.out.st HGP.out.ev
   rw [HGY.out] at this
   exact this.mono fun en w' h => by
    obtain ⟨v', h1, _, h3, _⟩ := h
    exact ⟨v', h1, h3⟩
  have HRAN : Hid (∀ W xa s, nx P.l P.now = some xa → xa ≤ 1073741824 → Fresh wr W → Calls Tryz.prog 55 #[.pointer (some ⟨y.g, 0, none⟩), .int .i64 xa, s.val] W fun e w' => e = .returned (.tuple #[]) ∧ ∃ y5, SLP w' c y5 (ranL c P xa s) ∧ LTurn W w' y' y5) := Lib.hid fun W xa s hxa hxm f => by
   have g := HGP.out
   have h1 := g.svl
   have h2 := g.since
   have h4 := g.last (P.sv.getLast g.ne) (List.getLast_mem g.ne)
   have h5 := (nx_some g.srt hxa).1
   have h6 : P.sv.dropLast.length ≤ 100000 := by rw [List.length_dropLast]; omega
   have := ran_any c y' P xa s W (HS.out.fresh f) P.sv.dropLast (P.sv.getLast g.ne) (List.dropLast_concat_getLast g.ne).symm (by omega) hxm h6 (by omega)
   rw [HGY.out] at this
   exact this
  have HNXT : Hid (∀ x, nextE P.l P.now = some x → nx P.l P.now = some x.a ∧ x.a ≤ 1073741824) := Lib.hid fun x hx => by
   have e : nx P.l P.now = some x.a := by unfold nx; rw [hx]; rfl
   obtain ⟨_, ⟨z, hz, hza⟩, _⟩ := nx_some HGP.out.srt e
   have := (HGP.out.ev z hz).2.2
   exact ⟨e, by omega⟩
  cases ne with
  | none =>
   have HEQ := Lib.hid (REST.out (fun x hx => by unfold nx at hx; rw [HNE.out] at hx; cases hx))
   clear HASK HRAN HNXT REST
   go_wp2_with (go_at_call 40; (with_reducible refine HNX.out.mono ?_); rintro e w3 ⟨rfl, f3⟩; have F3 := Lib.hid f3; have bl3 : Blk w3 y'.g 103 _ := (HS.out.fresh f3).blk; rw [HGY.out] at bl3; have c3 := fun i => (bl3.cell i).trans (lcells_at c _ _ i); have l3 := bl3.lt; clear f3 bl3)
   go_still_tail 9, (by kernel_rfl)
   change wpList _ _ _ _ _ w3.drew
   go_wp2_with (go_at_call 118; (with_reducible refine (HBK.out _ F3.out.drew).mono ?_); rintro e w5 ⟨va, y5, rfl, o5, s5, t5, n5⟩)
   go_returns
   exact ⟨va, y5, rfl, o5, (by rw [HEQ.out]; exact s5), t5, (by rw [HEQ.out]; exact GEND.out), n5⟩
  | some x =>
   obtain ⟨hx1, hx2⟩ := HNXT.out x HNE.out
   by_cases hxb : b0 ≤ x.a
   ·have HEQ := Lib.hid (REST.out (fun x' hx' => by rw [hx1] at hx'; injection hx' with hx'; omega))
    have t1 : decide (b0 ≤ x.a) = true := decide_eq_true hxb
    clear HASK HRAN HNXT REST hx1 hx2 hxb
    go_wp2_with (go_at_call 40; (with_reducible refine HNX.out.mono ?_); rintro e w3 ⟨rfl, f3⟩; have F3 := Lib.hid f3; have bl3 : Blk w3 y'.g 103 _ := (HS.out.fresh f3).blk; rw [HGY.out] at bl3; have c3 := fun i => (bl3.cell i).trans (lcells_at c _ _ i); have l3 := bl3.lt; clear f3 bl3)
    go_still_tail 9, (by kernel_rfl)
    change wpList _ _ _ _ _ w3.drew
    go_wp2_with (go_at_call 118; (with_reducible refine (HBK.out _ F3.out.drew).mono ?_); rintro e w5 ⟨va, y5, rfl, o5, s5, t5, n5⟩)
    go_returns
    exact ⟨va, y5, rfl, o5, (by rw [HEQ.out]; exact s5), t5, (by rw [HEQ.out]; exact GEND.out), n5⟩
   ·have t1 : decide (b0 ≤ x.a) = false := decide_eq_false hxb
    have HXN := Lib.hid hx1
    have HXM := Lib.hid hx2
    have HXB := Lib.hid hxb
    have HS2 := Lib.hid (fun W s f => HRAN.out W x.a s hx1 hx2 f)
    clear HRAN HNXT REST hx1 hx2 hxb HBK GEND
    have HAX := Lib.hid (fun W f => HASK.out W x.a f)
    obtain ⟨r, hr⟩ : ∃ r, (runP c.md c.id P.st (bat P.l x.a)).1 = r := ⟨_, rfl⟩
    have HR := Lib.hid hr
    rw [hr] at HAX
    clear hr HASK
    obtain ⟨r0, r1, r2, r3⟩ := r
    have HRN := Lib.hid (fun W f => HS2.out W ⟨r0, r1, r2, r3⟩ f)
    unfold St.val at HAX HRN
    simp only at HAX HRN
    clear HS2
    go_wp2_with (first
     | (go_at_call 40; (with_reducible refine HNX.out.mono ?_); rintro e w3 ⟨rfl, f3⟩; have F3 := Lib.hid f3; clear f3)
     | (go_at_call 53; (with_reducible refine (HAX.out _ F3.out).mono ?_); rintro e w4 ⟨v4, rfl, f4⟩; have F4 := Lib.hid (F3.out.step f4 (fun _ _ h => h)); clear f4)
     | (go_at_call 55; (with_reducible refine (HRN.out _ (F4.out.alloc _)).mono ?_); rintro e w5 ⟨rfl, y5, s5, t5⟩; have S5 := Lib.hid s5; have T5 := Lib.hid (HT.out.two ((LTurn.fresh (y := y') (F4.out.alloc _)).two t5)); have G5 : Hid (y5.g = y.g) := Lib.hid T5.out.g; have bl5 : Blk w5 y5.g 103 _ := s5.blk; rw [G5.out] at bl5; have c5 := fun i => (bl5.cell i).trans (lcells_at c _ _ i); have f5 := bl5.frozen; have l5 := bl5.lt; clear s5 t5 bl5))
    go_roundg (above P.l x.a)
    case measure => exact above_lt (nx_some HGP.out.srt HXN.out).1 (nx_some HGP.out.srt HXN.out).2.1
    case rel =>
     have a := S5.out.set 15 (.int .i64 (wrap64 ((ranL c P x.a ⟨r0, r1, r2, r3⟩).coasted + 1))) (coast1 c P x.a) (by unfold coast1; rw [HR.out]; rfl) rfl rfl rfl (by unfold coast1; rw [HR.out])
     have b := LTurn.set y5 w5 15 (.int .i64 (wrap64 ((ranL c P x.a ⟨r0, r1, r2, r3⟩).coasted + 1)))
     rw [G5.out] at a b
     exact ⟨_, y5, rfl, a, T5.out.two b, coast_good HGP.out HXN.out, HPQ.out, (coastT_step c HGP.out.srt HXN.out (by have := HXB.out; omega)).symm.trans HCO.out⟩
end Go.Proofs.YthbcdkeammhakaaGreat
