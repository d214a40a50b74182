/- Chapter 13: LpT, LpG, LpU, LpV. -/
import Derived.Test.YthbcdkeammhakaaGreatM13
import Derived.Test.YthbcdkeammhakaaGreatM18
import Derived.Deep.DeepCutAuto
/-
  lp.LP: Step.
-/
namespace Go.Proofs.YthbcdkeammhakaaGreat
open Go.RowKit
attribute [local go_sem ↓] Go.wp_at_zero Go.wp_at_succ
theorem anyT_two {P : Program} {md : Region.Mode} {ops : Array Oper} {Q : Exit → Act → World → Prop} {S : World → Prop} {T : List Nat} {i j : Nat} {o o' : Oper} {f : Nat} {listed : Array Bool} {a : Act} {w : World} (hr : Region.ready md ops listed = [i, j]) (ho : ops[i]? = some o) (ho' : ops[j]? = some o') (hw : Region.wanted o (yielded ops a.tmps) = true) (hw' : Region.wanted o' (yielded ops a.tmps) = true)
    (h : ∀ K : Act → World → Prop, Hid (∀ a' w', S w' → AnyT P md ops Q S T f (listed.setIfInBounds i true) a' w' → K a' w') → o.wp P a w K Q)
    (h' : ∀ K : Act → World → Prop, Hid (∀ a' w', S w' → AnyT P md ops Q S T f (listed.setIfInBounds j true) a' w' → K a' w') → o'.wp P a w K Q) : AnyT P md ops Q S T (f + 1) listed a w := by
  refine ⟨fun h0 => (by rw [hr] at h0; cases h0), fun k hk => ?_⟩
  rw [hr] at hk
  rcases List.mem_cons.1 hk with rfl | hk
  · unfold wpOp
    simp only [ho, hw, if_true]
    exact .inl (h _ (fun _ _ h1 h2 => ⟨.inr h1, h2⟩))
  · have hkj : k = j := by simpa using hk
    subst hkj
    unfold wpOp
    simp only [ho', hw', if_true]
    exact .inl (h' _ (fun _ _ h1 h2 => ⟨.inr h1, h2⟩))
/-- messages that are answered -/
def MsgsP (M : List OMsg) (w w' : World) (va : Value) : Prop := OwnS w' 43 8 va M.length (rcells M) ∧ ∀ k, va.ownBlock = some k → w.heap.size ≤ k
theorem MsgsP.mk' {M : List OMsg} {w W w' : World} {va : Value} (f : Fresh w W) (h : OwnS w' 43 8 va M.length (rcells M)) (n : ∀ k, va.ownBlock = some k → W.heap.size ≤ k) : MsgsP M w w' va := ⟨h, fun k hk => Nat.le_trans f.size (n k hk)⟩
def StepP (c : LC) (y : PV) (M : List OMsg) (er : Int) (p' : LPs) (w : World) (e : Ending) (w' : World) : Prop := ∃ va, e = .returned (.tuple #[va, .int .i64 er]) ∧ MsgsP M w w' va ∧ ∃ y', SLP w' c y' p' ∧ LTurn w w' y y'
def lpTypes : List TypeId := [103, 157, 41, 135, 137, 167, 163]
theorem SLP.not_own {w : World} {c : LC} {y : PV} {p : LPs} (h : SLP w c y p) {T : TypeId} {size n : Nat} {v : Value} {xs : List Value} (o : OwnS w T size v n xs) (hT : T ∉ lpTypes) : ∀ k, v.ownBlock = some k → ¬ lfoot y k := by
  simp only [lpTypes, List.mem_cons, List.not_mem_nil, or_false, not_or] at hT
  obtain ⟨h1, h2, h3, h4, h5, h6, h7⟩ := hT
  rintro k hk (rfl | (rfl | hf | hf) | (rfl | hf) | (rfl | hf))
  · exact o.ne_blk h.blk h1 hk
  · exact o.ne_blk h.sq.blk h2 hk
  · exact o.ne_own h.sq.own1 h3 k hk hf
  · exact o.ne_own h.sq.own2 h3 k hk hf
  · exact o.ne_blk h.oq.blk h4 hk
  · exact o.ne_own h.oq.own h5 k hk hf
  · exact o.ne_blk h.sr.blk h6 hk
  · exact o.ne_own h.sr.own h7 k hk hf
theorem SLP.not_blk {w : World} {c : LC} {y : PV} {p : LPs} (h : SLP w c y p) {T : TypeId} {g : Nat} {cs : Array Value} (b : Blk w g T cs) (hT : T ∉ lpTypes) : ¬ lfoot y g := by
  simp only [lpTypes, List.mem_cons, List.not_mem_nil, or_false, not_or] at hT
  obtain ⟨h1, h2, h3, h4, h5, h6, h7⟩ := hT
  rintro (e | (e | hf | hf) | (e | hf) | (e | hf))
  · exact b.ne_type h.blk h1 e
  · exact b.ne_type h.sq.blk h2 e
  · exact h.sq.own1.ne_blk b (Ne.symm h3) hf
  · exact h.sq.own2.ne_blk b (Ne.symm h3) hf
  · exact b.ne_type h.oq.blk h4 e
  · exact h.oq.own.ne_blk b (Ne.symm h5) hf
  · exact b.ne_type h.sr.blk h6 e
  · exact h.sr.own.ne_blk b (Ne.symm h7) hf
theorem SLP.own_turn {w w' : World} {c : LC} {y y' : PV} {p : LPs} (h : SLP w c y p) (t : LTurn w w' y y') {T : TypeId} {size n : Nat} {v : Value} {xs : List Value} (o : OwnS w T size v n xs) (hT : T ∉ lpTypes) : OwnS w' T size v n xs := o.kept t.keep (h.not_own o hT)
theorem SLP.blk_turn {w w' : World} {c : LC} {y y' : PV} {p : LPs} (h : SLP w c y p) (t : LTurn w w' y y') {T : TypeId} {g : Nat} {cs : Array Value} (b : Blk w g T cs) (hT : T ∉ lpTypes) : Blk w' g T cs := b.keep t.keep (h.not_blk b hT)
theorem step_none (c : LC) (y : PV) (p : LPs) (w : World) (h : SLP w c y p) (hl : p.l.length ≤ 100000) (hn : nextE p.l p.now = none) : Calls Tryz.prog 28 #[.pointer (some ⟨y.g, 0, none⟩)] w (StepP c y [] 14 p w) := by
  have HN := Lib.hid (lnext_any c y p w h hl)
  have H := Lib.hid h
  clear h
  rw [hn] at HN
  unfold NextP at HN
  go_enter Tryz.func28, Tryz.ntmps28
  go_wp2_with (go_at_call 40; (with_reducible refine HN.out.mono ?_); rintro e w1 ⟨rfl, f1⟩)
  go_returns
  exact ⟨_, rfl, ⟨OwnS.nil _ _ _, fun k hk => by simp [Value.ownBlock] at hk⟩, y, H.out.fresh f1, LTurn.fresh f1⟩
set_option maxRecDepth 100000 in
set_option maxHeartbeats 8000000 in
theorem step_some (c : LC) (y : PV) (p : LPs) (N : Nat) (y0 : Ev) (pre : List (Int × St)) (last : Int × St) (w : World) (h : SLP w c y p) (hg : GoodP c p N) (hN : N ≤ 90000) (hq : p.q.length ≤ 50000) (hn : nextE p.l p.now = some y0) (hsv : p.sv = pre ++ [last]) (hx : last.1 < y0.a) (hx2 : y0.a ≤ 1073741824)
    (hout : (runP c.md c.id p.st (bat p.l y0.a)).2.length ≤ 1000) (hwr : wrongE y0.a (runP c.md c.id p.st (bat p.l y0.a)).2 p.q = 0) :
    Calls Tryz.prog 28 #[.pointer (some ⟨y.g, 0, none⟩)] w (StepP c y (sentM y0.a (runP c.md c.id p.st (bat p.l y0.a)).2 p.q) 0 (stepLp c p y0.a) w) := by
  have hsvl := hg.svl
  have hsin := hg.since
  have hll := hg.ll
  have hpre : pre.length ≤ 100000 := by
    have : p.sv.length = pre.length + 1 := by rw [hsv]; simp
    omega
  have HN := Lib.hid (lnext_any c y p w h (by omega))
  rw [hn] at HN
  unfold NextP at HN
  have HASK : Hid (∀ W, Fresh w W → Calls Tryz.prog 53 #[.pointer (some ⟨y.g, 0, none⟩), .int .i64 y0.a] W (fun en w' => ∃ v', en = .returned (.tuple #[(runP c.md c.id p.st (bat p.l y0.a)).1.val, v']) ∧ OwnS w' 41 7 v' (runP c.md c.id p.st (bat p.l y0.a)).2.length (cells (runP c.md c.id p.st (bat p.l y0.a)).2) ∧ Fresh W w' ∧ ∀ k, v'.ownBlock = some k → W.heap.size ≤ k)) := Lib.hid fun W f => ask_any c y p y0.a W (h.fresh f) hll hg.cid hg.md hg.st hg.ev
  have HST : Hid (stepLp c p y0.a = { ranL c { p with q := sentQ y0.a (runP c.md c.id p.st (bat p.l y0.a)).2 p.q } y0.a (runP c.md c.id p.st (bat p.l y0.a)).1 with steps := wrap64 (p.steps + 1) }) := Lib.hid rfl
  obtain ⟨P', hP'⟩ : ∃ P', stepLp c p y0.a = P' := ⟨_, rfl⟩
  rw [hP'] at HST ⊢
  clear hP'
  obtain ⟨⟨⟨r0, r1, r2, r3⟩, out⟩, hR⟩ : ∃ R, runP c.md c.id p.st (bat p.l y0.a) = R := ⟨_, rfl⟩
  rw [hR] at HASK HST hout hwr ⊢
  unfold St.val at HASK
  simp only at HASK HST hout hwr ⊢
  clear hR
  have HSE : Hid (∀ W v, Fresh w W → EvAt W v out → Calls Tryz.prog 54 #[.pointer (some ⟨y.go, 0, none⟩), .int .i64 y0.a, v] W fun e w' => ∃ va v3', e = .returned (.tuple #[va, .int .i64 0]) ∧ MsgsP (sentM y0.a out p.q) w w' va ∧ SLP w' c { y with v3 := v3' } { p with q := sentQ y0.a out p.q } ∧ LTurn w w' y { y with v3 := v3' } ∧ Keep (ofoot y.go y.v3) W w') := Lib.hid fun W v f hv => (sent_any y.go y.v3 v p.q y0.a out W (h.fresh f).oq hv hout hq).mono fun e w' hh => by
    obtain ⟨va, v3', h1, h2, h3, h4, h5⟩ := hh
    obtain ⟨a1, a2⟩ := (h.fresh f).turnO h3 h4
    rw [hwr] at h1
    exact ⟨va, v3', h1, MsgsP.mk' f h2 h5, a1, (LTurn.fresh f).two a2, h4.keep⟩
  have HRAN : Hid (∀ W v3', SLP W c { y with v3 := v3' } { p with q := sentQ y0.a out p.q } → Calls Tryz.prog 55 #[.pointer (some ⟨y.g, 0, none⟩), .int .i64 y0.a, .agg #[.int .i64 r0, .int .i64 r1, .int .i64 r2, .int .i64 r3]] W fun e w' => e = .returned (.tuple #[]) ∧ ∃ y', SLP w' c y' (ranL c { p with q := sentQ y0.a out p.q } y0.a ⟨r0, r1, r2, r3⟩) ∧ LTurn W w' { y with v3 := v3' } y') := Lib.hid fun W v3' hs => ran_any c { y with v3 := v3' } { p with q := sentQ y0.a out p.q } y0.a ⟨r0, r1, r2, r3⟩ W hs pre last hsv hx hx2 hpre ⟨hsin.1, by show p.since ≤ 1000000; omega⟩
  have HON : Hid (∀ k, ofoot y.go y.v3 k → k < w.heap.size) := Lib.hid h.oq.lt
  have H := Lib.hid h
  have HB0 := Lib.hid h.blk
  clear h hg hsv hx hx2 hn hsvl hsin hll hpre hwr hout
  go_enter Tryz.func28, Tryz.ntmps28
  go_wp2_with (first
    | (go_at_call 40; (with_reducible refine HN.out.mono ?_); rintro e w1 ⟨rfl, f1⟩; have F1 := Lib.hid f1; clear f1)
    | (go_at_call 53; (with_reducible refine (HASK.out _ F1.out).mono ?_); rintro e w2 ⟨v2, rfl, o2, f2, n2⟩; have F2 : Hid (Fresh w w2) := Lib.hid (F1.out.step f2 (fun _ _ h => h)); have O2 := Lib.hid o2; have b2 := F2.out.blk_ HB0.out; have c2 := fun i => (b2.cell i).trans (lcells_at c y p i); have l2 := b2.lt; clear f2 o2 n2 b2)
    | (go_at_call 54; (with_reducible refine (HSE.out _ _ (F2.out.alloc _) (O2.out.evs.fresh ((Keep.refl _ _).alloc _))).mono ?_); rintro e w3 ⟨va, v3', rfl, m3, s3, t3, k3⟩; have M3 := Lib.hid m3; have S3 := Lib.hid s3; have T3 := Lib.hid t3; have bs3 := (Blk.new w2 23 #[.int .i64 r0, .int .i64 r1, .int .i64 r2, .int .i64 r3]).keep k3 (fun e => by have := HON.out _ e; have := F2.out.size; omega); have d3 := bs3.cell; have e3 := bs3.lt; clear m3 s3 t3 k3 bs3 c2 l2)
    | (go_at_call 55; (with_reducible refine (HRAN.out _ _ S3.out).mono ?_); rintro e w4 ⟨rfl, y4, s4, t4⟩; have S4 := Lib.hid s4; have T3b := Lib.hid t4; have T4 := Lib.hid (T3.out.two t4); have G4 : Hid (y4.g = y.g) := Lib.hid T4.out.g; have bl4 : Blk w4 y4.g 103 _ := s4.blk; rw [G4.out] at bl4; have c4 := fun i => (bl4.cell i).trans (lcells_at c _ _ i); have f4 := bl4.frozen; have l4 := bl4.lt; clear s4 t4 bl4 d3 e3))
  go_returns
  have a := S4.out.set 14 (.int .i64 (wrap64 ((ranL c { p with q := sentQ y0.a out p.q } y0.a ⟨r0, r1, r2, r3⟩).steps + 1))) P' (by rw [HST.out]; rfl) (by rw [HST.out]) (by rw [HST.out]) (by rw [HST.out]) (by rw [HST.out])
  have b := LTurn.set y4 w4 14 (.int .i64 (wrap64 ((ranL c { p with q := sentQ y0.a out p.q } y0.a ⟨r0, r1, r2, r3⟩).steps + 1)))
  rw [G4.out] at a b
  have d : Hid (LTurn w3 (w4.setCell ⟨y.g, 14, none⟩ (.int .i64 (wrap64 ((ranL c { p with q := sentQ y0.a out p.q } y0.a ⟨r0, r1, r2, r3⟩).steps + 1)))) { y with v3 := v3' } y4) := Lib.hid (T3b.out.two b)
  exact ⟨va, rfl, ⟨S3.out.own_turn d.out M3.out.1 (by decide), M3.out.2⟩, y4, a, T4.out.two b⟩
end Go.Proofs.YthbcdkeammhakaaGreat

/-
  lp.LP: goBack.
-/
namespace Go.Proofs.YthbcdkeammhakaaGreat
open Go.RowKit
attribute [local go_sem ↓] Go.wp_at_zero Go.wp_at_succ
set_option maxRecDepth 100000 in
set_option maxHeartbeats 8000000 in
theorem goback_any (c : LC) (y : PV) (p : LPs) (N : Nat) (b0 : Int) (pre post : List (Int × St)) (s : Int × St) (w : World) (h : SLP w c y p) (hg : GoodP c p N) (hN : N ≤ 90000) (hq : p.q.length ≤ 50000) (hsv : p.sv = pre ++ s :: post) (h1 : ∀ z ∈ pre ++ [s], z.1 < b0) (h2 : ∀ z, post.head? = some z → ¬ z.1 < b0) :
    Calls Tryz.prog 69 #[.pointer (some ⟨y.g, 0, none⟩), .int .i64 b0] w (GoBackP c y (N + 1000) (backMs c p b0) (backL c p b0 pre s) w) := by
  have hup := upTo_split h1 h2
  have hsvl := hg.svl
  have hlen : p.sv.length = pre.length + 1 + post.length := by rw [hsv]; simp; omega
  have HCUT : Hid (Calls Tryz.prog 116 #[.pointer (some ⟨y.gr, 0, none⟩), .int .i64 b0] w fun e w' => e = .returned (.int .i64 (p.sv.length - (pre.length + 1) : Nat)) ∧ ∃ v', RS.SRow w' y.gr v' (pre ++ [s]) ∧ Keep (RS.foot y.gr y.v4) w w' ∧ RS.Later w y.v4 v') := Lib.hid (by
    have := RS.cut_any y.gr y.v4 p.sv b0 w h.sr (by omega) (by omega)
    rw [hsv, hup, show max (pre.length + 1) 1 = pre.length + 1 by omega, show (pre ++ s :: post).take (pre.length + 1) = pre ++ [s] by rw [show pre ++ s :: post = (pre ++ [s]) ++ post by simp, List.take_left' (by simp)]] at this
    rw [hsv]
    exact this)
  have HLAST : Hid (∀ W v, RS.SRow W y.gr v (pre ++ [s]) → Calls Tryz.prog 117 #[.pointer (some ⟨y.gr, 0, none⟩), .int .i64 b0] W fun e w' => e = .returned (.tuple #[.int .i64 s.1, s.2.val, .int .i64 0]) ∧ Fresh W w') := Lib.hid fun W v hr => by
    have hu2 : RS.upTo (pre ++ [s]) b0 = pre.length + 1 := upTo_split (post := []) h1 (fun z hz => by cases hz)
    exact RS.last_some y.gr v (pre ++ [s]) b0 s W hr (by omega) (by rw [hu2]; simp)
  have c0 := fun i => (h.blk.cell i).trans (lcells_at c y p i)
  have l0 := h.blk.lt
  have HH := Lib.hid h
  have HG := Lib.hid hg
  have HSOK : Hid (OkS s.2) := Lib.hid (hg.svok s (by rw [hsv]; simp))
  have HG1 : Hid (GoodP c { p with sv := pre ++ [s], now := s.1, st := s.2, since := 0 } (N + 1000)) := Lib.hid (by
    have hal := above_le p.l s.1
    have hll := hg.ll
    have hsub : ∀ z ∈ pre ++ [s], z ∈ p.sv := fun z hz => by rw [hsv]; rcases List.mem_append.1 hz with hz | hz <;> simp_all
    have hpw := hg.svr
    rw [hsv, show pre ++ s :: post = (pre ++ [s]) ++ post by simp, List.pairwise_append] at hpw
    refine ⟨hg.srt, hg.ll, hg.lm, hg.ev, HSOK.out, by simp, fun z hz => ?_, fun z hz => hg.svok z (hsub z hz), hpw.1, by show (pre ++ [s]).length + above p.l s.1 ≤ _; rw [List.length_append]; simp only [List.length_singleton]; omega, ⟨Int.le_refl _, by show (0 : Int) + (above p.l s.1 : Nat) ≤ _; omega⟩, hg.cid, hg.md⟩
    rcases List.mem_append.1 hz with hz | hz
    · have h3 := hpw.1
      rw [List.pairwise_append] at h3
      exact Int.le_of_lt (h3.2.2 z hz s (by simp))
    · rw [List.mem_singleton.1 hz]; exact Int.le_refl _)
  obtain ⟨stt, ⟨s0, s1, s2, s3⟩⟩ := s
  unfold St.val at HLAST
  simp only at HLAST
  clear h hg HSOK hup hsv h1 h2
  go_enter Tryz.func69, Tryz.ntmps69
  go_upto_region 3 with (first
    | (go_at_call 116; (with_reducible refine HCUT.out.mono ?_); rintro e w1 ⟨rfl, v4', sr1, k1, n1⟩; obtain ⟨a1, t1⟩ := HH.out.turnR sr1 k1 n1; have A1 := Lib.hid a1; have T1 := Lib.hid t1; have SR1 := Lib.hid sr1; have bl1 : Blk w1 y.g 103 _ := a1.blk; have c1 := fun i => (bl1.cell i).trans (lcells_at c _ _ i); have m1 := bl1.lt; clear a1 t1 sr1 k1 n1 bl1)
    | (go_at_call 117; (with_reducible refine (HLAST.out _ _ SR1.out).mono ?_); rintro e w2 ⟨rfl, f2⟩; have A2 := Lib.hid (A1.out.fresh f2); have T2 := Lib.hid (T1.out.two (LTurn.fresh f2)); have bl2 : Blk w2 y.g 103 _ := (A1.out.fresh f2).blk; have c2 := fun i => (bl2.cell i).trans (lcells_at c _ _ i); have g2 := bl2.frozen; have m2 := bl2.lt; clear f2 bl2))
  go_wp2_with fail
  have P0S : Hid (∀ W y, SLP W c y { p with sv := pre ++ [(stt, ⟨s0, s1, s2, s3⟩)] } → SLP ((((((W.setCell ⟨y.g, 7, none⟩ (.int .i64 stt)).setCell ⟨y.g, 8, none⟩ (.int .i64 s0)).setCell ⟨y.g, 9, none⟩ (.int .i64 s1)).setCell ⟨y.g, 10, none⟩ (.int .i64 s2)).setCell ⟨y.g, 11, none⟩ (.int .i64 s3)).setCell ⟨y.g, 12, none⟩ (.int .i64 0)) c y { p with sv := pre ++ [(stt, ⟨s0, s1, s2, s3⟩)], now := stt, st := ⟨s0, s1, s2, s3⟩, since := 0 }) := Lib.hid (fun W y a0 => by
    have a1 := a0.set 7 (.int .i64 stt) { p with sv := pre ++ [(stt, ⟨s0, s1, s2, s3⟩)], now := stt } rfl rfl rfl rfl rfl
    have a2 := a1.set 8 (.int .i64 s0) { p with sv := pre ++ [(stt, ⟨s0, s1, s2, s3⟩)], now := stt, st := { p.st with s0 := s0 } } rfl rfl rfl rfl rfl
    have a3 := a2.set 9 (.int .i64 s1) { p with sv := pre ++ [(stt, ⟨s0, s1, s2, s3⟩)], now := stt, st := { p.st with s0 := s0, s1 := s1 } } rfl rfl rfl rfl rfl
    have a4 := a3.set 10 (.int .i64 s2) { p with sv := pre ++ [(stt, ⟨s0, s1, s2, s3⟩)], now := stt, st := { p.st with s0 := s0, s1 := s1, s2 := s2 } } rfl rfl rfl rfl rfl
    have a5 := a4.set 11 (.int .i64 s3) { p with sv := pre ++ [(stt, ⟨s0, s1, s2, s3⟩)], now := stt, st := ⟨s0, s1, s2, s3⟩ } rfl rfl rfl rfl rfl
    exact a5.set 12 (.int .i64 0) _ rfl rfl rfl rfl rfl)
  go_loopg [5, 6, 7, 8] (above p.l stt) (fun gk u5 u6 u7 u8 wr => ∃ P y', gk = above P.l P.now ∧ SLP wr c y' P ∧ LTurn w wr y y' ∧ GoodP c P (N + 1000) ∧ P.q = p.q ∧ coastT c b0 P = coastT c b0 { p with sv := pre ++ [(stt, ⟨s0, s1, s2, s3⟩)], now := stt, st := ⟨s0, s1, s2, s3⟩, since := 0 })
  case atStart =>
    refine ⟨_, { y with v4 := v4' }, rfl, P0S.out w2 { y with v4 := v4' } A2.out, T2.out.two ?_, HG1.out, rfl, rfl⟩
    exact (((((LTurn.set { y with v4 := v4' } w2 7 _).two (LTurn.set { y with v4 := v4' } _ 8 _)).two (LTurn.set { y with v4 := v4' } _ 9 _)).two (LTurn.set { y with v4 := v4' } _ 10 _)).two (LTurn.set { y with v4 := v4' } _ 11 _)).two (LTurn.set { y with v4 := v4' } _ 12 _)
  case round =>
    obtain ⟨P, y', rfl, hS, hT, hGP, hPq, hco⟩ := hrel
    have HS := Lib.hid hS
    have HT := Lib.hid hT
    have HGP := Lib.hid hGP
    have HPQ := Lib.hid hPq
    have HCO := Lib.hid hco
    have hg' : y'.g = y.g := hT.g
    have HNX : Hid (Calls Tryz.prog 40 #[.pointer (some ⟨y.g, 0, none⟩)] wr (NextP (nextE P.l P.now) wr)) := Lib.hid (by
      have := lnext_any c y' P wr hS (by have := hGP.ll; omega)
      rw [hg'] at this
      exact this)
    clear hS hT hPq hco A1 T1 SR1 A2 T2 P0S c0 l0 c1 m1 c2 g2 m2 HH HG
    have HGY := Lib.hid hg'
    clear hg'
    obtain ⟨ne, hne⟩ : ∃ ne, nextE P.l P.now = ne := ⟨_, rfl⟩
    have HNE := Lib.hid hne
    rw [hne] at HNX
    unfold NextP at HNX
    clear hne
    -- what is left behind the loop
    have REST : Hid ((∀ x, nx P.l P.now = some x → b0 ≤ x) → backL c p b0 pre (stt, ⟨s0, s1, s2, s3⟩) = { P with q := if c.lz then doubt b0 p.q else stay (backP b0) p.q }) := Lib.hid (fun h => by
      unfold backL
      rw [← HCO.out, coastT_stop c h])
    have GEND : Hid (GoodP c { P with q := if c.lz then doubt b0 p.q else stay (backP b0) p.q } (N + 1000)) := Lib.hid (by
      have g := HGP.out
      exact ⟨g.srt, g.ll, g.lm, g.ev, g.st, g.ne, g.last, g.svok, g.svr, g.svl, g.since, g.cid, g.md⟩)
    have HBK : Hid (∀ W, Fresh wr W → Calls Tryz.prog 118 #[.pointer (some ⟨y'.go, 0, none⟩), .int .i64 b0, .bool c.lz] W fun e w' => ∃ va y5, e = .returned va ∧ OwnS w' 43 8 va (backMs c p b0).length (rcells (backMs c p b0)) ∧ SLP w' c y5 { P with q := if c.lz then doubt b0 p.q else stay (backP b0) p.q } ∧ LTurn w w' y y5 ∧ ∀ k, va.ownBlock = some k → w.heap.size ≤ k) := Lib.hid fun W f => by
      have hT0 := HT.out.two (LTurn.fresh (y := y') f)
      have hsz := hT0.keep.size
      unfold backMs
      cases hlz : c.lz with
      | false =>
        simp only [Bool.false_eq_true, if_false]
        refine (back_any y'.go y'.v3 P.q b0 W (HS.out.fresh f).oq (by rw [HPQ.out]; omega)).mono ?_
        rintro e w' ⟨va, v3', h1, h2, h3, h4, h5⟩
        obtain ⟨a1, a2⟩ := (HS.out.fresh f).turnO h3 h4
        rw [HPQ.out] at h2 a1
        exact ⟨va, _, h1, h2, a1, hT0.two a2, fun k hk => Nat.le_trans hsz (h5 k hk)⟩
      | true =>
        simp only [if_true]
        refine (backL_any y'.go y'.v3 P.q b0 W (HS.out.fresh f).oq (by rw [HPQ.out]; omega)).mono ?_
        rintro e w' ⟨h1, h3, h4⟩
        obtain ⟨a1, a2⟩ := (HS.out.fresh f).turnO h3 h4
        rw [HPQ.out] at a1
        exact ⟨_, _, h1, OwnS.nil _ _ _, a1, hT0.two a2, fun k hk => by simp [Value.ownBlock] at hk⟩
    have HASK : Hid (∀ W xa, Fresh wr W → Calls Tryz.prog 53 #[.pointer (some ⟨y.g, 0, none⟩), .int .i64 xa] W (fun en w' => ∃ v', en = .returned (.tuple #[(runP c.md c.id P.st (bat P.l xa)).1.val, v']) ∧ Fresh W w')) := Lib.hid fun W xa f => by
      have := ask_any c y' P xa W (HS.out.fresh f) HGP.out.ll HGP.out.cid HGP.out.md HGP.out.st HGP.out.ev
      rw [HGY.out] at this
      exact this.mono fun en w' h => by
        obtain ⟨v', h1, _, h3, _⟩ := h
        exact ⟨v', h1, h3⟩
    have HRAN : Hid (∀ W xa s, nx P.l P.now = some xa → xa ≤ 1073741824 → Fresh wr W → Calls Tryz.prog 55 #[.pointer (some ⟨y.g, 0, none⟩), .int .i64 xa, s.val] W fun e w' => e = .returned (.tuple #[]) ∧ ∃ y5, SLP w' c y5 (ranL c P xa s) ∧ LTurn W w' y' y5) := Lib.hid fun W xa s hxa hxm f => by
      have g := HGP.out
      have h1 := g.svl
      have h2 := g.since
      have h4 := g.last (P.sv.getLast g.ne) (List.getLast_mem g.ne)
      have h5 := (nx_some g.srt hxa).1
      have h6 : P.sv.dropLast.length ≤ 100000 := by rw [List.length_dropLast]; omega
      have := ran_any c y' P xa s W (HS.out.fresh f) P.sv.dropLast (P.sv.getLast g.ne) (List.dropLast_concat_getLast g.ne).symm (by omega) hxm h6 (by omega)
      rw [HGY.out] at this
      exact this
    have HNXT : Hid (∀ x, nextE P.l P.now = some x → nx P.l P.now = some x.a ∧ x.a ≤ 1073741824) := Lib.hid fun x hx => by
      have e : nx P.l P.now = some x.a := by unfold nx; rw [hx]; rfl
      obtain ⟨_, ⟨z, hz, hza⟩, _⟩ := nx_some HGP.out.srt e
      have := (HGP.out.ev z hz).2.2
      exact ⟨e, by omega⟩
    cases ne with
    | none =>
      have HEQ := Lib.hid (REST.out (fun x hx => by unfold nx at hx; rw [HNE.out] at hx; cases hx))
      clear HASK HRAN HNXT REST
      go_wp2_with (go_at_call 40; (with_reducible refine HNX.out.mono ?_); rintro e w3 ⟨rfl, f3⟩; have F3 := Lib.hid f3; have bl3 : Blk w3 y'.g 103 _ := (HS.out.fresh f3).blk; rw [HGY.out] at bl3; have c3 := fun i => (bl3.cell i).trans (lcells_at c _ _ i); have l3 := bl3.lt; clear f3 bl3)
      go_still_tail 9, (by kernel_rfl)
      change wpList _ _ _ _ _ w3.drew
      go_wp2_with (go_at_call 118; (with_reducible refine (HBK.out _ F3.out.drew).mono ?_); rintro e w5 ⟨va, y5, rfl, o5, s5, t5, n5⟩)
      go_returns
      exact ⟨va, y5, rfl, o5, (by rw [HEQ.out]; exact s5), t5, (by rw [HEQ.out]; exact GEND.out), n5⟩
    | some x =>
      obtain ⟨hx1, hx2⟩ := HNXT.out x HNE.out
      by_cases hxb : b0 ≤ x.a
      · have HEQ := Lib.hid (REST.out (fun x' hx' => by rw [hx1] at hx'; injection hx' with hx'; omega))
        have t1 : decide (b0 ≤ x.a) = true := decide_eq_true hxb
        clear HASK HRAN HNXT REST hx1 hx2 hxb
        go_wp2_with (go_at_call 40; (with_reducible refine HNX.out.mono ?_); rintro e w3 ⟨rfl, f3⟩; have F3 := Lib.hid f3; have bl3 : Blk w3 y'.g 103 _ := (HS.out.fresh f3).blk; rw [HGY.out] at bl3; have c3 := fun i => (bl3.cell i).trans (lcells_at c _ _ i); have l3 := bl3.lt; clear f3 bl3)
        go_still_tail 9, (by kernel_rfl)
        change wpList _ _ _ _ _ w3.drew
        go_wp2_with (go_at_call 118; (with_reducible refine (HBK.out _ F3.out.drew).mono ?_); rintro e w5 ⟨va, y5, rfl, o5, s5, t5, n5⟩)
        go_returns
        exact ⟨va, y5, rfl, o5, (by rw [HEQ.out]; exact s5), t5, (by rw [HEQ.out]; exact GEND.out), n5⟩
      · have t1 : decide (b0 ≤ x.a) = false := decide_eq_false hxb
        have HXN := Lib.hid hx1
        have HXM := Lib.hid hx2
        have HXB := Lib.hid hxb
        have HS2 := Lib.hid (fun W s f => HRAN.out W x.a s hx1 hx2 f)
        clear HRAN HNXT REST hx1 hx2 hxb HBK GEND
        have HAX := Lib.hid (fun W f => HASK.out W x.a f)
        obtain ⟨r, hr⟩ : ∃ r, (runP c.md c.id P.st (bat P.l x.a)).1 = r := ⟨_, rfl⟩
        have HR := Lib.hid hr
        rw [hr] at HAX
        clear hr HASK
        obtain ⟨r0, r1, r2, r3⟩ := r
        have HRN := Lib.hid (fun W f => HS2.out W ⟨r0, r1, r2, r3⟩ f)
        unfold St.val at HAX HRN
        simp only at HAX HRN
        clear HS2
        go_wp2_with (first
          | (go_at_call 40; (with_reducible refine HNX.out.mono ?_); rintro e w3 ⟨rfl, f3⟩; have F3 := Lib.hid f3; clear f3)
          | (go_at_call 53; (with_reducible refine (HAX.out _ F3.out).mono ?_); rintro e w4 ⟨v4, rfl, f4⟩; have F4 := Lib.hid (F3.out.step f4 (fun _ _ h => h)); clear f4)
          | (go_at_call 55; (with_reducible refine (HRN.out _ (F4.out.alloc _)).mono ?_); rintro e w5 ⟨rfl, y5, s5, t5⟩; have S5 := Lib.hid s5; have T5 := Lib.hid (HT.out.two ((LTurn.fresh (y := y') (F4.out.alloc _)).two t5)); have G5 : Hid (y5.g = y.g) := Lib.hid T5.out.g; have bl5 : Blk w5 y5.g 103 _ := s5.blk; rw [G5.out] at bl5; have c5 := fun i => (bl5.cell i).trans (lcells_at c _ _ i); have f5 := bl5.frozen; have l5 := bl5.lt; clear s5 t5 bl5))
        go_roundg (above P.l x.a)
        case measure => exact above_lt (nx_some HGP.out.srt HXN.out).1 (nx_some HGP.out.srt HXN.out).2.1
        case rel =>
          have a := S5.out.set 15 (.int .i64 (wrap64 ((ranL c P x.a ⟨r0, r1, r2, r3⟩).coasted + 1))) (coast1 c P x.a) (by unfold coast1; rw [HR.out]; rfl) rfl rfl rfl (by unfold coast1; rw [HR.out])
          have b := LTurn.set y5 w5 15 (.int .i64 (wrap64 ((ranL c P x.a ⟨r0, r1, r2, r3⟩).coasted + 1)))
          rw [G5.out] at a b
          exact ⟨_, y5, rfl, a, T5.out.two b, coast_good HGP.out HXN.out, HPQ.out, (coastT_step c HGP.out.srt HXN.out (by have := HXB.out; omega)).symm.trans HCO.out⟩
end Go.Proofs.YthbcdkeammhakaaGreat

/-
  lp.LP: Back, Take.
-/
namespace Go.Proofs.YthbcdkeammhakaaGreat
open Go.RowKit
attribute [local go_sem ↓] Go.wp_at_zero Go.wp_at_succ
theorem msgs_nil (w w' : World) : MsgsP [] w w' (.slice none 0 0) := ⟨OwnS.nil _ _ _, fun k hk => by simp [Value.ownBlock] at hk⟩
theorem MsgsP.after {M : List OMsg} {w W w' : World} {va : Value} (f : Fresh w W) (h : MsgsP M W w' va) : MsgsP M w w' va := ⟨h.1, fun k hk => Nat.le_trans f.size (h.2 k hk)⟩
/-- where a save stands that one may go back to -/
structure SvAt (p : LPs) (b0 : Int) (pre post : List (Int × St)) (s : Int × St) : Prop where
  sv : p.sv = pre ++ s :: post
  lo : ∀ z ∈ pre ++ [s], z.1 < b0
  hi : ∀ z, post.head? = some z → ¬ z.1 < b0
set_option maxRecDepth 100000 in
set_option maxHeartbeats 4000000 in
theorem lback_late (c : LC) (y : PV) (p : LPs) (from_ : Int) (w : World) (h : SLP w c y p) (hf : from_ < p.freed) : Calls Tryz.prog 44 #[.pointer (some ⟨y.g, 0, none⟩), .int .i64 from_] w (StepP c y [] 18 p w) := by
  have c0 := fun i => (h.blk.cell i).trans (lcells_at c y p i)
  have l0 := h.blk.lt
  have H := Lib.hid h
  have t1 : decide (from_ < p.freed) = true := decide_eq_true hf
  clear h
  go_enter Tryz.func44, Tryz.ntmps44
  go_wp2_with fail
  go_returns
  exact ⟨_, rfl, msgs_nil _ _, y, H.out, LTurn.fresh (Keep.refl _ _)⟩
set_option maxRecDepth 100000 in
set_option maxHeartbeats 4000000 in
theorem lback_none (c : LC) (y : PV) (p : LPs) (from_ : Int) (w : World) (h : SLP w c y p) (hf : ¬ from_ < p.freed) (hn : p.now < from_) : Calls Tryz.prog 44 #[.pointer (some ⟨y.g, 0, none⟩), .int .i64 from_] w (StepP c y [] 0 p w) := by
  have c0 := fun i => (h.blk.cell i).trans (lcells_at c y p i)
  have l0 := h.blk.lt
  have H := Lib.hid h
  have t1 : decide (from_ < p.freed) = false := decide_eq_false hf
  have t2 : decide (p.now < from_) = true := decide_eq_true hn
  clear h
  go_enter Tryz.func44, Tryz.ntmps44
  go_wp2_with fail
  go_returns
  exact ⟨_, rfl, msgs_nil _ _, y, H.out, LTurn.fresh (Keep.refl _ _)⟩
set_option maxRecDepth 100000 in
set_option maxHeartbeats 4000000 in
theorem lback_go (c : LC) (y : PV) (p : LPs) (N : Nat) (from_ : Int) (pre post : List (Int × St)) (s : Int × St) (w : World) (h : SLP w c y p) (hg : GoodP c p N) (hN : N ≤ 90000) (hq : p.q.length ≤ 50000) (hs : SvAt p from_ pre post s) (hf : ¬ from_ < p.freed) (hn : ¬ p.now < from_) : Calls Tryz.prog 44 #[.pointer (some ⟨y.g, 0, none⟩), .int .i64 from_] w (StepP c y (backMs c p from_) 0 (backL c p from_ pre s) w) := by
  have c0 := fun i => (h.blk.cell i).trans (lcells_at c y p i)
  have l0 := h.blk.lt
  have HG := Lib.hid (goback_any c y p N from_ pre post s w h hg hN hq hs.sv hs.lo hs.hi)
  have t1 : decide (from_ < p.freed) = false := decide_eq_false hf
  have t2 : decide (p.now < from_) = false := decide_eq_false hn
  clear h hg hs
  go_enter Tryz.func44, Tryz.ntmps44
  go_wp2_with (go_at_call 69; (with_reducible refine HG.out.mono ?_); rintro e w1 ⟨va, y1, rfl, o1, s1, t1, _, n1⟩)
  go_returns
  exact ⟨va, rfl, ⟨o1, n1⟩, y1, s1, t1⟩
/-- a process's own block, and an argument's -/
structure LB (W : World) (g : Nat) (cs : Array Value) (b : Nat) (t : TypeId) (bs : Array Value) : Prop where
  l : Blk W g 103 cs
  x : Blk W b t bs
theorem LB.fresh {W W' : World} {g : Nat} {cs : Array Value} {b : Nat} {t : TypeId} {bs : Array Value} (h : LB W g cs b t bs) (f : Fresh W W') : LB W' g cs b t bs := ⟨f.blk_ h.l, f.blk_ h.x⟩
theorem LB.drew {W : World} {g : Nat} {cs : Array Value} {b : Nat} {t : TypeId} {bs : Array Value} (h : LB W g cs b t bs) : LB W.drew g cs b t bs := ⟨h.l.drew, h.x.drew⟩
theorem LB.drewN {W : World} {g : Nat} {cs : Array Value} {b : Nat} {t : TypeId} {bs : Array Value} (h : LB W g cs b t bs) (n : Nat) : LB (W.drewN n) g cs b t bs := ⟨h.l.drewN n, h.x.drewN n⟩
/-- a message where it lies -/
def xarr (x : Ev) (an : Bool) : Array Value := #[.int .i64 x.a, .int .i64 x.s, .int .i64 x.t, .int .i64 x.n, .int .i64 x.d, .int .i64 x.k, .int .i64 x.x, .bool an]
set_option maxRecDepth 100000 in
set_option maxHeartbeats 4000000 in
theorem ltake_id (c : LC) (y : PV) (p : LPs) (x : Ev) (an : Bool) (w : World) (h : SLP w c y p) (hd : x.d ≠ c.id) : Calls Tryz.prog 36 #[.pointer (some ⟨y.g, 0, none⟩), x.msg an] w (StepP c y [] 1 p w) := by
  have c0 := fun i => (h.blk.cell i).trans (lcells_at c y p i)
  have l0 := h.blk.lt
  have H := Lib.hid h
  obtain ⟨a, s, t, n, d, k, x⟩ := x
  unfold Ev.msg
  simp only at hd ⊢
  have t1 : (d != c.id) = true := by simpa using hd
  clear h hd
  go_enter Tryz.func36, Tryz.ntmps36
  go_wp2_with fail
  go_quiet (fail)
  go_wp2
  go_returns
  exact ⟨_, rfl, msgs_nil _ _, y, H.out.fresh (by (repeat (first | (with_reducible exact Keep.refl _ _) | (with_reducible assumption) | (with_reducible refine Keep.drew ?_) | (with_reducible refine Keep.drewN ?_ _) | (with_reducible refine Keep.alloc ?_ _) | (with_reducible refine Keep.setCell ?_ ?_ _) | (with_reducible refine fun _ => rfl)))), LTurn.fresh (by (repeat (first | (with_reducible exact Keep.refl _ _) | (with_reducible assumption) | (with_reducible refine Keep.drew ?_) | (with_reducible refine Keep.drewN ?_ _) | (with_reducible refine Keep.alloc ?_ _) | (with_reducible refine Keep.setCell ?_ ?_ _) | (with_reducible refine fun _ => rfl))))⟩
set_option maxRecDepth 100000 in
set_option maxHeartbeats 4000000 in
theorem ltake_time (c : LC) (y : PV) (p : LPs) (x : Ev) (an : Bool) (w : World) (h : SLP w c y p) (hd : x.d = c.id) (hf : x.a < p.freed) : Calls Tryz.prog 36 #[.pointer (some ⟨y.g, 0, none⟩), x.msg an] w (StepP c y [] 18 p w) := by
  have c0 := fun i => (h.blk.cell i).trans (lcells_at c y p i)
  have l0 := h.blk.lt
  have H := Lib.hid h
  obtain ⟨a, s, t, n, d, k, x⟩ := x
  unfold Ev.msg
  simp only at hd hf ⊢
  have t1 : (d != c.id) = false := by simpa using hd
  have t2 : decide (a < p.freed) = true := decide_eq_true hf
  clear h hd hf
  go_enter Tryz.func36, Tryz.ntmps36
  go_wp2_with fail
  go_quiet (fail)
  go_wp2_with fail
  go_quiet (fail)
  go_wp2
  go_returns
  exact ⟨_, rfl, msgs_nil _ _, y, H.out.fresh (by (repeat (first | (with_reducible exact Keep.refl _ _) | (with_reducible assumption) | (with_reducible refine Keep.drew ?_) | (with_reducible refine Keep.drewN ?_ _) | (with_reducible refine Keep.alloc ?_ _) | (with_reducible refine Keep.setCell ?_ ?_ _) | (with_reducible refine fun _ => rfl)))), LTurn.fresh (by (repeat (first | (with_reducible exact Keep.refl _ _) | (with_reducible assumption) | (with_reducible refine Keep.drew ?_) | (with_reducible refine Keep.drewN ?_ _) | (with_reducible refine Keep.alloc ?_ _) | (with_reducible refine Keep.setCell ?_ ?_ _) | (with_reducible refine fun _ => rfl))))⟩
end Go.Proofs.YthbcdkeammhakaaGreat

/-
  lp.LP: Take, where the message comes in.
-/
namespace Go.Proofs.YthbcdkeammhakaaGreat
open Go.RowKit
attribute [local go_sem ↓] Go.wp_at_zero Go.wp_at_succ
theorem msg_arr (x : Ev) (an : Bool) : x.msg an = .agg (xarr x an) := rfl
set_option maxRecDepth 100000 in
set_option maxHeartbeats 4000000 in
theorem ltake_out (c : LC) (y : PV) (p : LPs) (x : Ev) (an : Bool) (w : World) (h : SLP w c y p) (hd : x.d = c.id) (hf : ¬ x.a < p.freed) (ho : x.a < 0 ∨ 1073741824 < x.a) : Calls Tryz.prog 36 #[.pointer (some ⟨y.g, 0, none⟩), x.msg an] w (StepP c y [] 10 p w) := by
  have c0 := fun i => (h.blk.cell i).trans (lcells_at c y p i)
  have l0 := h.blk.lt
  have H := Lib.hid h
  have HP : Hid (∀ W, Calls Tryz.prog 68 #[.pointer (some ⟨y.gq, 0, none⟩), x.msg an] W fun e w' => e = .returned (.tuple #[.bool false, .int .i64 10]) ∧ Fresh W w') := Lib.hid fun W => put_out y.gq x an W ho
  obtain ⟨a, s, t, n, d, k, x⟩ := x
  unfold Ev.msg at HP ⊢
  simp only at hd hf HP ⊢
  have t1 : (d != c.id) = false := by simpa using hd
  have t2 : decide (a < p.freed) = false := decide_eq_false hf
  have HBA : Hid (LB (w.alloc (.cells #[.int .i64 a, .int .i64 s, .int .i64 t, .int .i64 n, .int .i64 d, .int .i64 k, .int .i64 x, .bool an] 43)) y.g (lcells c y p) w.heap.size 43 #[.int .i64 a, .int .i64 s, .int .i64 t, .int .i64 n, .int .i64 d, .int .i64 k, .int .i64 x, .bool an]) := Lib.hid ⟨h.blk.alloc _, Blk.new w _ _⟩
  clear h hd hf ho
  go_enter Tryz.func36, Tryz.ntmps36
  go_wp2_with fail
  go_quiet (fail)
  rename Nat => n11
  go_wp2_with fail
  go_quiet (fail)
  rename Nat => n12
  go_wp2_with fail
  have y0 := fun (W' : World) (h : LB W' y.g (lcells c y p) w.heap.size 43 #[.int .i64 a, .int .i64 s, .int .i64 t, .int .i64 n, .int .i64 d, .int .i64 k, .int .i64 x, .bool an]) (i : Nat) => (h.l.cell i).trans (lcells_at c y p i)
  have y1 := fun (W' : World) (h : LB W' y.g (lcells c y p) w.heap.size 43 #[.int .i64 a, .int .i64 s, .int .i64 t, .int .i64 n, .int .i64 d, .int .i64 k, .int .i64 x, .bool an]) => h.l.lt
  have y2 := fun (W' : World) (h : LB W' y.g (lcells c y p) w.heap.size 43 #[.int .i64 a, .int .i64 s, .int .i64 t, .int .i64 n, .int .i64 d, .int .i64 k, .int .i64 x, .bool an]) (i : Nat) => h.x.cell i
  have y3 := fun (W' : World) (h : LB W' y.g (lcells c y p) w.heap.size 43 #[.int .i64 a, .int .i64 s, .int .i64 t, .int .i64 n, .int .i64 d, .int .i64 k, .int .i64 x, .bool an]) => h.x.lt
  clear c0 l0
  obtain ⟨WA, hWA⟩ : ∃ WA, ((w.alloc (.cells #[.int .i64 a, .int .i64 s, .int .i64 t, .int .i64 n, .int .i64 d, .int .i64 k, .int .i64 x, .bool an] 43)).drewN n11).drewN n12 = WA := ⟨_, rfl⟩
  have HB0 : Hid (LB WA.drew y.g (lcells c y p) w.heap.size 43 #[.int .i64 a, .int .i64 s, .int .i64 t, .int .i64 n, .int .i64 d, .int .i64 k, .int .i64 x, .bool an]) := Lib.hid (hWA ▸ ((HBA.out.drewN n11).drewN n12).drew)
  have FA : Hid (Fresh w WA.drew) := Lib.hid (hWA ▸ ((((Keep.refl _ w).alloc _).drewN n11).drewN n12).drew)
  rw [hWA]
  clear hWA
  -- <out
  refine region_T (S := fun W' => LB W' y.g (lcells c y p) w.heap.size 43 #[.int .i64 a, .int .i64 s, .int .i64 t, .int .i64 n, .int .i64 d, .int .i64 k, .int .i64 x, .bool an]) (T := []) (by kernel_rfl) ?_
  refine anyT_take (i := 0) (oi := _) (v := ?va0) rfl (by kernel_rfl) (by kernel_rfl) (by kernel_rfl) (by kernel_rfl) (fun _ _ _ h => h) (Or.inl ⟨by rfl, ?hya0⟩) HB0.out ?resta0
  case hya0 => (intro W hSw; go_simp; try with_reducible rfl)
  try simp only [List.getElem_toArray, List.getElem_cons_zero, Act.put, List.setIfInBounds_toArray, List.set_cons_zero, List.set_cons_succ]
  refine anyT_take (i := 1) (oi := _) (v := ?va1) rfl (by kernel_rfl) (by kernel_rfl) (by kernel_rfl) (by kernel_rfl) (fun _ _ _ h => h) (Or.inl ⟨by rfl, ?hya1⟩) HB0.out ?resta1
  case hya1 => (intro W hSw; go_simp; try with_reducible rfl)
  try simp only [List.getElem_toArray, List.getElem_cons_zero, List.getElem_cons_succ, Act.put, List.setIfInBounds_toArray, List.set_cons_zero, List.set_cons_succ]
  refine anyT_take (i := 2) (oi := _) (v := ?va2) rfl (by kernel_rfl) (by kernel_rfl) (by kernel_rfl) (by kernel_rfl) (fun _ _ _ h => h) (Or.inl ⟨by rfl, ?hya2⟩) HB0.out ?resta2
  case hya2 => (intro W hSw; go_simp; try with_reducible rfl)
  try simp only [List.getElem_toArray, List.getElem_cons_zero, List.getElem_cons_succ, Act.put, List.setIfInBounds_toArray, List.set_cons_zero, List.set_cons_succ]
  refine anyT_take (i := 3) (oi := _) (v := ?va3) rfl (by kernel_rfl) (by kernel_rfl) (by kernel_rfl) (by kernel_rfl) (fun _ _ _ h => h) (Or.inl ⟨by rfl, ?hya3⟩) HB0.out ?resta3
  case hya3 => (intro W hSw; go_simp; try with_reducible rfl)
  try simp only [List.getElem_toArray, List.getElem_cons_zero, List.getElem_cons_succ, Act.put, List.setIfInBounds_toArray, List.set_cons_zero, List.set_cons_succ]
  refine anyT_take (i := 4) (oi := _) (v := ?va4) rfl (by kernel_rfl) (by kernel_rfl) (by kernel_rfl) (by kernel_rfl) (fun _ _ _ h => h) (Or.inl ⟨by rfl, ?hya4⟩) HB0.out ?resta4
  case hya4 => (intro W hSw; go_simp; try with_reducible rfl)
  try simp only [List.getElem_toArray, List.getElem_cons_zero, List.getElem_cons_succ, Act.put, List.setIfInBounds_toArray, List.set_cons_zero, List.set_cons_succ]
  refine anyT_one' (i := 5) (by kernel_rfl) rfl (by rfl) (fun KQ hK => ?_)
  go_simp
  go_at_call 68
  (with_reducible refine (HP.out _).mono ?_)
  rintro e w3 ⟨rfl, f3⟩
  have HB3 := Lib.hid (HB0.out.fresh f3)
  have F3 : Hid (Fresh w w3) := Lib.hid (FA.out.step f3 (fun _ _ h => h))
  clear f3
  refine hK.out _ _ HB3.out ?_
  clear hK KQ
  try simp only [List.getElem_toArray, List.getElem_cons_zero, List.getElem_cons_succ, Act.put, List.setIfInBounds_toArray, List.set_cons_zero, List.set_cons_succ]
  refine anyT_take (i := 6) (oi := _) (v := ?va6) rfl (by kernel_rfl) (by kernel_rfl) (by kernel_rfl) (by kernel_rfl) (fun _ _ _ h => h) (Or.inl ⟨by rfl, ?hya6⟩) HB3.out ?resta6
  case hya6 => (intro W hSw; go_simp; try with_reducible rfl)
  try simp only [List.getElem_toArray, List.getElem_cons_zero, List.getElem_cons_succ, Act.put, List.setIfInBounds_toArray, List.set_cons_zero, List.set_cons_succ]
  refine anyT_take (i := 7) (oi := _) (v := ?va7) rfl (by kernel_rfl) (by kernel_rfl) (by kernel_rfl) (by kernel_rfl) (fun _ _ _ h => h) (Or.inl ⟨by rfl, ?hya7⟩) HB3.out ?resta7
  case hya7 => (intro W hSw; go_simp; try with_reducible rfl)
  try simp only [List.getElem_toArray, List.getElem_cons_zero, List.getElem_cons_succ, Act.put, List.setIfInBounds_toArray, List.set_cons_zero, List.set_cons_succ]
  refine anyT_take (i := 8) (oi := _) (v := ?va8) rfl (by kernel_rfl) (by kernel_rfl) (by kernel_rfl) (by kernel_rfl) (fun _ _ _ h => h) (Or.inl ⟨by rfl, ?hya8⟩) HB3.out ?resta8
  case hya8 => (intro W hSw; go_simp; try with_reducible rfl)
  try simp only [List.getElem_toArray, List.getElem_cons_zero, List.getElem_cons_succ, Act.put, List.setIfInBounds_toArray, List.set_cons_zero, List.set_cons_succ]
  refine anyT_take (i := 9) (oi := _) (v := ?va9) rfl (by kernel_rfl) (by kernel_rfl) (by kernel_rfl) (by kernel_rfl) (fun _ _ _ h => h) (Or.inl ⟨by rfl, ?hya9⟩) HB3.out ?resta9
  case hya9 => (intro W hSw; go_simp; try with_reducible rfl)
  try simp only [List.getElem_toArray, List.getElem_cons_zero, List.getElem_cons_succ, Act.put, List.setIfInBounds_toArray, List.set_cons_zero, List.set_cons_succ]
  refine anyT_take (i := 10) (oi := _) (v := ?va10) rfl (by kernel_rfl) (by kernel_rfl) (by kernel_rfl) (by kernel_rfl) (fun _ _ _ h => h) (Or.inl ⟨by rfl, ?hya10⟩) HB3.out ?resta10
  case hya10 => (intro W hSw; go_simp; try with_reducible rfl)
  try simp only [List.getElem_toArray, List.getElem_cons_zero, List.getElem_cons_succ, Act.put, List.setIfInBounds_toArray, List.set_cons_zero, List.set_cons_succ]
  refine anyT_done (by kernel_rfl) ?_
  -- out>
  clear y0 y1 y2 y3
  go_wp2_with fail
  go_returns
  exact ⟨_, rfl, msgs_nil _ _, y, H.out.fresh F3.out, LTurn.fresh F3.out⟩
end Go.Proofs.YthbcdkeammhakaaGreat
