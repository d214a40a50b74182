/- Chapter 13: LtO. -/
import Derived.Test.YthbcdkeammhakaaGreatP35
set_option maxRecDepth 100000
set_option maxHeartbeats 16000000
namespace Go.Proofs.YthbcdkeammhakaaGreat
open Go.RowKit
attribute [local go_sem ↓] Go.wp_at_zero Go.wp_at_succ
theorem coastN_steps (c : LC) (b0 : Int) : ∀ (n : Nat) (p : LPs), (coastN c n b0 p).steps = p.steps
 | 0, _ => rfl
 | n + 1, p => by
  unfold coastN
  split
  ·split
   ·rw [coastN_steps c b0 n]
    rfl
   ·rfl
  ·rfl
theorem backL_steps (c : LC) (p : LPs) (b0 : Int) (pre : List (Int × St)) (s : Int × St) : (backL c p b0 pre s).steps = p.steps := by
 unfold backL coastT
 exact coastN_steps c b0 _ _
def LpS (c : LC) (first : St) (y : PV) (a : Ans) (n : Nat) (st : Int) (w : World) (e : Ending) (w' : World) : Prop := ∃ va, e = .returned (.tuple #[va, .int .i64 a.e]) ∧ MsgsP a.M w w' va ∧ ∃ y' p', SLP w' c y' p' ∧ LTurn w w' y y' ∧ RefP c first p' a.A n ∧ p'.steps = st
def stpS (A : AM) (st : Int) : Int := match nx A.l A.now with
 | some _ => wrap64 (st + 1)
 | none => st
section
variable {c : LC} {first : St} {y : PV} {p : LPs} {A : AM} {n : Nat} {w : World}
theorem StepP.refS {M : List OMsg} {er : Int} {p' : LPs} {a : Ans} {m : Nat} {st : Int} (hM : M = a.M) (he : er = a.e) (hp : RefP c first p' a.A m) (hs : p'.steps = st) {e : Ending} {w' : World} (h : StepP c y M er p' w e w') : LpS c first y a m st w e w' := by
 subst hM he
 obtain ⟨va, h1, h2, y', h3, h4⟩ := h
 exact ⟨va, h1, h2, y', p', h3, h4, hp, hs⟩
theorem sref_step (h : SLP w c y p) (hr : RefP c first p A n) (hn : n ≤ 62) : Calls Tryz.prog 28 #[.pointer (some ⟨y.g, 0, none⟩)] w (LpS c first y (stpA (cfg c first) A) n (stpS A p.steps) w) := by
 obtain ⟨b1, b2, b3, b4, b5⟩ := hr.bounds (by omega)
 have hq : p.q.length ≤ 50000 := by
  have h3 := hr.ql
  rw [← hr.q] at h3
  omega
 have hx := next_is hr
 unfold stpA
 cases hn0 : nextE p.l p.now with
 | none =>
  rw [hn0] at hx
  rw [← hx]
  exact (step_none c y p w h (by omega) hn0).mono fun e w' hh => StepP.refS (a := ⟨A, [], [], 14⟩) rfl rfl hr (by unfold stpS; rw [← hx]; rfl) hh
 | some y0 =>
  rw [hn0] at hx
  rw [← hx]
  have hx' : nx A.l A.now = some y0.a := hx.symm
  obtain ⟨s1, s2, s3, s4, s5, s6⟩ := snd_ok hr.laws hr.inv hr.okf hx'
  have hsnd := hr.snd_ hx'
  have hbl : (bat A.l y0.a).length ≤ 1000 := by
   rw [← hr.bat_ hx']
   exact Nat.le_trans (List.length_filter_le _ _) b1
  have hl := hr.good.last (p.sv.getLast hr.good.ne) (List.getLast_mem hr.good.ne)
  have hgt := (nx_some hr.inv.sl hx').1
  have hw := step_wrong hr.laws hr.inv hr.okf hx'
  refine (step_some c y p _ y0 p.sv.dropLast (p.sv.getLast hr.good.ne) w h hr.good (by omega) hq hn0 (List.dropLast_concat_getLast hr.good.ne).symm (by have := hr.now; omega) s6 (by rw [hsnd]; omega) (by rw [hsnd, hr.q]; exact hw)).mono fun e w' hh => ?_
  exact StepP.refS (a := ⟨stepA (cfg c first) A y0.a, sentM y0.a (sndA (cfg c first) A y0.a) A.q, [], 0⟩) (by rw [hsnd, hr.q]) rfl (step_ref hr hx') (by unfold stpS; rw [hx']; rfl) hh
theorem sref_take (h : SLP w c y p) (hr : RefP c first p A n) (hn : n ≤ 62) (x : Ev) (an : Bool) (hx : SmE x) : Calls Tryz.prog 36 #[.pointer (some ⟨y.g, 0, none⟩), x.msg an] w (LpS c first y (takA (cfg c first) A x an) (n + 1) p.steps w) := by
 obtain ⟨b1, b2, b3, b4, b5⟩ := hr.bounds (by omega)
 have hq := hq_of hr hn
 have hr1 := hr.mono (Nat.le_succ n)
 unfold takA
 by_cases hd : x.d ≠ c.id
 ·rw [if_pos (show x.d ≠ (cfg c first).id from hd)]
  exact (ltake_id c y p x an w h hd).mono fun e w' hh => StepP.refS (a := ⟨A, [], [], 1⟩) rfl rfl hr1 (by first | rfl | exact backL_steps _ _ _ _ _) hh
 ·have hd' : x.d = c.id := by omega
  rw [if_neg (show ¬ x.d ≠ (cfg c first).id from hd)]
  by_cases hf : x.a < A.freed
  ·rw [if_pos hf]
   exact (ltake_time c y p x an w h hd' (by rw [hr.freed]; exact hf)).mono fun e w' hh => StepP.refS (a := ⟨A, [], [], 18⟩) rfl rfl hr1 (by first | rfl | exact backL_steps _ _ _ _ _) hh
  ·rw [if_neg hf]
   by_cases ho : x.a < 0 ∨ 1073741824 < x.a
   ·rw [if_pos ho]
    exact (ltake_out c y p x an w h hd' (by rw [hr.freed]; exact hf) ho).mono fun e w' hh => StepP.refS (a := ⟨A, [], [], 10⟩) rfl rfl hr1 (by first | rfl | exact backL_steps _ _ _ _ _) hh
   ·rw [if_neg ho]
    have hxr : SmE x ∧ 0 ≤ x.a ∧ x.a ≤ 1073741824 := ⟨hx, by omega, by omega⟩
    have hfr : A.freed ≤ x.a := by omega
    have hmet := (hr.put_ hfr an).1
    unfold comeA
    by_cases hs : A.now < x.a ∨ putMet A.l A.m x an ≠ an
    ·rw [if_pos hs]
     have hs' : StaysB p x an = true := (stays_iff p x an).2 (by rw [hr.now, hmet]; exact hs)
     exact (ltake_put c y p x an [] (putLp p x an) 0 w h (by omega) (by omega) hd' (by rw [hr.freed]; exact hf) hxr.2 (fun _ => ⟨rfl, rfl⟩) (fun hh => by rw [hs'] at hh; cases hh)).mono fun e w' hh => StepP.refS (a := ⟨putD A x an, [], [], 0⟩) rfl rfl (put_ref hr (by omega) hxr hfr hs) (by first | rfl | exact backL_steps _ _ _ _ _) hh
    ·rw [if_neg hs]
     have hle : x.a ≤ A.now := by
      by_cases hlt : A.now < x.a
      ·exact absurd (.inl hlt) hs
      ·omega
     have hs' : ¬ StaysB p x an = true := fun hh => hs (by have := (stays_iff p x an).1 hh; rw [hr.now, hmet] at this; exact this)
     obtain ⟨pre, s, post, g1, g2, g3, g4, g5⟩ := come_back hr (by omega) (an := an) hxr hfr hle
     refine (ltake_put c y p x an (backMs c (putLp p x an) x.a) (backL c (putLp p x an) x.a pre s) (200 * (n + 2) + 1000) w h (by omega) (by omega) hd' (by rw [hr.freed]; exact hf) hxr.2 (fun hh => absurd hh hs') (fun _ W y' hS hg => ?_)).mono fun e w' hh => StepP.refS (a := ⟨backA (cfg c first) (putD A x an) x.a, backM (cfg c first) (putD A x an) x.a, [], 0⟩) ?_ rfl g5 (by first | rfl | exact backL_steps _ _ _ _ _) hh
     ·have := goback_ref (n := n) g4 hn (by show p.q.length ≤ 50000; exact hq) g1 g2 g3 hS
      rw [hg] at this
      exact this
     ·show (if c.lz then [] else antis (backP x.a) p.q) = (if c.lz then [] else antis (backP x.a) A.q)
      rw [hr.q]
theorem sref_bak (h : SLP w c y p) (hr : RefP c first p A n) (hn : n ≤ 62) (to_ : Int) : Calls Tryz.prog 44 #[.pointer (some ⟨y.g, 0, none⟩), .int .i64 to_] w (LpS c first y (bakA (cfg c first) A to_) (n + 1) p.steps w) := by
 have hq := hq_of hr hn
 have hr1 := hr.mono (Nat.le_succ n)
 unfold bakA
 by_cases hf : to_ < A.freed
 ·rw [if_pos hf]
  exact (lback_late c y p to_ w h (by rw [hr.freed]; exact hf)).mono fun e w' hh => StepP.refS (a := ⟨A, [], [], 18⟩) rfl rfl hr1 (by first | rfl | exact backL_steps _ _ _ _ _) hh
 ·rw [if_neg hf]
  by_cases hn0 : A.now < to_
  ·rw [if_pos hn0]
   exact (lback_none c y p to_ w h (by rw [hr.freed]; exact hf) (by rw [hr.now]; exact hn0)).mono fun e w' hh => StepP.refS (a := ⟨A, [], [], 0⟩) rfl rfl hr1 (by first | rfl | exact backL_steps _ _ _ _ _) hh
  ·rw [if_neg hn0]
   obtain ⟨pre, s, post, g1, g2, g3, g4⟩ := plain_back hr (by omega) (show A.freed ≤ to_ by omega) (show to_ ≤ A.now by omega)
   refine (lback_go c y p _ to_ pre post s w h hr.good (by omega) hq ⟨g1, g2, g3⟩ (by rw [hr.freed]; exact hf) (by rw [hr.now]; exact hn0)).mono fun e w' hh => StepP.refS (a := ⟨backA (cfg c first) A to_, backM (cfg c first) A to_, [], 0⟩) ?_ rfl g4 (by first | rfl | exact backL_steps _ _ _ _ _) hh
   show (if c.lz then [] else antis (backP to_) p.q) = (if c.lz then [] else antis (backP to_) A.q)
   rw [hr.q]
theorem sref_give (h : SLP w c y p) (hr : RefP c first p A n) (hn : n ≤ 62) (x : Ev) : Calls Tryz.prog 42 #[.pointer (some ⟨y.g, 0, none⟩), x.val] w (LpS c first y (givA (cfg c first) A x) (n + 1) p.steps w) := by
 obtain ⟨b1, b2, b3, b4, b5⟩ := hr.bounds (by omega)
 have hq := hq_of hr hn
 have hr1 := hr.mono (Nat.le_succ n)
 unfold givA
 by_cases hf : x.a < A.freed
 ·rw [if_pos hf]
  exact (lgive_time c y p x w h (by rw [hr.freed]; exact hf)).mono fun e w' hh => StepP.refS (a := ⟨A, [], [], 18⟩) rfl rfl hr1 (by first | rfl | exact backL_steps _ _ _ _ _) hh
 ·rw [if_neg hf]
  have hfr : A.freed ≤ x.a := by omega
  have hch := cnt_has hr hfr
  cases hh : has A.l x with
  | false =>
   rw [if_neg (by simp)]
   exact (lgive_none c y p x w h (by omega) (by omega) (by rw [hr.freed]; exact hf) (hch.2 hh)).mono fun e w' hh => StepP.refS (a := ⟨A, [], [], 14⟩) rfl rfl hr1 (by first | rfl | exact backL_steps _ _ _ _ _) hh
  | true =>
   rw [if_pos rfl]
   have hxr := hr.inv.ev x ((has_mem hr.inv.sl x).1 hh)
   have hput := hr.put_ hfr true
   have hmt : putMet A.l A.m x true = true := by unfold putMet; simp [hh]
   have hcn : ¬ (cnt p.l x : Int) - (cnt p.m x : Int) ≤ 0 := fun hc => by rw [hch.1 hc] at hh; cases hh
   unfold comeA
   by_cases hs : A.now < x.a ∨ putMet A.l A.m x true ≠ true
   ·rw [if_pos hs]
    have hlt : A.now < x.a := hs.resolve_right (fun h => h hmt)
    have hp := put_ref hr (an := true) (by omega) hxr hfr hs
    refine (lgive_put c y p x [] 0 (putLp p x true) w h (by omega) (by omega) (by rw [hr.freed]; exact hf) hcn hxr.2 (fun W y' hS hg => ?_)).mono fun e w' hh => StepP.refS (a := ⟨putD A x true, [], [], 0⟩) rfl rfl hp (by first | rfl | exact backL_steps _ _ _ _ _) hh
    have := lback_none c y' (putLp p x true) x.a W hS (by show ¬ x.a < p.freed; rw [hr.freed]; exact hf) (by show p.now < x.a; rw [hr.now]; exact hlt)
    rw [hg] at this
    exact this
   ·rw [if_neg hs]
    have hle : x.a ≤ A.now := by
     by_cases hlt : A.now < x.a
     ·exact absurd (.inl hlt) hs
     ·omega
    obtain ⟨pre, s, post, g1, g2, g3, g4, g5⟩ := come_back hr (by omega) (an := true) hxr hfr hle
    refine (lgive_put c y p x (backMs c (putLp p x true) x.a) 0 (backL c (putLp p x true) x.a pre s) w h (by omega) (by omega) (by rw [hr.freed]; exact hf) hcn hxr.2 (fun W y' hS hg => ?_)).mono fun e w' hh => StepP.refS (a := ⟨backA (cfg c first) (putD A x true) x.a, backM (cfg c first) (putD A x true) x.a, [], 0⟩) ?_ rfl g5 (by first | rfl | exact backL_steps _ _ _ _ _) hh
    ·have := lback_go c y' (putLp p x true) (200 * (n + 2)) x.a pre post s W hS g4 (by omega) (by show p.q.length ≤ 50000; exact hq) ⟨g1, g2, g3⟩ (by show ¬ x.a < p.freed; rw [hr.freed]; exact hf) (by show ¬ p.now < x.a; rw [hr.now]; omega)
     rw [hg] at this
     exact this
    ·show (if c.lz then [] else antis (backP x.a) p.q) = (if c.lz then [] else antis (backP x.a) A.q)
     rw [hr.q]
theorem sref_ret (h : SLP w c y p) (hr : RefP c first p A n) (hn : n ≤ 62) (x : Ev) : Calls Tryz.prog 32 #[.pointer (some ⟨y.g, 0, none⟩), x.val] w (LpS c first y (retA (cfg c first) A x) (n + 1) p.steps w) := by
 have hq := hq_of hr hn
 have hr1 := hr.mono (Nat.le_succ n)
 unfold retA
 by_cases hd : x.s ≠ c.id
 ·rw [if_pos (show x.s ≠ (cfg c first).id from hd)]
  exact (lret_id c y p x w h hd).mono fun e w' hh => StepP.refS (a := ⟨A, [], [], 1⟩) rfl rfl hr1 (by first | rfl | exact backL_steps _ _ _ _ _) hh
 ·have hd' : x.s = c.id := by omega
  rw [if_neg (show ¬ x.s ≠ (cfg c first).id from hd)]
  by_cases hf : x.t < A.freed
  ·rw [if_pos hf]
   exact (lret_time c y p x w h hd' (by rw [hr.freed]; exact hf)).mono fun e w' hh => StepP.refS (a := ⟨A, [], [], 18⟩) rfl rfl hr1 (by first | rfl | exact backL_steps _ _ _ _ _) hh
  ·rw [if_neg hf]
   cases hh : rhas A.q x with
   | false =>
    rw [if_neg (by simp)]
    exact (lret_no c y p x w h (by omega) hd' (by rw [hr.freed]; exact hf) (by rw [hr.q]; exact hh)).mono fun e w' hh => StepP.refS (a := ⟨A, [(x, false)], [], 0⟩) rfl rfl hr1 (by first | rfl | exact backL_steps _ _ _ _ _) hh
   | true =>
    rw [if_pos rfl]
    unfold bakA
    simp only
    rw [if_neg hf]
    have hfc : ¬ x.t < p.freed := by rw [hr.freed]; exact hf
    have hql : (rrem p.q x).length ≤ 50000 := Nat.le_trans (rrem_len p.q x) hq
    by_cases hn0 : A.now < x.t
    ·rw [if_pos hn0]
     have hp := (hr.retq hh hn0).mono (Nat.le_succ n)
     refine (lret_yes c y p x [] 0 { p with q := rrem p.q x } w h (by omega) hd' hfc (by rw [hr.q]; exact hh) (fun W y' hS hg => ?_)).mono fun e w' hh => StepP.refS (a := ⟨{ A with q := rrem A.q x }, [], [], 0⟩) rfl rfl hp (by first | rfl | exact backL_steps _ _ _ _ _) hh
     have := lback_none c y' { p with q := rrem p.q x } x.t W hS hfc (by show p.now < x.t; rw [hr.now]; exact hn0)
     rw [hg] at this
     exact this
    ·rw [if_neg hn0]
     obtain ⟨pre, s, post, g1, g2, g3, g4⟩ := retq_back hr (by omega) hh (show A.freed ≤ x.t by omega) (show x.t ≤ A.now by omega)
     have gg := hr.good
     refine (lret_yes c y p x (backMs c { p with q := rrem p.q x } x.t) 0 (backL c { p with q := rrem p.q x } x.t pre s) w h (by omega) hd' hfc (by rw [hr.q]; exact hh) (fun W y' hS hg => ?_)).mono fun e w' hh => StepP.refS (a := ⟨backA (cfg c first) { A with q := rrem A.q x } x.t, backM (cfg c first) { A with q := rrem A.q x } x.t, [], 0⟩) ?_ rfl g4 (by first | rfl | exact backL_steps _ _ _ _ _) hh
     ·have := lback_go c y' { p with q := rrem p.q x } (200 * (n + 1)) x.t pre post s W hS ⟨gg.srt, gg.ll, gg.lm, gg.ev, gg.st, gg.ne, gg.last, gg.svok, gg.svr, gg.svl, gg.since, gg.cid, gg.md⟩ (by omega) hql ⟨g1, g2, g3⟩ hfc (by show ¬ p.now < x.t; rw [hr.now]; exact hn0)
      rw [hg] at this
      exact this
     ·show (if c.lz then [] else antis (backP x.t) (rrem p.q x)) = (if c.lz then [] else antis (backP x.t) (rrem A.q x))
      rw [hr.q]
def SettleS (c : LC) (first : St) (y : PV) (a : Ans) (n : Nat) (st : Int) (w : World) (e : Ending) (w' : World) : Prop := ∃ va, e = .returned va ∧ MsgsP a.M w w' va ∧ ∃ y' p', SLP w' c y' p' ∧ LTurn w w' y y' ∧ RefP c first p' a.A n ∧ p'.steps = st
theorem sref_settle (h : SLP w c y p) (hr : RefP c first p A n) (hn : n ≤ 62) : Calls Tryz.prog 29 #[.pointer (some ⟨y.g, 0, none⟩)] w (SettleS c first y (setA A) n p.steps w) := by
 obtain ⟨b1, b2, b3, b4, b5⟩ := hr.bounds hn
 refine (lsettle_any c y p w h (by omega) (by omega)).mono fun e w' hh => ?_
 obtain ⟨va, h1, h2, y', h3, h4⟩ := hh
 have hnl := nextL_is hr
 rw [hnl] at h2 h3
 exact ⟨va, h1, by unfold setA; simp only; rw [← hr.q]; exact h2, y', _, h3, h4, hr.setq, rfl⟩
def FreeS (c : LC) (first : St) (y : PV) (a : Ans) (n : Nat) (st : Int) (w : World) (e : Ending) (w' : World) : Prop := ∃ va, e = .returned (.tuple #[va, .int .i64 a.e]) ∧ (OwnS w' 41 7 va a.E.length (cells a.E) ∧ ∀ k, va.ownBlock = some k → w.heap.size ≤ k) ∧ ∃ y' p', SLP w' c y' p' ∧ LTurn w w' y y' ∧ (∀ k, va.ownBlock = some k → ¬ lfoot y' k) ∧ RefP c first p' a.A n ∧ p'.steps = st
theorem FreeP.refS {E : List Ev} {er : Int} {p' : LPs} {a : Ans} {m : Nat} {st : Int} (hE : E = a.E) (he : er = a.e) (hp : RefP c first p' a.A m) (hs : p'.steps = st) {e : Ending} {w' : World} (h : FreeP c y E er p' w e w') : FreeS c first y a m st w e w' := by
 subst hE he
 obtain ⟨va, h1, h2, y', h3, h4, h5⟩ := h
 exact ⟨va, h1, h2, y', p', h3, h4, h5, hp, hs⟩
theorem sref_free (h : SLP w c y p) (hr : RefP c first p A n) (hn : n ≤ 62) (below : Int) : Calls Tryz.prog 34 #[.pointer (some ⟨y.g, 0, none⟩), .int .i64 below] w (FreeS c first y (freA A below) n p.steps w) := by
 obtain ⟨b1, b2, b3, b4, b5⟩ := hr.bounds hn
 have hle := hr.least_
 unfold freA
 by_cases hb : leastA A < below
 ·rw [if_pos hb]
  exact (lfree_late c y p below w h (by omega) (by omega) (by rw [hle]; exact hb)).mono fun e w' hh => FreeP.refS (a := ⟨A, [], [], 18⟩) rfl rfl hr rfl hh
 ·rw [if_neg hb]
  by_cases hf : below ≤ A.freed
  ·rw [if_pos hf]
   exact (lfree_none c y p below w h (by omega) (by omega) (by rw [hle]; exact hb) (by rw [hr.freed]; exact hf)).mono fun e w' hh => FreeP.refS (a := ⟨A, [], [], 0⟩) rfl rfl hr rfl hh
  ·rw [if_neg hf]
   have hft := free_t hr (show A.freed < below by omega)
   exact (lfree_go c y p below w h (by omega) (by omega) b4 (by omega) (by rw [hle]; exact hb) (by rw [hr.freed]; exact hf) hft.2 hft.1).mono fun e w' hh => FreeP.refS (a := ⟨freeA A below, [], freeM A below, 0⟩) (hr.free_ev below) rfl (free_ref hr (by omega) (by omega)) rfl hh
end
def doS (A : AM) (k st : Int) : Int := if k = 0 then stpS A st else st
def CallsS (c : LC) (first : St) (y : PV) (a : Ans) (n : Nat) (st : Int) (w : World) (e : Ending) (w' : World) : Prop := ∃ va vb, e = .returned (.tuple #[va, vb, .int .i64 a.e]) ∧ MsgsP a.M w w' va ∧ (OwnS w' 41 7 vb a.E.length (cells a.E) ∧ ∀ k, vb.ownBlock = some k → w.heap.size ≤ k) ∧ ∃ y' p', SLP w' c y' p' ∧ LTurn w w' y y' ∧ (∀ k, vb.ownBlock = some k → ¬ lfoot y' k) ∧ RefP c first p' a.A n ∧ p'.steps = st
theorem CallsS.of {c : LC} {first : St} {y : PV} {a : Ans} {n m : Nat} {w W w' : World} {va : Value} (f : Fresh w W) (hE : a.E = []) (hm : m ≤ n) (h : MsgsP a.M W w' va) {st : Int} (hh : ∃ y' p', SLP w' c y' p' ∧ LTurn W w' y y' ∧ RefP c first p' a.A m ∧ p'.steps = st) : CallsS c first y a n st w (.returned (.tuple #[va, .slice none 0 0, .int .i64 a.e])) w' := by
 obtain ⟨y', p', h1, h2, h3, h4⟩ := hh
 exact ⟨va, _, rfl, h.after f, by rw [hE]; exact ⟨OwnS.nil _ _ _, fun k hk => by simp [Value.ownBlock] at hk⟩, y', p', h1, (LTurn.fresh f).two h2, fun k hk => by simp [Value.ownBlock] at hk, h3.mono hm, h4⟩
theorem scalls_any {c : LC} {first : St} {y : PV} {p : LPs} {A : AM} {n : Nat} {w : World} (h : SLP w c y p) (hr : RefP c first p A n) (hn : n ≤ 62) (o : LOp) (hx : SmE o.x) {st : Int} (hst : doS A o.k p.steps = st) : Calls Tryz.prog 15 #[.pointer (some ⟨y.g, 0, none⟩), .agg o.arr] w (CallsS c first y (doA (cfg c first) A o.k o.b o.x o.an) (n + 1) st w) := by
 have hbox : Fresh w (w.alloc (.cells o.arr 45)) := (Keep.refl _ w).alloc _
 have H := Lib.hid (h.fresh hbox)
 have FB := Lib.hid hbox
 have HR := Lib.hid hr
 have HX := Lib.hid hx
 unfold doS at hst
 obtain ⟨k, b, ⟨a, s, t, n', d, kk, x⟩, an⟩ := o
 simp only at hst
 have HO : Hid (LOp.arr ⟨k, b, ⟨a, s, t, n', d, kk, x⟩, an⟩ = #[.int .i64 k, .int .i64 b, .int .i64 a, .int .i64 s, .int .i64 t, .int .i64 n', .int .i64 d, .int .i64 kk, .int .i64 x, .bool an]) := Lib.hid rfl
 rw [HO.out] at H FB ⊢
 clear h hr hx hbox HO
 unfold doA
 by_cases k0 : k = 0
 ·subst k0
  rw [if_pos rfl]
  rw [if_pos rfl] at hst
  subst hst
  have HC := Lib.hid (sref_step H.out HR.out hn)
  go_enter Tryz.func15, Tryz.ntmps15
  go_wp2_with (go_at_call 28; (with_reducible refine HC.out.mono ?_); rintro e w1 ⟨va, rfl, m1, s1⟩; have M1 := Lib.hid m1; have S1 := Lib.hid s1; clear m1 s1)
  go_returns
  exact CallsS.of FB.out (stp_E _ _) (Nat.le_succ n) M1.out S1.out
 rw [if_neg k0]
 rw [if_neg k0] at hst
 subst hst
 have t0 : (k == 0) = false := by simpa using k0
 by_cases k1 : k = 1
 ·subst k1
  rw [if_pos rfl]
  have HC := Lib.hid (sref_take H.out HR.out hn ⟨a, s, t, n', d, kk, x⟩ an HX.out)
  unfold Ev.msg at HC
  go_enter Tryz.func15, Tryz.ntmps15
  go_wp2_with (go_at_call 36; (with_reducible refine HC.out.mono ?_); rintro e w1 ⟨va, rfl, m1, s1⟩; have M1 := Lib.hid m1; have S1 := Lib.hid s1; clear m1 s1)
  go_returns
  exact CallsS.of FB.out (tak_E _ _ _ _) (Nat.le_refl _) M1.out S1.out
 rw [if_neg k1]
 have t1 : (k == 1) = false := by simpa using k1
 by_cases k2 : k = 2
 ·subst k2
  rw [if_pos rfl]
  have HC := Lib.hid (sref_settle H.out HR.out (by omega))
  go_enter Tryz.func15, Tryz.ntmps15
  go_wp2_with (go_at_call 29; (with_reducible refine HC.out.mono ?_); rintro e w1 ⟨va, rfl, m1, s1⟩; have M1 := Lib.hid m1; have S1 := Lib.hid s1; clear m1 s1)
  go_returns
  exact CallsS.of (a := setA A) FB.out rfl (Nat.le_succ n) M1.out S1.out
 rw [if_neg k2]
 have t2 : (k == 2) = false := by simpa using k2
 by_cases k3 : k = 3
 ·subst k3
  rw [if_pos rfl]
  have HC := Lib.hid (sref_bak H.out HR.out hn b)
  go_enter Tryz.func15, Tryz.ntmps15
  go_wp2_with (go_at_call 44; (with_reducible refine HC.out.mono ?_); rintro e w1 ⟨va, rfl, m1, s1⟩; have M1 := Lib.hid m1; have S1 := Lib.hid s1; clear m1 s1)
  go_returns
  exact CallsS.of FB.out (bak_E _ _ _) (Nat.le_refl _) M1.out S1.out
 rw [if_neg k3]
 have t3 : (k == 3) = false := by simpa using k3
 by_cases k5 : k = 5
 ·subst k5
  rw [if_pos rfl]
  have HC := Lib.hid (sref_give H.out HR.out hn ⟨a, s, t, n', d, kk, x⟩)
  unfold Ev.val at HC
  go_enter Tryz.func15, Tryz.ntmps15
  go_wp2_with (go_at_call 42; (with_reducible refine HC.out.mono ?_); rintro e w1 ⟨va, rfl, m1, s1⟩; have M1 := Lib.hid m1; have S1 := Lib.hid s1; clear m1 s1)
  go_returns
  exact CallsS.of FB.out (giv_E _ _ _) (Nat.le_refl _) M1.out S1.out
 rw [if_neg k5]
 have t5 : (k == 5) = false := by simpa using k5
 by_cases k6 : k = 6
 ·subst k6
  rw [if_pos rfl]
  have HC := Lib.hid (sref_ret H.out HR.out hn ⟨a, s, t, n', d, kk, x⟩)
  unfold Ev.val at HC
  go_enter Tryz.func15, Tryz.ntmps15
  go_wp2_with (go_at_call 32; (with_reducible refine HC.out.mono ?_); rintro e w1 ⟨va, rfl, m1, s1⟩; have M1 := Lib.hid m1; have S1 := Lib.hid s1; clear m1 s1)
  go_returns
  exact CallsS.of FB.out (ret_E _ _ _) (Nat.le_refl _) M1.out S1.out
 rw [if_neg k6]
 have t6 : (k == 6) = false := by simpa using k6
 have HC := Lib.hid (sref_free H.out HR.out (by omega) b)
 clear k0 k1 k2 k3 k5 k6
 go_enter Tryz.func15, Tryz.ntmps15
 go_wp2_with (go_at_call 34; (with_reducible refine HC.out.mono ?_); rintro e w1 ⟨va, rfl, m1, s1⟩; have M1 := Lib.hid m1; have S1 := Lib.hid s1; clear m1 s1)
 go_returns
 obtain ⟨y', p', h1, h2, h3, h4, h5⟩ := S1.out
 exact ⟨_, va, rfl, by rw [fre_M]; exact msgs_nil _ _, ⟨M1.out.1, fun k hk => Nat.le_trans FB.out.size (M1.out.2 k hk)⟩, y', p', h1, (LTurn.fresh FB.out).two h2, h3, h4.mono (Nat.le_succ n), h5⟩
end Go.Proofs.YthbcdkeammhakaaGreat
