/- Chapter 13: LpE, LpF, LpT. -/
import Derived.Test.YthbcdkeammhakaaGreatP27
import Derived.Test.YthbcdkeammhakaaGreatP23
set_option maxRecDepth 100000
set_option maxHeartbeats 16000000
namespace Go.Proofs.YthbcdkeammhakaaGreat
open Go
def cfg (c : LC) (first : St) : Cfg := ⟨runP c.md c.id, first, c.id, c.lz⟩
theorem foldl_laws {md lp t : Int} (hlp : 0 ≤ lp ∧ lp ≤ 31) (ht : 0 ≤ t) : ∀ (b : List Ev) (st : St × List Ev), OkS st.1 → (∀ e ∈ b, SmE e ∧ e.a = t) → t ≤ 1073741824 → (∀ x ∈ st.2, x.t = t ∧ 0 ≤ x.a ∧ x.a ≤ 1073741824 ∧ x.n < st.2.length) → st.2.Nodup →
  OkS (b.foldl (runStep md lp) st).1 ∧ (∀ x ∈ (b.foldl (runStep md lp) st).2, x.t = t ∧ 0 ≤ x.a ∧ x.a ≤ 1073741824 ∧ x.n < (b.foldl (runStep md lp) st).2.length) ∧ (b.foldl (runStep md lp) st).2.Nodup ∧ (b.foldl (runStep md lp) st).2.length ≤ st.2.length + b.length
 | [], st, h1, _, _, h3, h4 => ⟨h1, h3, h4, by simp⟩
 | e :: b, st, h1, h2, h5, h3, h4 => by
  obtain ⟨he, hea⟩ := h2 e (by simp)
  have hok := runS_ok hlp h1 (e := e) ⟨he, by omega, by omega⟩
  have hst : (∀ x ∈ (runStep md lp st e).2, x.t = t ∧ 0 ≤ x.a ∧ x.a ≤ 1073741824 ∧ x.n < (runStep md lp st e).2.length) ∧ (runStep md lp st e).2.Nodup ∧ (runStep md lp st e).2.length ≤ st.2.length + 1 := by
   unfold runStep runO
   simp only
   split
   ·rw [List.append_nil]
    exact ⟨h3, h4, by omega⟩
   ·split
    ·rename_i hat
     have h0 := Int.emod_nonneg (runS lp st.1 e).s0 (show (5 : Int) ≠ 0 by omega)
     refine ⟨fun x hx => ?_, ?_, by rw [List.length_append]; exact Nat.le_refl _⟩
     ·rw [List.length_append]
      simp only [List.length_singleton]
      rcases List.mem_append.1 hx with hx | hx
      ·obtain ⟨g1, g2, g3, g4⟩ := h3 x hx
       exact ⟨g1, g2, g3, by omega⟩
      ·rw [List.mem_singleton.1 hx]
       exact ⟨hea, by simp only; omega, hat, by simp only; omega⟩
     ·rw [List.nodup_append]
      refine ⟨h4, by simp, fun x hx y hy hxy => ?_⟩
      rw [List.mem_singleton.1 hy] at hxy
      have := (h3 x hx).2.2.2
      rw [hxy] at this
      simp only at this
      omega
    ·rw [List.append_nil]
     exact ⟨h3, h4, by omega⟩
  obtain ⟨g1, g2, g3, g4⟩ := foldl_laws hlp ht b (runStep md lp st e) hok (fun x hx => h2 x (by simp [hx])) h5 hst.1 hst.2.1
  refine ⟨g1, g2, g3, ?_⟩
  have := hst.2.2
  rw [List.foldl_cons, List.length_cons]
  omega
theorem run_laws {c : LC} (first : St) (hc : 0 ≤ c.id ∧ c.id ≤ 31) : Laws (cfg c first).R OkS SmE := ⟨fun s b t h1 h2 h3 h4 => by
 obtain ⟨g1, g2, g3, g4⟩ := foldl_laws (md := c.md) hc h2 b (s, []) h1 h4 h3 (fun x hx => by cases hx) List.nodup_nil
 exact ⟨g1, fun x hx => ⟨(g2 x hx).1, (g2 x hx).2.1, (g2 x hx).2.2.1⟩, g3, by have h := g4; simp only [List.length_nil, Nat.zero_add] at h; exact h⟩⟩
def FoldIs (C : Cfg) (l : List Ev) (z : Int × St) : Prop := (foldT C.R l z.1 (-1) C.first).1 = z.1 ∧ (foldT C.R l z.1 (-1) C.first).2.1 = z.2
def cutL (l : List Ev) (z0 : Int) : List Ev := l.filter (fun y => decide (z0 < y.a))
theorem nx_cut {l : List Ev} {z0 a : Int} (h : z0 ≤ a) : nx (cutL l z0) a = nx l a := by
 unfold nx cutL
 rw [nextE_filter _ (fun y _ hy => by simp; omega)]
theorem bat_cut {l : List Ev} {z0 x : Int} (h : z0 < x) : bat (cutL l z0) x = bat l x := by
 unfold bat cutL
 rw [List.filter_filter]
 congr 1
 funext y
 by_cases e : y.a = x
 ·subst e; simp [h]
 ·simp [e]
theorem above_cut {l : List Ev} {z0 a : Int} (h : z0 ≤ a) : above (cutL l z0) a = above l a := by
 unfold above cutL
 rw [List.countP_filter]
 congr 1
 funext y
 by_cases e : a < y.a
 ·simp [e]; omega
 ·simp [e]
theorem fold_more {C : Cfg} {l : List Ev} (hs : Srt l) {a x : Int} {s : St} (hf : FoldIs C l (a, s)) (hx : nx l a = some x) : foldT C.R l x (-1) C.first = (x, (C.R s (bat l x)).1, (foldT C.R l a (-1) C.first).2.2 ++ (C.R s (bat l x)).2) := by
 have h1 := (nx_some hs hx).1
 obtain ⟨g1, g2⟩ := hf
 simp only at g1 g2
 rw [foldT_comp C.R hs (show a ≤ x by omega) (-1) C.first, g1, g2, foldT_step C.R hs hx (Int.le_refl x), foldT_stop C.R (fun c' hc' => (nx_some hs hc').1)]
 simp
theorem coastN_ref {c : LC} {C : Cfg} (hC : C.R = runP c.md c.id) {l : List Ev} (hs : Srt l) (b0 z0 : Int) : ∀ (n : Nat) (p : LPs), above l p.now ≤ n → p.l = cutL l z0 → z0 ≤ p.now → p.now < b0 → (∀ z ∈ p.sv, FoldIs C l z) → FoldIs C l (p.now, p.st) →
  (coastN c n b0 p).l = p.l ∧ (coastN c n b0 p).m = p.m ∧ (coastN c n b0 p).q = p.q ∧ (coastN c n b0 p).freed = p.freed ∧ (coastN c n b0 p).steps = p.steps ∧ (∀ z ∈ (coastN c n b0 p).sv, FoldIs C l z) ∧ FoldIs C l ((coastN c n b0 p).now, (coastN c n b0 p).st) ∧ p.now ≤ (coastN c n b0 p).now ∧ (coastN c n b0 p).now < b0 ∧ (∀ x, nx l (coastN c n b0 p).now = some x → b0 ≤ x) ∧ ∃ r, (coastN c n b0 p).sv = p.sv ++ r := by
 intro n
 induction n with
 | zero =>
  intro p hn hl hz hb hsv hf
  refine ⟨rfl, rfl, rfl, rfl, rfl, hsv, hf, Int.le_refl _, hb, fun x hx => ?_, [], by simp [coastN]⟩
  have hx' : nx l p.now = some x := hx
  obtain ⟨h1, h2, _⟩ := nx_some hs hx'
  have := above_lt h1 h2
  omega
 | succ n ih =>
  intro p hn hl hz hb hsv hf
  have hnx : nx p.l p.now = nx l p.now := by rw [hl, nx_cut hz]
  unfold coastN
  cases hx : nx p.l p.now with
  | none => exact ⟨rfl, rfl, rfl, rfl, rfl, hsv, hf, Int.le_refl _, hb, (fun x hx' => (by rw [hnx] at hx; have hx2 : nx l p.now = some x := hx'; rw [hx] at hx2; cases hx2)), [], by simp⟩
  | some x =>
   rw [hnx] at hx
   obtain ⟨h1, h2, _⟩ := nx_some hs hx
   have h3 := above_lt h1 h2
   simp only
   by_cases hxb : x < b0
   ·rw [if_pos hxb]
    have hbat : bat p.l x = bat l x := by rw [hl, bat_cut (by omega)]
    have hm := fold_more hs hf hx
    have hf1 : FoldIs C l ((coast1 c p x).now, (coast1 c p x).st) := by
     refine ⟨?_, ?_⟩
     ·show (foldT C.R l x (-1) C.first).1 = x
      rw [hm]
     ·show (foldT C.R l x (-1) C.first).2.1 = (runP c.md c.id p.st (bat p.l x)).1
      rw [hm, hbat, ← hC]
    have hsv1 : ∀ z ∈ (coast1 c p x).sv, FoldIs C l z := fun z hz => by
     have hz' : z ∈ (ranL c p x (runP c.md c.id p.st (bat p.l x)).1).sv := hz
     unfold ranL at hz'
     simp only at hz'
     split at hz'
     ·rcases List.mem_append.1 hz' with hz' | hz'
      ·exact hsv z hz'
      ·rw [List.mem_singleton.1 hz']; exact hf1
     ·exact hsv z hz'
    obtain ⟨i1, i2, i3, i4, i5, i6, i7, i8, i9, i10, r, i11⟩ := ih (coast1 c p x) (by show above l x ≤ n; omega) hl (by show z0 ≤ x; omega) hxb hsv1 hf1
    refine ⟨i1, i2, i3, i4, i5, i6, i7, by have : x ≤ _ := i8; omega, i9, i10, ?_⟩
    have hsv2 : ∃ r', (coast1 c p x).sv = p.sv ++ r' := by
     show ∃ r', (ranL c p x (runP c.md c.id p.st (bat p.l x)).1).sv = p.sv ++ r'
     unfold ranL
     simp only
     split
     ·exact ⟨_, rfl⟩
     ·exact ⟨[], by simp⟩
    obtain ⟨r', hr'⟩ := hsv2
    exact ⟨r' ++ r, by rw [i11, hr', List.append_assoc]⟩
   ·rw [if_neg hxb]
    exact ⟨rfl, rfl, rfl, rfl, rfl, hsv, hf, Int.le_refl _, hb, (fun x' hx' => (by have hx2 : nx l p.now = some x' := hx'; rw [hx] at hx2; injection hx2 with hx2; omega)), [], by simp⟩
structure RefP (c : LC) (first : St) (p : LPs) (A : AM) (n : Nat) : Prop where
 inv : InvA (cfg c first) SmE A
 good : GoodP c p (200 * (n + 1))
 m : p.m = A.m
 q : p.q = A.q
 now : p.now = A.now
 freed : p.freed = A.freed
 st : p.st = (A.fold (cfg c first)).2.1
 t0 : ∃ z r, p.sv = z :: r ∧ z.1 < A.freed ∧ p.l = cutL A.l z.1
 sv : ∀ z ∈ p.sv, FoldIs (cfg c first) A.l z
 okf : OkS first
 ql : A.q.length + above A.l A.now ≤ 83 * n + 20
 al : A.l.length + A.m.length ≤ n + 20
section
variable {c : LC} {first : St} {p : LPs} {A : AM} {n : Nat}
theorem RefP.z0 (h : RefP c first p A n) : ∃ z0, p.l = cutL A.l z0 ∧ z0 ≤ p.now ∧ z0 < A.freed ∧ ∃ s r, p.sv = (z0, s) :: r := by
 obtain ⟨⟨z0, s⟩, r, h1, h2, h3⟩ := h.t0
 exact ⟨z0, h3, h.good.last (z0, s) (by rw [h1]; simp), h2, s, r, h1⟩
theorem RefP.nx_ (h : RefP c first p A n) : nx p.l p.now = nx A.l A.now := by
 obtain ⟨z0, h1, h2, _⟩ := h.z0
 rw [h1, nx_cut h2, h.now]
theorem RefP.above_ (h : RefP c first p A n) : above p.l p.now = above A.l A.now := by
 obtain ⟨z0, h1, h2, _⟩ := h.z0
 rw [h1, above_cut h2, h.now]
theorem RefP.bat_ (h : RefP c first p A n) {x : Int} (hx : nx A.l A.now = some x) : bat p.l x = bat A.l x := by
 obtain ⟨z0, h1, h2, _⟩ := h.z0
 have := (nx_some h.inv.sl hx).1
 rw [h1, bat_cut (by have := h.now; omega)]
theorem RefP.snd_ (h : RefP c first p A n) {x : Int} (hx : nx A.l A.now = some x) : (runP c.md c.id p.st (bat p.l x)).2 = sndA (cfg c first) A x := by
 rw [h.bat_ hx, h.st]; rfl
theorem RefP.laws (h : RefP c first p A n) : Laws (cfg c first).R OkS SmE := run_laws first h.good.cid
theorem cutL_len (l : List Ev) (z0 : Int) : (cutL l z0).length ≤ l.length := List.length_filter_le _ _
end
end Go.Proofs.YthbcdkeammhakaaGreat
namespace Go.Proofs.YthbcdkeammhakaaGreat
open Go.RowKit
theorem filt_le {l l' : List Ev} {tu z : Int} (he : l.filter (fun y => decide (y.a ≤ tu)) = l'.filter (fun y => decide (y.a ≤ tu))) (hz : z ≤ tu) : l.filter (fun y => decide (y.a ≤ z)) = l'.filter (fun y => decide (y.a ≤ z)) := by
 have key : ∀ l : List Ev, l.filter (fun y => decide (y.a ≤ z)) = (l.filter (fun y => decide (y.a ≤ tu))).filter (fun y => decide (y.a ≤ z)) := fun l => by
  rw [List.filter_filter]
  congr 1
  funext y
  by_cases e : y.a ≤ z
  ·simp [e]; omega
  ·simp [e]
 rw [key l, he, ← key l']
theorem FoldIs.congr {C : Cfg} {l l' : List Ev} (h : Srt l) (h' : Srt l') {tu : Int} (he : l.filter (fun y => decide (y.a ≤ tu)) = l'.filter (fun y => decide (y.a ≤ tu))) {z : Int × St} (hz : z.1 ≤ tu) (hf : FoldIs C l z) : FoldIs C l' z := by
 have e := foldT_congr C.R h h' (filt_le he hz) (-1) C.first
 unfold FoldIs
 rw [← e]
 exact hf
theorem coastN_good {c : LC} (b0 : Int) {N : Nat} : ∀ (n : Nat) {p : LPs}, GoodP c p N → GoodP c (coastN c n b0 p) N := by
 intro n
 induction n with
 | zero => intro p h; exact h
 | succ n ih =>
  intro p h
  unfold coastN
  split
  ·rename_i x hx
   split
   ·exact ih (coast_good h hx)
   ·exact h
  ·exact h
theorem stay_len (f : Rec → Bool) (q : List Rec) : (stay f q).length ≤ q.length := List.length_filter_le _ _
theorem save_split : ∀ (sv : List (Int × St)) (tu : Int), (∃ z r, sv = z :: r ∧ z.1 < tu) → ∃ pre s post, sv = pre ++ s :: post ∧ (∀ z ∈ pre ++ [s], z.1 < tu) ∧ ∀ z, post.head? = some z → ¬ z.1 < tu
 | [], _, h => by obtain ⟨z, r, h, _⟩ := h; cases h
 | y :: sv, tu, h => by
  obtain ⟨z, r, h1, h2⟩ := h
  injection h1 with h3 h4
  subst h3 h4
  by_cases hh : ∃ z' r', sv = z' :: r' ∧ z'.1 < tu
  ·obtain ⟨pre, s, post, g1, g2, g3⟩ := save_split sv tu hh
   refine ⟨y :: pre, s, post, by rw [g1]; rfl, fun z hz => ?_, g3⟩
   rcases List.mem_cons.1 hz with rfl | hz
   ·exact h2
   ·exact g2 z hz
  ·refine ⟨[], y, sv, rfl, fun z hz => by rw [List.mem_singleton.1 hz]; exact h2, fun z hz hlt => hh ?_⟩
   cases sv with
   | nil => cases hz
   | cons z' r' => injection hz with hz; subst hz; exact ⟨_, _, rfl, hlt⟩
section
variable {c : LC} {first : St} {p : LPs} {A : AM} {n : Nat}
theorem RefP.conc (h : RefP c first p A n) (hn : n ≤ 62) {z0 : Int} {l' m' : List Ev} {q' : List Rec} (hl : Srt l') (hev : EvOk SmE l') (hal : l'.length + m'.length ≤ n + 21) : GoodP c { p with l := cutL l' z0, m := m', q := q' } (200 * (n + 2)) := by
 have g := h.good
 have h1 := cutL_len l' z0
 have h2 := above_le (cutL l' z0) p.now
 have h3 := g.svl
 have h4 := g.since
 exact ⟨hl.filter_ _, by show (cutL l' z0).length ≤ 1000; omega, by show m'.length ≤ 1000; omega, fun e he => hev e (List.mem_filter.1 he).1, g.st, g.ne, g.last, g.svok, g.svr, by show p.sv.length + above (cutL l' z0) p.now ≤ _; omega, ⟨h4.1, by show p.since + (above (cutL l' z0) p.now : Nat) ≤ _; omega⟩, g.cid, g.md⟩
theorem back_ref (h : RefP c first p A n) (hn : n ≤ 62) {tu z0 : Int} {s0 : St} {r0 : List (Int × St)} (hz : p.sv = (z0, s0) :: r0) (hzf : z0 < A.freed) (hto : A.freed ≤ tu) (hle : tu ≤ A.now) {l' m' : List Ev} {q' : List Rec} (hl : Srt l') (hm : Srt m') (hev : EvOk SmE l') (hdis : ∀ x ∈ m', x ∉ l')
  (he : A.l.filter (fun y => decide (y.a ≤ tu - 1)) = l'.filter (fun y => decide (y.a ≤ tu - 1))) (hq : RSrt q') (hsub : ∀ r ∈ q', r ∈ A.q) (hkeep : ∀ r ∈ A.q, r.1.t < tu → r ∈ q') (hql : q'.length ≤ A.q.length) (hal : l'.length + m'.length ≤ n + 21) :
  ∃ pre s post, p.sv = pre ++ s :: post ∧ (∀ z ∈ pre ++ [s], z.1 < tu) ∧ (∀ z, post.head? = some z → ¬ z.1 < tu) ∧ RefP c first (backL c { p with l := cutL l' z0, m := m', q := q' } tu pre s) (backA (cfg c first) { A with l := l', m := m', q := q' } tu) (n + 1) := by
 obtain ⟨pre, s, post, g1, g2, g3⟩ := save_split p.sv tu ⟨_, _, hz, by show z0 < tu; omega⟩
 refine ⟨pre, s, post, g1, g2, g3, ?_⟩
 have hg := h.conc hn (z0 := z0) (q' := q') hl hev hal
 have hsub2 : ∀ z ∈ pre ++ [s], z ∈ p.sv := fun z hzz => by
  rw [g1]
  rcases List.mem_append.1 hzz with hzz | hzz
  ·exact List.mem_append.2 (.inl hzz)
  ·rw [List.mem_singleton.1 hzz]
   exact List.mem_append.2 (.inr (by simp))
 have hsvF : ∀ z ∈ pre ++ [s], FoldIs (cfg c first) l' z := fun z hzz => FoldIs.congr h.inv.sl hl he (hf := h.sv z (hsub2 z hzz)) (by have := g2 z hzz; omega)
 have hpw : (pre ++ [s]).Pairwise (fun a b => a.1 < b.1) := by
  have := h.good.svr
  rw [g1, show pre ++ s :: post = (pre ++ [s]) ++ post by simp, List.pairwise_append] at this
  exact this.1
 have hhead : ∃ s1 r1, pre ++ [s] = (z0, s1) :: r1 := by
  rw [g1] at hz
  cases pre with
  | nil => injection hz with hz _; subst hz; exact ⟨s0, [], rfl⟩
  | cons a pre => injection hz with hz _; subst hz; exact ⟨s0, _, rfl⟩
 have hz0s : z0 ≤ s.1 := by
  obtain ⟨s1, r1, e⟩ := hhead
  have hs : s ∈ (z0, s1) :: r1 := by rw [← e]; simp
  rw [e, List.pairwise_cons] at hpw
  rcases List.mem_cons.1 hs with hs | hs
  ·rw [hs]; exact Int.le_refl _
  ·exact Int.le_of_lt (hpw.1 s hs)
 have hsto : s.1 < tu := g2 s (by simp)
 have hsF : FoldIs (cfg c first) l' (s.1, s.2) := hsvF s (by simp)
 have hg0 : GoodP c { p with l := cutL l' z0, m := m', q := q', sv := pre ++ [s], now := s.1, st := s.2, since := 0 } (200 * (n + 2)) := by
  have h1 := cutL_len l' z0
  have h2 := above_le (cutL l' z0) s.1
  have h3 := h.good.svl
  have h5 : p.sv.length = pre.length + 1 + post.length := by rw [g1]; simp; omega
  refine ⟨hg.srt, hg.ll, hg.lm, hg.ev, h.good.svok s (hsub2 s (by simp)), by simp, fun z hzz => ?_, fun z hzz => h.good.svok z (hsub2 z hzz), hpw, ?_, ⟨Int.le_refl _, ?_⟩, hg.cid, hg.md⟩
  ·show z.1 ≤ s.1
   rcases List.mem_append.1 hzz with hzz | hzz
   ·have h3 := hpw
    rw [List.pairwise_append] at h3
    exact Int.le_of_lt (h3.2.2 z hzz s (by simp))
   ·rw [List.mem_singleton.1 hzz]; exact Int.le_refl _
  ·show (pre ++ [s]).length + above (cutL l' z0) s.1 ≤ _
   rw [List.length_append]
   simp only [List.length_singleton]
   omega
  ·show (0 : Int) + (above (cutL l' z0) s.1 : Nat) ≤ _
   omega
 have hab := above_cut (l := l') hz0s
 obtain ⟨i1, i2, i3, i4, i5, i6, i7, i8, i9, i10, r, i11⟩ := coastN_ref (c := c) (C := cfg c first) rfl hl tu z0 (above (cutL l' z0) s.1) { p with l := cutL l' z0, m := m', q := q', sv := pre ++ [s], now := s.1, st := s.2, since := 0 } (by rw [hab]; exact Nat.le_refl _) rfl hz0s hsto hsvF hsF
 have hgz := coastN_good (c := c) tu (above (cutL l' z0) s.1) hg0
 obtain ⟨P, hP⟩ : ∃ P, coastN c (above (cutL l' z0) s.1) tu { p with l := cutL l' z0, m := m', q := q', sv := pre ++ [s], now := s.1, st := s.2, since := 0 } = P := ⟨_, rfl⟩
 have hbl : backL c { p with l := cutL l' z0, m := m', q := q' } tu pre s = { P with q := if c.lz then doubt tu q' else stay (backP tu) q' } := by
  unfold backL coastT
  rw [← hP]
 rw [hP] at i1 i2 i3 i4 i5 i6 i7 i8 i9 i10 i11 hgz
 rw [hbl]
 simp only at i1 i2 i3 i4 i5 i6 i7 i8 i9 i10 i11
 have hfold : foldT (cfg c first).R l' (tu - 1) (-1) first = (P.now, P.st, (foldT (cfg c first).R l' P.now (-1) first).2.2) := by
  have e := foldT_comp (cfg c first).R hl (show P.now ≤ tu - 1 by omega) (-1) first
  obtain ⟨f1, f2⟩ := i7
  simp only at f1 f2
  have f1 : (foldT (cfg c first).R l' P.now (-1) first).1 = P.now := f1
  have f2 : (foldT (cfg c first).R l' P.now (-1) first).2.1 = P.st := f2
  rw [e, f1, f2, foldT_stop (cfg c first).R (fun x hx => by have := i10 x hx; omega)]
  simp
 have hnow : (backA (cfg c first) { A with l := l', m := m', q := q' } tu).now = P.now := by
  show (foldT (cfg c first).R l' (tu - 1) (-1) first).1 = P.now
  rw [hfold]
 have hinv := back_inv h.laws h.inv h.okf hto hle hl hm hev hdis he hq hsub hkeep
 refine ⟨hinv, ?_, i2, rfl, hnow.symm, i4.trans h.freed, ?_, ?_, ?_, h.okf, ?_, hal⟩
 ·exact ⟨hgz.srt, hgz.ll, hgz.lm, hgz.ev, hgz.st, hgz.ne, hgz.last, hgz.svok, hgz.svr, hgz.svl, hgz.since, hgz.cid, hgz.md⟩
 ·show P.st = (foldT (cfg c first).R l' (backA (cfg c first) { A with l := l', m := m', q := q' } tu).now (-1) first).2.1
  rw [hnow]
  exact i7.2.symm
 ·obtain ⟨s1, r1, e⟩ := hhead
  exact ⟨(z0, s1), r1 ++ r, by show P.sv = _; rw [i11, e]; rfl, hzf, i1⟩
 ·exact i6
 ·show (if c.lz then doubt tu q' else stay (backP tu) q').length + above l' (backA (cfg c first) { A with l := l', m := m', q := q' } tu).now ≤ _
  have h1 := above_le l' (backA (cfg c first) { A with l := l', m := m', q := q' } tu).now
  have h2 := h.ql
  have h3 := stay_len (backP tu) q'
  have h4 : (doubt tu q').length = q'.length := by unfold doubt; simp
  split <;> omega
theorem put_sum (l m : List Ev) (x : Ev) (an : Bool) : (putL l m x an).length + (putB l m x an).length ≤ l.length + m.length + 1 := by
 cases an
 ·cases hh : has m x
  ·simp only [putL, putB, hh, Bool.false_eq_true, if_false]
   have := ins_len l x
   omega
  ·simp only [putL, putB, hh, Bool.false_eq_true, if_false, if_true]
   have := rem_len hh
   omega
 ·cases hh : has l x
  ·simp only [putL, putB, hh, Bool.false_eq_true, if_false, if_true]
   have := ins_len m x
   omega
  ·simp only [putL, putB, hh, if_true]
   have := rem_len hh
   omega
theorem put_cut {l m : List Ev} (hl : Srt l) (hm : Srt m) (hd : ∀ x ∈ m, x ∉ l) {z0 : Int} {x : Ev} (hx : z0 < x.a) (an : Bool) : putL (cutL l z0) m x an = cutL (putL l m x an) z0 ∧ putB (cutL l z0) m x an = putB l m x an ∧ putMet (cutL l z0) m x an = putMet l m x an := by
 have hlc : Srt (cutL l z0) := hl.filter_ _
 have hh : has (cutL l z0) x = has l x := by
  have h1 := has_mem hlc x
  have h2 := has_mem hl x
  have h3 : x ∈ cutL l z0 ↔ x ∈ l := by unfold cutL; rw [List.mem_filter]; simp [hx]
  rw [Bool.eq_iff_iff, h1, h2, h3]
 refine ⟨?_, by unfold putB; rw [hh], by unfold putMet; rw [hh]⟩
 have hd' : ∀ y ∈ m, y ∉ cutL l z0 := fun y hy hc => hd y hy (List.mem_filter.1 hc).1
 have q1 := (dis_q hlc hm hd').put x an
 have q2 := (dis_q hl hm hd).put x an
 refine srt_ext q1.s1 (q2.s1.filter_ _) fun y => ?_
 have c1 := q1.c1 y
 have c2 := q2.c1 y
 unfold dput at c1 c2
 simp only at c1 c2
 have e1 : ∀ L : List Ev, z0 < y.a → cnt (cutL L z0) y = cnt L y := fun L hy => by
  rw [cnt_count, cnt_count]
  exact List.count_filter (by simpa using hy)
 have e2 : ∀ L : List Ev, ¬ z0 < y.a → cnt (cutL L z0) y = 0 := fun L hy => by
  rw [cnt_count]
  exact List.count_eq_zero.2 fun h => hy (by simpa using (List.mem_filter.1 h).2)
 show cnt (putL (cutL l z0) m x an) y = cnt (cutL (putL l m x an) z0) y
 by_cases hy : z0 < y.a
 ·rw [e1 l hy] at c1
  rw [e1 _ hy]
  omega
 ·have hxy : x ≠ y := fun e => hy (by rw [← e]; exact hx)
  rw [e2 l hy, if_neg hxy] at c1
  rw [e2 _ hy]
  omega
def putLp (p : LPs) (x : Ev) (an : Bool) : LPs := { p with l := putL p.l p.m x an, m := putB p.l p.m x an }
theorem RefP.put_ (h : RefP c first p A n) {x : Ev} (hfr : A.freed ≤ x.a) (an : Bool) : putMet p.l p.m x an = putMet A.l A.m x an ∧ ∃ z0 s0 r0, p.sv = (z0, s0) :: r0 ∧ z0 < A.freed ∧ z0 ≤ p.now ∧ p.l = cutL A.l z0 ∧ putLp p x an = { p with l := cutL (putL A.l A.m x an) z0, m := putB A.l A.m x an, q := A.q } := by
 obtain ⟨z0, h1, h2, h3, s0, r0, h4⟩ := h.z0
 obtain ⟨e1, e2, e3⟩ := put_cut h.inv.sl h.inv.sm_ h.inv.dis (show z0 < x.a by omega) an
 refine ⟨by rw [h1, h.m, e3], z0, s0, r0, h4, h3, h2, h1, ?_⟩
 unfold putLp
 rw [h1, h.m, e1, e2, ← h.q]
theorem put_ref (h : RefP c first p A n) (hn : n ≤ 62) {x : Ev} {an : Bool} (hx : SmE x ∧ 0 ≤ x.a ∧ x.a ≤ 1073741824) (hfr : A.freed ≤ x.a) (hc : A.now < x.a ∨ putMet A.l A.m x an ≠ an) : RefP c first (putLp p x an) (putD A x an) (n + 1) := by
 obtain ⟨_, z0, s0, r0, hz, hzf, hzn, hlc, e⟩ := h.put_ hfr an
 have hinv := put_stay h.inv hx hfr hc
 have hsum := put_sum A.l A.m x an
 have hal := h.al
 have hg := h.conc hn (z0 := z0) (m' := putB A.l A.m x an) (q' := A.q) hinv.sl hinv.ev (by show (putL A.l A.m x an).length + _ ≤ _; omega)
 have hkp : A.l.filter (fun y => decide (y.a ≤ A.now)) = (putL A.l A.m x an).filter (fun y => decide (y.a ≤ A.now)) := by
  rcases hc with hc | hc
  ·exact put_keep h.inv hc
  ·rw [putL_same hc]
 rw [e]
 refine ⟨hinv, hg, rfl, rfl, h.now, h.freed, ?_, ⟨_, _, hz, hzf, rfl⟩, fun z hzz => FoldIs.congr h.inv.sl hinv.sl hkp (hf := h.sv z hzz) (by have := h.good.last z hzz; have := h.now; omega), h.okf, ?_, ?_⟩
 ·show p.st = (foldT (cfg c first).R (putL A.l A.m x an) A.now (-1) first).2.1
  rw [h.st]
  unfold AM.fold
  rw [foldT_congr _ h.inv.sl hinv.sl hkp]
  rfl
 ·show A.q.length + above (putL A.l A.m x an) A.now ≤ _
  have h1 := above_le (putL A.l A.m x an) A.now
  have h2 := h.ql
  omega
 ·show (putL A.l A.m x an).length + (putB A.l A.m x an).length ≤ _
  omega
theorem come_back (h : RefP c first p A n) (hn : n ≤ 62) {x : Ev} {an : Bool} (hx : SmE x ∧ 0 ≤ x.a ∧ x.a ≤ 1073741824) (hfr : A.freed ≤ x.a) (hc : x.a ≤ A.now) : ∃ pre s post, (putLp p x an).sv = pre ++ s :: post ∧ (∀ z ∈ pre ++ [s], z.1 < x.a) ∧ (∀ z, post.head? = some z → ¬ z.1 < x.a) ∧ GoodP c (putLp p x an) (200 * (n + 2)) ∧ RefP c first (backL c (putLp p x an) x.a pre s) (backA (cfg c first) (putD A x an) x.a) (n + 1) := by
 obtain ⟨_, z0, s0, r0, hz, hzf, hzn, hlc, e⟩ := h.put_ hfr an
 have hq := (dis_q h.inv.sl h.inv.sm_ h.inv.dis).put x an
 have hsum := put_sum A.l A.m x an
 have hal := h.al
 rw [e]
 obtain ⟨pre, s, post, g1, g2, g3, g4⟩ := back_ref h hn hz hzf hfr hc hq.s1 hq.s2 (put_ev h.inv.ev hx) (q_dis hq) (put_keep h.inv (show x.a - 1 < x.a by omega)) h.inv.sq (fun _ h => h) (fun _ h _ => h) (Nat.le_refl _) (by omega)
 exact ⟨pre, s, post, g1, g2, g3, h.conc hn hq.s1 (put_ev h.inv.ev hx) (by omega), g4⟩
theorem plain_back (h : RefP c first p A n) (hn : n ≤ 62) {tu : Int} (hto : A.freed ≤ tu) (hle : tu ≤ A.now) : ∃ pre s post, p.sv = pre ++ s :: post ∧ (∀ z ∈ pre ++ [s], z.1 < tu) ∧ (∀ z, post.head? = some z → ¬ z.1 < tu) ∧ RefP c first (backL c p tu pre s) (backA (cfg c first) A tu) (n + 1) := by
 obtain ⟨z0, h1, h2, h3, s0, r0, h4⟩ := h.z0
 have hal := h.al
 obtain ⟨pre, s, post, g1, g2, g3, g4⟩ := back_ref h hn h4 h3 hto hle h.inv.sl h.inv.sm_ h.inv.ev h.inv.dis rfl h.inv.sq (fun _ h => h) (fun _ h _ => h) (Nat.le_refl _) (by omega)
 have e : { p with l := cutL A.l z0, m := A.m, q := A.q } = p := by rw [← h1, ← h.m, ← h.q]
 rw [e] at g4
 exact ⟨pre, s, post, g1, g2, g3, g4⟩
theorem rrem_len (q : List Rec) (x : Ev) : (rrem q x).length ≤ q.length := by
 unfold rrem
 rw [List.length_append, List.length_take, List.length_drop]
 omega
theorem RefP.retq (h : RefP c first p A n) {x : Ev} (hh : rhas A.q x = true) (hle : A.now < x.t) : RefP c first { p with q := rrem p.q x } { A with q := rrem A.q x } n := by
 have g := h.good
 have := rrem_len A.q x
 have := h.ql
 exact ⟨ret_stay h.laws h.inv h.okf hh hle, ⟨g.srt, g.ll, g.lm, g.ev, g.st, g.ne, g.last, g.svok, g.svr, g.svl, g.since, g.cid, g.md⟩, h.m, by show rrem p.q x = _; rw [h.q], h.now, h.freed, h.st, h.t0, h.sv, h.okf, by show (rrem A.q x).length + above A.l A.now ≤ _; omega, h.al⟩
theorem retq_back (h : RefP c first p A n) (hn : n ≤ 62) {x : Ev} (hh : rhas A.q x = true) (hto : A.freed ≤ x.t) (hle : x.t ≤ A.now) : ∃ pre s post, p.sv = pre ++ s :: post ∧ (∀ z ∈ pre ++ [s], z.1 < x.t) ∧ (∀ z, post.head? = some z → ¬ z.1 < x.t) ∧ RefP c first (backL c { p with q := rrem p.q x } x.t pre s) (backA (cfg c first) { A with q := rrem A.q x } x.t) (n + 1) := by
 obtain ⟨z0, h1, h2, h3, s0, r0, h4⟩ := h.z0
 have hal := h.al
 obtain ⟨pre, s, post, g1, g2, g3, g4⟩ := back_ref h hn h4 h3 hto hle h.inv.sl h.inv.sm_ h.inv.ev h.inv.dis rfl (h.inv.sq.rem_ x) (fun r hr => ((rrem_mem h.inv.sq hh r.1 r.2).1 hr).2) (fun r hr ht => (rrem_mem h.inv.sq hh r.1 r.2).2 ⟨fun e => by rw [e] at ht; omega, hr⟩) (rrem_len _ _) (by omega)
 have e : { p with l := cutL A.l z0, m := A.m, q := rrem A.q x } = { p with q := rrem p.q x } := by rw [← h1, ← h.m, ← h.q]
 rw [e] at g4
 exact ⟨pre, s, post, g1, g2, g3, g4⟩
theorem RefP.setq (h : RefP c first p A n) : RefP c first { p with q := stay (flushP (nextB A)) p.q } (settleA A) n := by
 have g := h.good
 have := stay_len (flushP (nextB A)) A.q
 have := h.ql
 exact ⟨settle_inv h.inv, ⟨g.srt, g.ll, g.lm, g.ev, g.st, g.ne, g.last, g.svok, g.svr, g.svl, g.since, g.cid, g.md⟩, h.m, by show stay _ p.q = stay _ A.q; rw [h.q], h.now, h.freed, h.st, h.t0, h.sv, h.okf, by show (stay (flushP (nextB A)) A.q).length + above A.l A.now ≤ _; omega, h.al⟩
theorem sentQ_len (a : Int) (l : List Ev) (q : List Rec) : (sentQ a l q).length ≤ q.length + l.length := by
 unfold sentQ
 split
 ·unfold sentFrom
  have h1 := (steps_le (esort l) (stay (sentP a (esort l)) q, antis (sentP a (esort l)) q)).1
  have h2 := stay_len (sentP a (esort l)) q
  have h3 := esort_len l
  simp only at h1
  omega
 ·omega
theorem above_bat {l : List Ev} {a x : Int} (h : a < x) : above l x + (bat l x).length ≤ above l a := by
 unfold above bat
 rw [← List.countP_eq_length_filter]
 induction l with
 | nil => simp
 | cons y l ih =>
  simp only [List.countP_cons]
  by_cases h1 : x < y.a
  ·have h2 : ¬ y.a = x := by omega
   have h3 : a < y.a := by omega
   simp [h1, h2, h3]; omega
  ·by_cases h2 : y.a = x
   ·have h3 : a < y.a := by omega
    simp [h2, h]; omega
   ·by_cases h3 : a < y.a
    ·simp [h1, h2, h3]; omega
    ·simp [h1, h2, h3]; omega
def stepLp (c : LC) (p : LPs) (x : Int) : LPs := { ranL c { p with q := sentQ x (runP c.md c.id p.st (bat p.l x)).2 p.q } x (runP c.md c.id p.st (bat p.l x)).1 with steps := wrap64 (p.steps + 1) }
theorem step_ref (h : RefP c first p A n) {x : Int} (hx : nx A.l A.now = some x) : RefP c first (stepLp c p x) (stepA (cfg c first) A x) n := by
 have g := h.good
 have hxp : nx p.l p.now = some x := by rw [h.nx_]; exact hx
 have hok : OkS (runP c.md c.id p.st (bat p.l x)).1 := runP_ok g.cid g.st (fun e he => g.ev e (List.mem_filter.1 he).1)
 have hsnd := h.snd_ hx
 have hst : (runP c.md c.id p.st (bat p.l x)).1 = ((cfg c first).R (A.fold (cfg c first)).2.1 (bat A.l x)).1 := by rw [h.bat_ hx, h.st]; rfl
 have g0 : GoodP c { p with q := sentQ x (runP c.md c.id p.st (bat p.l x)).2 p.q } (200 * (n + 1)) := ⟨g.srt, g.ll, g.lm, g.ev, g.st, g.ne, g.last, g.svok, g.svr, g.svl, g.since, g.cid, g.md⟩
 have g1 := ran_good g0 hxp hok
 have hfn := fold_next h.inv hx
 have hF : FoldIs (cfg c first) A.l (x, (runP c.md c.id p.st (bat p.l x)).1) := by
  unfold FoldIs
  simp only
  rw [hfn, hst]
  exact ⟨rfl, rfl⟩
 refine ⟨step_inv h.laws h.inv h.okf hx, ⟨g1.srt, g1.ll, g1.lm, g1.ev, g1.st, g1.ne, g1.last, g1.svok, g1.svr, g1.svl, g1.since, g1.cid, g1.md⟩, h.m, ?_, rfl, h.freed, hF.2.symm, ?_, ?_, h.okf, ?_, h.al⟩
 ·show sentQ x (runP c.md c.id p.st (bat p.l x)).2 p.q = sentQ x (sndA (cfg c first) A x) A.q
  rw [hsnd, h.q]
 ·obtain ⟨z, r, t1, t2, t3⟩ := h.t0
  have : ∃ r', (stepLp c p x).sv = z :: r' := by
   show ∃ r', (ranL c { p with q := _ } x _).sv = z :: r'
   unfold ranL
   simp only
   split
   ·exact ⟨r ++ [(x, (runP c.md c.id p.st (bat p.l x)).1)], by rw [t1]; rfl⟩
   ·exact ⟨r, t1⟩
  obtain ⟨r', hr'⟩ := this
  exact ⟨z, r', hr', t2, t3⟩
 ·intro z hz
  have hz' : z ∈ (ranL c { p with q := sentQ x (runP c.md c.id p.st (bat p.l x)).2 p.q } x (runP c.md c.id p.st (bat p.l x)).1).sv := hz
  unfold ranL at hz'
  simp only at hz'
  split at hz'
  ·rcases List.mem_append.1 hz' with hz' | hz'
   ·exact h.sv z hz'
   ·rw [List.mem_singleton.1 hz']; exact hF
  ·exact h.sv z hz'
 ·show (sentQ x (sndA (cfg c first) A x) A.q).length + above A.l x ≤ _
  have h1 := sentQ_len x (sndA (cfg c first) A x) A.q
  have h2 := (snd_ok h.laws h.inv h.okf hx).2.2.2.1
  have h3 := above_bat (l := A.l) (nx_some h.inv.sl hx).1
  have h4 := h.ql
  omega
theorem RefP.least_ (h : RefP c first p A n) : leastP p = leastA A := by
 have h1 := h.nx_
 unfold leastP leastA
 rw [h.q]
 unfold nx at h1 ⊢
 cases hp : nextE p.l p.now with
 | none =>
  rw [hp] at h1
  rw [← h1]
  rfl
 | some y =>
  rw [hp] at h1
  rw [← h1]
  rfl
def freeSv (sv : List (Int × St)) (below : Int) : List (Int × St) := if RS.upTo sv below < 2 then sv else sv.drop (RS.upTo sv below - 1)
def freeT (sv : List (Int × St)) : Int := match sv with | z :: _ => z.1 | [] => 0
def freeLp (p : LPs) (below : Int) : LPs := { p with l := p.l.drop (p.l.filter (fun y => decide (y.a < freeT (freeSv p.sv below) + 1))).length, q := stay (dropP below) p.q, sv := freeSv p.sv below, freed := below }
theorem drop_cut : ∀ {l : List Ev}, Srt l → ∀ b : Int, l.drop (l.filter (fun y => decide (y.a < b + 1))).length = cutL l b
 | [], _, _ => rfl
 | y :: l, h, b => by
  unfold cutL
  have h2 := h.asc
  rw [List.pairwise_cons] at h2
  unfold Srt at h
  rw [List.pairwise_cons] at h
  by_cases hy : y.a < b + 1
  ·have e1 : ¬ b < y.a := by omega
   rw [List.filter_cons_of_pos (by simpa using hy), List.length_cons, List.drop_succ_cons, List.filter_cons_of_neg (by simpa using e1)]
   exact drop_cut h.2 b
  ·have e1 : b < y.a := by omega
   rw [List.filter_cons_of_neg (by simpa using hy), List.filter_cons_of_pos (by simpa using e1)]
   have e3 : l.filter (fun y => decide (y.a < b + 1)) = [] := filt_none fun z hz => by have := h2.1 z hz; simp; omega
   have e4 : l.filter (fun y => decide (b < y.a)) = l := List.filter_eq_self.2 fun z hz => by have := h2.1 z hz; simp; omega
   rw [e3, e4]
   rfl
theorem upTo_at : ∀ (sv : List (Int × St)) (b : Int) (j : Nat), j < RS.upTo sv b → ∃ z, sv[j]? = some z ∧ z.1 < b
 | [], b, j, h => by simp [RS.upTo] at h
 | y :: sv, b, j, h => by
  unfold RS.upTo at h
  rw [List.takeWhile_cons] at h
  split at h
  ·rename_i hy
   cases j with
   | zero => exact ⟨y, rfl, by simpa using hy⟩
   | succ j =>
    obtain ⟨z, h1, h2⟩ := upTo_at sv b j (by unfold RS.upTo; simp only [List.length_cons] at h; omega)
    exact ⟨z, by simpa using h1, h2⟩
  ·simp at h
theorem freeSv_is {sv : List (Int × St)} {z : Int × St} {r : List (Int × St)} (hs : sv = z :: r) (hpw : sv.Pairwise (fun a b => a.1 < b.1)) {below : Int} (hz : z.1 < below) : ∃ z' r', freeSv sv below = z' :: r' ∧ z'.1 < below ∧ z.1 ≤ z'.1 ∧ (∀ y ∈ freeSv sv below, y ∈ sv) ∧ (freeSv sv below).Pairwise (fun a b => a.1 < b.1) ∧ (freeSv sv below).length ≤ sv.length := by
 unfold freeSv
 split
 ·exact ⟨z, r, hs, hz, Int.le_refl _, fun _ h => h, hpw, Nat.le_refl _⟩
 ·rename_i hu
  obtain ⟨z', h1, h2⟩ := upTo_at sv below (RS.upTo sv below - 1) (by omega)
  have hlt := (List.getElem?_eq_some_iff.1 h1).1
  have e : sv.drop (RS.upTo sv below - 1) = z' :: sv.drop (RS.upTo sv below - 1 + 1) := by
   rw [List.drop_eq_getElem_cons hlt, (List.getElem?_eq_some_iff.1 h1).2]
  refine ⟨z', _, e, h2, ?_, fun y hy => List.mem_of_mem_drop hy, hpw.sublist (List.drop_sublist _ _), by rw [List.length_drop]; omega⟩
  have hm : z' ∈ sv := List.mem_of_getElem? h1
  rw [hs] at hm hpw
  rw [List.pairwise_cons] at hpw
  rcases List.mem_cons.1 hm with rfl | hm
  ·exact Int.le_refl _
  ·exact Int.le_of_lt (hpw.1 _ hm)
theorem free_ref (h : RefP c first p A n) {below : Int} (h1 : below ≤ leastA A) (h2 : A.freed < below) : RefP c first (freeLp p below) (freeA A below) n := by
 have g := h.good
 obtain ⟨z, r, t1, t2, t3⟩ := h.t0
 obtain ⟨z', r', f1, f2, f3, f4, f5, f6⟩ := freeSv_is t1 g.svr (show z.1 < below by omega)
 have hT : freeT (freeSv p.sv below) = z'.1 := by rw [f1]; rfl
 have hl' : p.l.drop (p.l.filter (fun y => decide (y.a < freeT (freeSv p.sv below) + 1))).length = cutL A.l z'.1 := by
  rw [drop_cut g.srt, hT, t3]
  unfold cutL
  rw [List.filter_filter]
  congr 1
  funext y
  by_cases e : z'.1 < y.a
  ·simp [e]; omega
  ·simp [e]
 have hzl : z'.1 ≤ p.now := g.last z' (f4 z' (by rw [f1]; simp))
 have hab : above (cutL A.l z'.1) p.now = above p.l p.now := by rw [above_cut hzl, h.above_, h.now]
 have hq := stay_len (dropP below) A.q
 have hql := h.ql
 have hll := cutL_len A.l z'.1
 have e : freeLp p below = { p with l := cutL A.l z'.1, q := stay (dropP below) p.q, sv := freeSv p.sv below, freed := below } := by
  unfold freeLp
  rw [hl']
 rw [e]
 have hsvl := g.svl
 have hsin := g.since
 refine ⟨free_inv h.inv h1 h2, ⟨h.inv.sl.filter_ _, ?_, g.lm, fun e he => h.inv.ev e (List.mem_filter.1 he).1, g.st, by rw [f1]; simp, fun y hy => g.last y (f4 y hy), fun y hy => g.svok y (f4 y hy), f5, ?_, ⟨hsin.1, ?_⟩, g.cid, g.md⟩, h.m, by show stay _ p.q = stay _ A.q; rw [h.q], h.now, rfl, h.st, ⟨z', r', f1, f2, rfl⟩, fun y hy => h.sv y (f4 y hy), h.okf, by show (stay (dropP below) A.q).length + above A.l A.now ≤ _; omega, h.al⟩
 ·show (cutL A.l z'.1).length ≤ 1000
  have e2 : cutL A.l z'.1 = cutL p.l z'.1 := by
   rw [t3]
   unfold cutL
   rw [List.filter_filter]
   congr 1
   funext y
   by_cases e : z'.1 < y.a
   ·simp [e]; omega
   ·simp [e]
  have := cutL_len p.l z'.1
  have := g.ll
  rw [e2]
  omega
 ·show (freeSv p.sv below).length + above (cutL A.l z'.1) p.now ≤ _
  rw [hab]
  omega
 ·show p.since + (above (cutL A.l z'.1) p.now : Nat) ≤ _
  rw [hab]
  exact hsin.2
theorem RefP.free_ev (h : RefP c first p A n) (below : Int) : p.l.filter (fun e => decide (p.freed ≤ e.a) && decide (e.a < below)) = freeM A below := by
 obtain ⟨z0, h1, h2, h3, _⟩ := h.z0
 unfold freeM
 rw [h1, h.freed]
 unfold cutL
 rw [List.filter_filter]
 congr 1
 funext y
 by_cases e : A.freed ≤ y.a
 ·have : z0 < y.a := by omega
  simp [e, this]
 ·simp [e]
theorem RefP.mono (h : RefP c first p A n) {m : Nat} (hm : n ≤ m) : RefP c first p A m :=
 ⟨h.inv, h.good.mono (by omega), h.m, h.q, h.now, h.freed, h.st, h.t0, h.sv, h.okf, by have := h.ql; omega, by have := h.al; omega⟩
end
def newLp (first : St) (l : List Ev) : LPs := ⟨l, [], [], [(-1, first)], -1, first, 0, 0, 0, 0⟩
def newA (l : List Ev) : AM := ⟨l, [], [], -1, 0⟩
theorem new_ref {c : LC} {first : St} {l : List Ev} (hl : Srt l) (hev : EvOk SmE l) (hlen : l.length ≤ 20) (hid : 0 ≤ c.id ∧ c.id ≤ 31) (hmd : c.md < 1000) (hf : OkS first) : RefP c first (newLp first l) (newA l) 0 := by
 have h0 : foldT (cfg c first).R l (-1) (-1) first = (-1, first, []) := foldT_stop _ (fun x hx => (nx_some hl hx).1)
 have hab := above_le l (-1)
 have e : cutL l (-1) = l := List.filter_eq_self.2 fun y hy => by have := (hev y hy).2.1; simp; omega
 refine ⟨⟨hl, List.Pairwise.nil, List.Pairwise.nil, hev, fun x hx => (by cases hx), by unfold AM.fold newA; simp only; show (foldT (cfg c first).R l (-1) (-1) first).1 = -1; rw [h0], Int.le_refl _, Int.le_refl _, fun x => ?_, fun x hx => (by cases hx), fun y hy _ => (hev y hy).2.1⟩, ⟨hl, by show l.length ≤ 1000; omega, by simp [newLp], hev, hf, by simp [newLp], fun z hz => ?_, fun z hz => ?_, by simp [newLp], ?_, ⟨Int.le_refl _, ?_⟩, hid, hmd⟩, rfl, rfl, rfl, rfl, ?_, ⟨_, _, rfl, by show (-1 : Int) < 0; omega, e.symm⟩, fun z hz => ?_, hf, ?_, ?_⟩
 ·show _ ↔ x ∈ (foldT (cfg c first).R l (-1) (-1) first).2.2 ∧ _
  rw [h0]
  simp [newA]
 ·rw [List.mem_singleton.1 hz]; exact Int.le_refl _
 ·rw [List.mem_singleton.1 hz]; exact hf
 ·show 1 + above l (-1) ≤ _
  omega
 ·show (0 : Int) + (above l (-1) : Nat) ≤ _
  omega
 ·show first = (foldT (cfg c first).R l (-1) (-1) first).2.1
  rw [h0]
 ·rw [List.mem_singleton.1 hz]
  unfold FoldIs
  simp only
  show (foldT (cfg c first).R l (-1) (-1) first).1 = -1 ∧ (foldT (cfg c first).R l (-1) (-1) first).2.1 = first
  rw [h0]
  exact ⟨rfl, rfl⟩
 ·show 0 + above l (-1) ≤ _
  omega
 ·show l.length + 0 ≤ 0 + 20
  omega
end Go.Proofs.YthbcdkeammhakaaGreat
namespace Go.Proofs.YthbcdkeammhakaaGreat
open Go.RowKit
attribute [local go_sem ↓] Go.wp_at_zero Go.wp_at_succ
theorem anyT_two {P : Program} {md : Region.Mode} {ops : Array Oper} {Q : Exit → Act → World → Prop} {S : World → Prop} {T : List Nat} {i j : Nat} {o o' : Oper} {f : Nat} {listed : Array Bool} {a : Act} {w : World} (hr : Region.ready md ops listed = [i, j]) (ho : ops[i]? = some o) (ho' : ops[j]? = some o') (hw : Region.wanted o (yielded ops a.tmps) = true) (hw' : Region.wanted o' (yielded ops a.tmps) = true)
  (h : ∀ K : Act → World → Prop, Hid (∀ a' w', S w' → AnyT P md ops Q S T f (listed.setIfInBounds i true) a' w' → K a' w') → o.wp P a w K Q)
  (h' : ∀ K : Act → World → Prop, Hid (∀ a' w', S w' → AnyT P md ops Q S T f (listed.setIfInBounds j true) a' w' → K a' w') → o'.wp P a w K Q) : AnyT P md ops Q S T (f + 1) listed a w := by
 refine ⟨fun h0 => (by rw [hr] at h0; cases h0), fun k hk => ?_⟩
 rw [hr] at hk
 rcases List.mem_cons.1 hk with rfl | hk
 ·unfold wpOp
  simp only [ho, hw, if_true]
  exact .inl (h _ (fun _ _ h1 h2 => ⟨.inr h1, h2⟩))
 ·have hkj : k = j := by simpa using hk
  subst hkj
  unfold wpOp
  simp only [ho', hw', if_true]
  exact .inl (h' _ (fun _ _ h1 h2 => ⟨.inr h1, h2⟩))
def MsgsP (M : List OMsg) (w w' : World) (va : Value) : Prop := OwnS w' 43 8 va M.length (rcells M) ∧ ∀ k, va.ownBlock = some k → w.heap.size ≤ k
theorem MsgsP.mk' {M : List OMsg} {w W w' : World} {va : Value} (f : Fresh w W) (h : OwnS w' 43 8 va M.length (rcells M)) (n : ∀ k, va.ownBlock = some k → W.heap.size ≤ k) : MsgsP M w w' va := ⟨h, fun k hk => Nat.le_trans f.size (n k hk)⟩
def StepP (c : LC) (y : PV) (M : List OMsg) (er : Int) (p' : LPs) (w : World) (e : Ending) (w' : World) : Prop := ∃ va, e = .returned (.tuple #[va, .int .i64 er]) ∧ MsgsP M w w' va ∧ ∃ y', SLP w' c y' p' ∧ LTurn w w' y y'
def lpTypes : List TypeId := [103, 157, 41, 135, 137, 167, 163]
theorem SLP.not_own {w : World} {c : LC} {y : PV} {p : LPs} (h : SLP w c y p) {T : TypeId} {size n : Nat} {v : Value} {xs : List Value} (o : OwnS w T size v n xs) (hT : T ∉ lpTypes) : ∀ k, v.ownBlock = some k → ¬ lfoot y k := by
 simp only [lpTypes, List.mem_cons, List.not_mem_nil, or_false, not_or] at hT
 obtain ⟨h1, h2, h3, h4, h5, h6, h7⟩ := hT
 rintro k hk (rfl | (rfl | hf | hf) | (rfl | hf) | (rfl | hf))
 ·exact o.ne_blk h.blk h1 hk
 ·exact o.ne_blk h.sq.blk h2 hk
 ·exact o.ne_own h.sq.own1 h3 k hk hf
 ·exact o.ne_own h.sq.own2 h3 k hk hf
 ·exact o.ne_blk h.oq.blk h4 hk
 ·exact o.ne_own h.oq.own h5 k hk hf
 ·exact o.ne_blk h.sr.blk h6 hk
 ·exact o.ne_own h.sr.own h7 k hk hf
theorem SLP.not_blk {w : World} {c : LC} {y : PV} {p : LPs} (h : SLP w c y p) {T : TypeId} {g : Nat} {cs : Array Value} (b : Blk w g T cs) (hT : T ∉ lpTypes) : ¬ lfoot y g := by
 simp only [lpTypes, List.mem_cons, List.not_mem_nil, or_false, not_or] at hT
 obtain ⟨h1, h2, h3, h4, h5, h6, h7⟩ := hT
 rintro (e | (e | hf | hf) | (e | hf) | (e | hf))
 ·exact b.ne_type h.blk h1 e
 ·exact b.ne_type h.sq.blk h2 e
 ·exact h.sq.own1.ne_blk b (Ne.symm h3) hf
 ·exact h.sq.own2.ne_blk b (Ne.symm h3) hf
 ·exact b.ne_type h.oq.blk h4 e
 ·exact h.oq.own.ne_blk b (Ne.symm h5) hf
 ·exact b.ne_type h.sr.blk h6 e
 ·exact h.sr.own.ne_blk b (Ne.symm h7) hf
theorem SLP.own_turn {w w' : World} {c : LC} {y y' : PV} {p : LPs} (h : SLP w c y p) (t : LTurn w w' y y') {T : TypeId} {size n : Nat} {v : Value} {xs : List Value} (o : OwnS w T size v n xs) (hT : T ∉ lpTypes) : OwnS w' T size v n xs := o.kept t.keep (h.not_own o hT)
theorem SLP.blk_turn {w w' : World} {c : LC} {y y' : PV} {p : LPs} (h : SLP w c y p) (t : LTurn w w' y y') {T : TypeId} {g : Nat} {cs : Array Value} (b : Blk w g T cs) (hT : T ∉ lpTypes) : Blk w' g T cs := b.keep t.keep (h.not_blk b hT)
theorem step_none (c : LC) (y : PV) (p : LPs) (w : World) (h : SLP w c y p) (hl : p.l.length ≤ 100000) (hn : nextE p.l p.now = none) : Calls Tryz.prog 28 #[.pointer (some ⟨y.g, 0, none⟩)] w (StepP c y [] 14 p w) := by
 have HN := Lib.hid (lnext_any c y p w h hl)
 have H := Lib.hid h
 clear h
 rw [hn] at HN
 unfold NextP at HN
 go_enter Tryz.func28, Tryz.ntmps28
 go_wp2_with (go_at_call 40; (with_reducible refine HN.out.mono ?_); rintro e w1 ⟨rfl, f1⟩)
 go_returns
 exact ⟨_, rfl, ⟨OwnS.nil _ _ _, fun k hk => by simp [Value.ownBlock] at hk⟩, y, H.out.fresh f1, LTurn.fresh f1⟩
theorem step_some (c : LC) (y : PV) (p : LPs) (N : Nat) (y0 : Ev) (pre : List (Int × St)) (last : Int × St) (w : World) (h : SLP w c y p) (hg : GoodP c p N) (hN : N ≤ 90000) (hq : p.q.length ≤ 50000) (hn : nextE p.l p.now = some y0) (hsv : p.sv = pre ++ [last]) (hx : last.1 < y0.a) (hx2 : y0.a ≤ 1073741824)
  (hout : (runP c.md c.id p.st (bat p.l y0.a)).2.length ≤ 1000) (hwr : wrongE y0.a (runP c.md c.id p.st (bat p.l y0.a)).2 p.q = 0) :
  Calls Tryz.prog 28 #[.pointer (some ⟨y.g, 0, none⟩)] w (StepP c y (sentM y0.a (runP c.md c.id p.st (bat p.l y0.a)).2 p.q) 0 (stepLp c p y0.a) w) := by
 have hsvl := hg.svl
 have hsin := hg.since
 have hll := hg.ll
 have hpre : pre.length ≤ 100000 := by
  have : p.sv.length = pre.length + 1 := by rw [hsv]; simp
  omega
 have HN := Lib.hid (lnext_any c y p w h (by omega))
 rw [hn] at HN
 unfold NextP at HN
 have HASK : Hid (∀ W, Fresh w W → Calls Tryz.prog 53 #[.pointer (some ⟨y.g, 0, none⟩), .int .i64 y0.a] W (fun en w' => ∃ v', en = .returned (.tuple #[(runP c.md c.id p.st (bat p.l y0.a)).1.val, v']) ∧ OwnS w' 41 7 v' (runP c.md c.id p.st (bat p.l y0.a)).2.length (cells (runP c.md c.id p.st (bat p.l y0.a)).2) ∧ Fresh W w' ∧ ∀ k, v'.ownBlock = some k → W.heap.size ≤ k)) := Lib.hid fun W f => ask_any c y p y0.a W (h.fresh f) hll hg.cid hg.md hg.st hg.ev
 have HST : Hid (stepLp c p y0.a = { ranL c { p with q := sentQ y0.a (runP c.md c.id p.st (bat p.l y0.a)).2 p.q } y0.a (runP c.md c.id p.st (bat p.l y0.a)).1 with steps := wrap64 (p.steps + 1) }) := Lib.hid rfl
 obtain ⟨P', hP'⟩ : ∃ P', stepLp c p y0.a = P' := ⟨_, rfl⟩
 rw [hP'] at HST ⊢
 clear hP'
 obtain ⟨⟨⟨r0, r1, r2, r3⟩, out⟩, hR⟩ : ∃ R, runP c.md c.id p.st (bat p.l y0.a) = R := ⟨_, rfl⟩
 rw [hR] at HASK HST hout hwr ⊢
 unfold St.val at HASK
 simp only at HASK HST hout hwr ⊢
 clear hR
 have HSE : Hid (∀ W v, Fresh w W → EvAt W v out → Calls Tryz.prog 54 #[.pointer (some ⟨y.go, 0, none⟩), .int .i64 y0.a, v] W fun e w' => ∃ va v3', e = .returned (.tuple #[va, .int .i64 0]) ∧ MsgsP (sentM y0.a out p.q) w w' va ∧ SLP w' c { y with v3 := v3' } { p with q := sentQ y0.a out p.q } ∧ LTurn w w' y { y with v3 := v3' } ∧ Keep (ofoot y.go y.v3) W w') := Lib.hid fun W v f hv => (sent_any y.go y.v3 v p.q y0.a out W (h.fresh f).oq hv hout hq).mono fun e w' hh => by
  obtain ⟨va, v3', h1, h2, h3, h4, h5⟩ := hh
  obtain ⟨a1, a2⟩ := (h.fresh f).turnO h3 h4
  rw [hwr] at h1
  exact ⟨va, v3', h1, MsgsP.mk' f h2 h5, a1, (LTurn.fresh f).two a2, h4.keep⟩
 have HRAN : Hid (∀ W v3', SLP W c { y with v3 := v3' } { p with q := sentQ y0.a out p.q } → Calls Tryz.prog 55 #[.pointer (some ⟨y.g, 0, none⟩), .int .i64 y0.a, .agg #[.int .i64 r0, .int .i64 r1, .int .i64 r2, .int .i64 r3]] W fun e w' => e = .returned (.tuple #[]) ∧ ∃ y', SLP w' c y' (ranL c { p with q := sentQ y0.a out p.q } y0.a ⟨r0, r1, r2, r3⟩) ∧ LTurn W w' { y with v3 := v3' } y') := Lib.hid fun W v3' hs => ran_any c { y with v3 := v3' } { p with q := sentQ y0.a out p.q } y0.a ⟨r0, r1, r2, r3⟩ W hs pre last hsv hx hx2 hpre ⟨hsin.1, by show p.since ≤ 1000000; omega⟩
 have HON : Hid (∀ k, ofoot y.go y.v3 k → k < w.heap.size) := Lib.hid h.oq.lt
 have H := Lib.hid h
 have HB0 := Lib.hid h.blk
 clear h hg hsv hx hx2 hn hsvl hsin hll hpre hwr hout
 go_enter Tryz.func28, Tryz.ntmps28
 go_wp2_with (first
  | (go_at_call 40; (with_reducible refine HN.out.mono ?_); rintro e w1 ⟨rfl, f1⟩; have F1 := Lib.hid f1; clear f1)
  | (go_at_call 53; (with_reducible refine (HASK.out _ F1.out).mono ?_); rintro e w2 ⟨v2, rfl, o2, f2, n2⟩; have F2 : Hid (Fresh w w2) := Lib.hid (F1.out.step f2 (fun _ _ h => h)); have O2 := Lib.hid o2; have b2 := F2.out.blk_ HB0.out; have c2 := fun i => (b2.cell i).trans (lcells_at c y p i); have l2 := b2.lt; clear f2 o2 n2 b2)
  | (go_at_call 54; (with_reducible refine (HSE.out _ _ (F2.out.alloc _) (O2.out.evs.fresh ((Keep.refl _ _).alloc _))).mono ?_); rintro e w3 ⟨va, v3', rfl, m3, s3, t3, k3⟩; have M3 := Lib.hid m3; have S3 := Lib.hid s3; have T3 := Lib.hid t3; have bs3 := (Blk.new w2 23 #[.int .i64 r0, .int .i64 r1, .int .i64 r2, .int .i64 r3]).keep k3 (fun e => by have := HON.out _ e; have := F2.out.size; omega); have d3 := bs3.cell; have e3 := bs3.lt; clear m3 s3 t3 k3 bs3 c2 l2)
  | (go_at_call 55; (with_reducible refine (HRAN.out _ _ S3.out).mono ?_); rintro e w4 ⟨rfl, y4, s4, t4⟩; have S4 := Lib.hid s4; have T3b := Lib.hid t4; have T4 := Lib.hid (T3.out.two t4); have G4 : Hid (y4.g = y.g) := Lib.hid T4.out.g; have bl4 : Blk w4 y4.g 103 _ := s4.blk; rw [G4.out] at bl4; have c4 := fun i => (bl4.cell i).trans (lcells_at c _ _ i); have f4 := bl4.frozen; have l4 := bl4.lt; clear s4 t4 bl4 d3 e3))
 go_returns
 have a := S4.out.set 14 (.int .i64 (wrap64 ((ranL c { p with q := sentQ y0.a out p.q } y0.a ⟨r0, r1, r2, r3⟩).steps + 1))) P' (by rw [HST.out]; rfl) (by rw [HST.out]) (by rw [HST.out]) (by rw [HST.out]) (by rw [HST.out])
 have b := LTurn.set y4 w4 14 (.int .i64 (wrap64 ((ranL c { p with q := sentQ y0.a out p.q } y0.a ⟨r0, r1, r2, r3⟩).steps + 1)))
 rw [G4.out] at a b
 have d : Hid (LTurn w3 (w4.setCell ⟨y.g, 14, none⟩ (.int .i64 (wrap64 ((ranL c { p with q := sentQ y0.a out p.q } y0.a ⟨r0, r1, r2, r3⟩).steps + 1)))) { y with v3 := v3' } y4) := Lib.hid (T3b.out.two b)
 exact ⟨va, rfl, ⟨S3.out.own_turn d.out M3.out.1 (by decide), M3.out.2⟩, y4, a, T4.out.two b⟩
end Go.Proofs.YthbcdkeammhakaaGreat
