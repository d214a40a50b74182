/- Chapter 13: LpR, LpK. -/
import Derived.Test.YthbcdkeammhakaaGreatP22
import Derived.Test.YthbcdkeammhakaaGreatP26
set_option maxRecDepth 100000
set_option maxHeartbeats 16000000
namespace Go.Proofs.YthbcdkeammhakaaGreat
open Go.RowKit
attribute [local go_sem ↓] Go.wp_at_zero Go.wp_at_succ
def dueB (every since : Int) : Bool := decide (0 < every) && decide (every ≤ since)
theorem due_any (every since : Int) (w : World) : Calls Tryz.prog 99 #[.int .i64 every, .int .i64 since] w fun e w' => e = .returned (.bool (dueB every since)) ∧ w = w' := by
 unfold dueB
 cases t1 : decide (0 < every) <;> cases t2 : decide (every ≤ since) <;>
 (go_enter Tryz.func99, Tryz.ntmps99; go_wp2; go_ret; exact ⟨rfl, rfl⟩)
def ranL (c : LC) (p : LPs) (at_ : Int) (s : St) : LPs := { p with now := at_, st := s, since := if dueB c.every (p.since + 1) then 0 else p.since + 1, sv := if dueB c.every (p.since + 1) then p.sv ++ [(at_, s)] else p.sv }
theorem ran_any (c : LC) (y : PV) (p : LPs) (at_ : Int) (s : St) (w : World) (h : SLP w c y p) (pre : List (Int × St)) (last : Int × St) (hsv : p.sv = pre ++ [last]) (h1 : last.1 < at_) (h2 : at_ ≤ 1073741824) (hl : pre.length ≤ 100000) (hs : 0 ≤ p.since ∧ p.since ≤ 1000000) :
  Calls Tryz.prog 55 #[.pointer (some ⟨y.g, 0, none⟩), .int .i64 at_, s.val] w fun e w' => e = .returned (.tuple #[]) ∧ ∃ y', SLP w' c y' (ranL c p at_ s) ∧ LTurn w w' y y' := by
 obtain ⟨s0, s1, s2, s3⟩ := s
 unfold St.val
 simp only
 have hlt := h.blk.lt
 have HDU := Lib.hid (fun W => due_any c.every (p.since + 1) W)
 have HRAN : Hid (ranL c p at_ ⟨s0, s1, s2, s3⟩ = { p with now := at_, st := ⟨s0, s1, s2, s3⟩, since := if dueB c.every (p.since + 1) then 0 else p.since + 1, sv := if dueB c.every (p.since + 1) then p.sv ++ [(at_, ⟨s0, s1, s2, s3⟩)] else p.sv }) := Lib.hid rfl
 obtain ⟨RL, hRL⟩ : ∃ RL, ranL c p at_ ⟨s0, s1, s2, s3⟩ = RL := ⟨_, rfl⟩
 rw [hRL] at HRAN ⊢
 clear hRL
 obtain ⟨bd, hbd⟩ : ∃ bd, dueB c.every (p.since + 1) = bd := ⟨_, rfl⟩
 rw [hbd] at HDU HRAN
 clear hbd
 have H0 := Lib.hid (h.fresh ((Keep.refl _ w).alloc (.cells #[.int .i64 s0, .int .i64 s1, .int .i64 s2, .int .i64 s3] 23)).drew)
 have BX : Hid (Blk (w.alloc (.cells #[.int .i64 s0, .int .i64 s1, .int .i64 s2, .int .i64 s3] 23)).drew w.heap.size 23 #[.int .i64 s0, .int .i64 s1, .int .i64 s2, .int .i64 s3]) := Lib.hid (Blk.new w _ _).drew
 have c0 := fun i => (h.blk.cell i).trans (lcells_at c y p i)
 have f0 := h.blk.frozen
 have HL := Lib.hid h
 clear h
 go_enter Tryz.func55, Tryz.ntmps55
 go_wp2_with fail
 go_cut [] (fun wx => SLP wx c y { p with now := at_, st := ⟨s0, s1, s2, s3⟩ } ∧ LTurn w wx y y ∧ Blk wx w.heap.size 23 #[.int .i64 s0, .int .i64 s1, .int .i64 s2, .int .i64 s3])
 case first =>
  have c1 := BX.out.cell
  have l1 := BX.out.lt
  have FIN : Hid (SLP ((((((w.setCell ⟨y.g, 7, none⟩ (.int .i64 at_)).setCell ⟨y.g, 8, none⟩ (.int .i64 s0)).setCell ⟨y.g, 9, none⟩ (.int .i64 s1)).setCell ⟨y.g, 10, none⟩ (.int .i64 s2)).setCell ⟨y.g, 11, none⟩ (.int .i64 s3)).alloc (.cells #[.int .i64 s0, .int .i64 s1, .int .i64 s2, .int .i64 s3] 23)).drew c y { p with now := at_, st := ⟨s0, s1, s2, s3⟩ } ∧ LTurn w ((((((w.setCell ⟨y.g, 7, none⟩ (.int .i64 at_)).setCell ⟨y.g, 8, none⟩ (.int .i64 s0)).setCell ⟨y.g, 9, none⟩ (.int .i64 s1)).setCell ⟨y.g, 10, none⟩ (.int .i64 s2)).setCell ⟨y.g, 11, none⟩ (.int .i64 s3)).alloc (.cells #[.int .i64 s0, .int .i64 s1, .int .i64 s2, .int .i64 s3] 23)).drew y y ∧ Blk ((((((w.setCell ⟨y.g, 7, none⟩ (.int .i64 at_)).setCell ⟨y.g, 8, none⟩ (.int .i64 s0)).setCell ⟨y.g, 9, none⟩ (.int .i64 s1)).setCell ⟨y.g, 10, none⟩ (.int .i64 s2)).setCell ⟨y.g, 11, none⟩ (.int .i64 s3)).alloc (.cells #[.int .i64 s0, .int .i64 s1, .int .i64 s2, .int .i64 s3] 23)).drew w.heap.size 23 #[.int .i64 s0, .int .i64 s1, .int .i64 s2, .int .i64 s3]) := Lib.hid (by
   have a1 := HL.out.set 7 (.int .i64 at_) { p with now := at_ } rfl rfl rfl rfl rfl
   have a2 := a1.set 8 (.int .i64 s0) { p with now := at_, st := { p.st with s0 := s0 } } rfl rfl rfl rfl rfl
   have a3 := a2.set 9 (.int .i64 s1) { p with now := at_, st := { p.st with s0 := s0, s1 := s1 } } rfl rfl rfl rfl rfl
   have a4 := a3.set 10 (.int .i64 s2) { p with now := at_, st := { p.st with s0 := s0, s1 := s1, s2 := s2 } } rfl rfl rfl rfl rfl
   have a5 := a4.set 11 (.int .i64 s3) { p with now := at_, st := ⟨s0, s1, s2, s3⟩ } rfl rfl rfl rfl rfl
   refine ⟨a5.fresh ((Keep.refl _ _).alloc _).drew, ?_, (Blk.at_new (by simp) _ _).drew⟩
   exact ((((((LTurn.set y w 7 _).two (LTurn.set y _ 8 _)).two (LTurn.set y _ 9 _)).two (LTurn.set y _ 10 _)).two (LTurn.set y _ 11 _)).two (LTurn.fresh ((Keep.refl _ _).alloc _).drew)))
  go_region_law (fail)
  all_goals
   go_wp2_with fail
   go_meet
   exact FIN.out
 case rest =>
  obtain ⟨hS, hT, hB⟩ := hcut
  have HS := Lib.hid hS
  have HT := Lib.hid hT
  have HB := Lib.hid hB
  have d0 := fun i => (hS.blk.cell i).trans (lcells_at c y _ i)
  have g0 := hS.blk.frozen
  have k0 := hS.blk.lt
  clear hS hT hB c0 f0 H0 BX HL
  have hwr : IntKind.i64.wrap (p.since + 1) = p.since + 1 := IntWalk.i64_in _ (by omega)
  go_wp2_with fail
  have HS2 := Lib.hid (HS.out.set 12 (.int .i64 (p.since + 1)) { p with now := at_, st := ⟨s0, s1, s2, s3⟩, since := p.since + 1 } rfl rfl rfl rfl rfl)
  have HT2 := Lib.hid (HT.out.two (LTurn.set y wc 12 (.int .i64 (p.since + 1))))
  have HB2 := Lib.hid (HB.out.far (p := ⟨y.g, 12, none⟩) (by show w.heap.size ≠ y.g; omega) (.int .i64 (p.since + 1)))
  obtain ⟨W2, hW2⟩ : ∃ W2, wc.setCell ⟨y.g, 12, none⟩ (.int .i64 (p.since + 1)) = W2 := ⟨_, rfl⟩
  rw [hW2] at HS2 HT2 HB2 ⊢
  clear hW2 d0 g0 k0 HS HT HB
  have d0 := fun i => (HS2.out.blk.cell i).trans (lcells_at c y _ i)
  have g0 := HS2.out.blk.frozen
  have k0 := HS2.out.blk.lt
  cases bd with
  | false =>
   have hRL : RL = { p with now := at_, st := ⟨s0, s1, s2, s3⟩, since := p.since + 1 } := HRAN.out
   subst hRL
   have HSD := Lib.hid (HS2.out.fresh (Keep.refl _ W2).drew)
   have HTD := Lib.hid (HT2.out.two (LTurn.fresh (y := y) (Keep.refl _ W2).drew))
   go_still_tail 8, (by kernel_rfl)
   change wpList _ _ _ _ _ W2.drew
   go_wp2_with (go_at_call 99; refine (HDU.out _).mono ?_; rintro e w3 ⟨rfl, rfl⟩)
   go_returns
   exact ⟨rfl, y, HSD.out, HTD.out⟩
  | true =>
   have hRL : RL = { p with now := at_, st := ⟨s0, s1, s2, s3⟩, since := 0, sv := p.sv ++ [(at_, ⟨s0, s1, s2, s3⟩)] } := HRAN.out
   subst hRL
   go_still_tail 8, (by kernel_rfl)
   change wpList _ _ _ _ _ W2.drew
   go_wp2_with (go_at_call 99; refine (HDU.out _).mono ?_; rintro e w3 ⟨rfl, rfl⟩)
   have HSD := Lib.hid (HS2.out.fresh (Keep.refl _ W2).drew)
   have HTD := Lib.hid (HT2.out.two (LTurn.fresh (y := y) (Keep.refl _ W2).drew))
   have HBD := Lib.hid HB2.out.drew
   obtain ⟨W3, hW3⟩ : ∃ W3, W2.drew = W3 := ⟨_, rfl⟩
   rw [hW3] at HSD HTD HBD ⊢
   clear hW3 d0 g0 k0
   have d0 := fun i => (HSD.out.blk.cell i).trans (lcells_at c y _ i)
   have k0 := HSD.out.blk.lt
   have e1 := HBD.out.cell
   have m1 := HBD.out.lt
   go_wp2_with fail
   go_still_tail 6, (by kernel_rfl)
   change wpList _ _ _ _ _ W3.drew
   have HSA : Hid (∀ W, Fresh W3 W → Calls Tryz.prog 100 #[.pointer (some ⟨y.gr, 0, none⟩), .int .i64 at_, .agg #[.int .i64 s0, .int .i64 s1, .int .i64 s2, .int .i64 s3]] W fun e w' => e = .returned (.int .i64 0) ∧ ∃ v', RS.SRow w' y.gr v' (pre ++ [last] ++ [(at_, ⟨s0, s1, s2, s3⟩)]) ∧ Keep (RS.foot y.gr y.v4) W w' ∧ RS.Later W y.v4 v') := Lib.hid fun W f => RS.save_ok y.gr y.v4 pre last at_ ⟨s0, s1, s2, s3⟩ W (by have := (HSD.out.fresh f).sr; rw [← hsv]; exact this) h1 h2 hl
   go_wp2_with (go_at_call 100; (with_reducible refine (HSA.out _ (Keep.refl _ W3).drew).mono ?_); rintro e w4 ⟨rfl, v4', sr4, k4, n4⟩; have sr4 : RS.SRow w4 y.gr v4' (p.sv ++ [(at_, ⟨s0, s1, s2, s3⟩)]) := (by rw [hsv]; exact sr4); obtain ⟨a4, b4⟩ := (HSD.out.fresh (Keep.refl _ W3).drew).turnR sr4 k4 n4; have A4 := Lib.hid a4; have B4 := Lib.hid (HTD.out.two ((LTurn.fresh (y := y) (Keep.refl _ W3).drew).two b4)); have bl4 : Blk w4 y.g 103 _ := a4.blk; have q0 := fun i => (bl4.cell i).trans (lcells_at c _ _ i); have r0 := bl4.frozen; have t0 := bl4.lt; clear bl4; clear a4 b4 sr4 k4 n4 d0 k0 e1 m1)
   go_returns
   refine ⟨rfl, { y with v4 := v4' }, A4.out.set 12 (.int .i64 0) _ rfl rfl rfl rfl rfl, B4.out.two ?_⟩
   exact LTurn.set { y with v4 := v4' } w4 12 (.int .i64 0)
end Go.Proofs.YthbcdkeammhakaaGreat
namespace Go.Proofs.YthbcdkeammhakaaGreat
open Go.RowKit
theorem runS_ok {lp : Int} (_hlp : 0 ≤ lp ∧ lp ≤ 31) {s : St} (h : OkS s) {e : Ev} (he : SmE e ∧ 0 ≤ e.a ∧ e.a ≤ 1073741824) : OkS (runS lp s e) := by
 obtain ⟨h1, h2, h3, h4⟩ := h
 obtain ⟨⟨e1, e2, e3, e4⟩, e5, e6⟩ := he
 have a1 := Int.emod_nonneg (s.s0 * 31 + e.x + e.a + e.s + lp + 1000) (show (997 : Int) ≠ 0 by omega)
 have a2 := Int.emod_lt_of_pos (s.s0 * 31 + e.x + e.a + e.s + lp + 1000) (show (0 : Int) < 997 by omega)
 have b1 := Int.emod_nonneg (s.s2 + (s.s0 * 31 + e.x + e.a + e.s + lp + 1000) % 997) (show (10007 : Int) ≠ 0 by omega)
 have b2 := Int.emod_lt_of_pos (s.s2 + (s.s0 * 31 + e.x + e.a + e.s + lp + 1000) % 997) (show (0 : Int) < 10007 by omega)
 unfold OkS runS
 simp only
 omega
theorem foldl_ok {md lp : Int} (hlp : 0 ≤ lp ∧ lp ≤ 31) : ∀ (l : List Ev) (st : St × List Ev), OkS st.1 → (∀ e ∈ l, SmE e ∧ 0 ≤ e.a ∧ e.a ≤ 1073741824) → OkS (l.foldl (runStep md lp) st).1
 | [], _, h, _ => h
 | e :: l, st, h, he => foldl_ok hlp l _ (runS_ok hlp h (he e (by simp))) (fun x hx => he x (by simp [hx]))
theorem runP_ok {md lp : Int} (hlp : 0 ≤ lp ∧ lp ≤ 31) {s : St} {l : List Ev} (h : OkS s) (he : ∀ e ∈ l, SmE e ∧ 0 ≤ e.a ∧ e.a ≤ 1073741824) : OkS (runP md lp s l).1 := foldl_ok hlp l _ h he
def coast1 (c : LC) (p : LPs) (x : Int) : LPs := { ranL c p x (runP c.md c.id p.st (bat p.l x)).1 with coasted := wrap64 (p.coasted + 1) }
def coastN (c : LC) : Nat → Int → LPs → LPs
 | 0, _, p => p
 | n + 1, b0, p => match nx p.l p.now with
  | some x => if x < b0 then coastN c n b0 (coast1 c p x) else p
  | none => p
def coastT (c : LC) (b0 : Int) (p : LPs) : LPs := coastN c (above p.l p.now) b0 p
theorem coastN_two (c : LC) (b0 : Int) : ∀ (n m : Nat) (p : LPs), Srt p.l → above p.l p.now ≤ n → above p.l p.now ≤ m → coastN c n b0 p = coastN c m b0 p := by
 intro n
 induction n with
 | zero =>
  intro m p hs hn _
  cases he : nx p.l p.now with
  | none => cases m <;> simp only [coastN, he]
  | some x =>
   obtain ⟨h1, h2, _⟩ := nx_some hs he
   have := above_lt h1 h2
   omega
 | succ n ih =>
  intro m p hs hn hm
  cases he : nx p.l p.now with
  | none => cases m <;> simp only [coastN, he]
  | some x =>
   obtain ⟨h1, h2, _⟩ := nx_some hs he
   have h3 := above_lt h1 h2
   cases m with
   | zero => omega
   | succ m =>
    by_cases hc : x < b0
    ·simp only [coastN, he, if_pos hc]
     exact ih m (coast1 c p x) hs (show above p.l x ≤ n by omega) (show above p.l x ≤ m by omega)
    ·simp only [coastN, he, if_neg hc]
theorem coastT_step (c : LC) {b0 : Int} {p : LPs} (hs : Srt p.l) {x : Int} (he : nx p.l p.now = some x) (hx : x < b0) : coastT c b0 p = coastT c b0 (coast1 c p x) := by
 obtain ⟨h1, h2, _⟩ := nx_some hs he
 have h3 := above_lt h1 h2
 have e : coastT c b0 p = coastN c (above p.l p.now - 1 + 1) b0 p := by
  unfold coastT
  rw [show above p.l p.now - 1 + 1 = above p.l p.now by omega]
 rw [e]
 simp only [coastN, he, if_pos hx]
 exact coastN_two c b0 _ _ (coast1 c p x) hs (show above p.l x ≤ above p.l p.now - 1 by omega) (Nat.le_refl _)
theorem coastT_stop (c : LC) {b0 : Int} {p : LPs} (he : ∀ x, nx p.l p.now = some x → b0 ≤ x) : coastT c b0 p = p := by
 unfold coastT
 cases above p.l p.now with
 | zero => rfl
 | succ n =>
  cases hc : nx p.l p.now with
  | none => simp only [coastN, hc]
  | some x =>
   have := he x hc
   simp only [coastN, hc]
   rw [if_neg (by omega)]
structure GoodP (c : LC) (p : LPs) (N : Nat) : Prop where
 srt : Srt p.l
 ll : p.l.length ≤ 1000
 lm : p.m.length ≤ 1000
 ev : ∀ e ∈ p.l, SmE e ∧ 0 ≤ e.a ∧ e.a ≤ 1073741824
 st : OkS p.st
 ne : p.sv ≠ []
 last : ∀ z ∈ p.sv, z.1 ≤ p.now
 svok : ∀ z ∈ p.sv, OkS z.2
 svr : p.sv.Pairwise (fun a b => a.1 < b.1)
 svl : p.sv.length + above p.l p.now ≤ N
 since : 0 ≤ p.since ∧ p.since + above p.l p.now ≤ N
 cid : 0 ≤ c.id ∧ c.id ≤ 31
 md : c.md < 1000
theorem ran_good {c : LC} {p : LPs} {N : Nat} (h : GoodP c p N) {x : Int} (hx : nx p.l p.now = some x) {s : St} (hs : OkS s) : GoodP c (ranL c p x s) N := by
 obtain ⟨hx1, hx2, _⟩ := nx_some h.srt hx
 have hab := above_lt hx1 hx2
 have hsv : ∀ z ∈ (ranL c p x s).sv, z ∈ p.sv ∨ z = (x, s) := by
  intro z hz
  unfold ranL at hz
  simp only at hz
  split at hz
  ·rcases List.mem_append.1 hz with hz | hz
   ·exact .inl hz
   ·exact .inr (List.mem_singleton.1 hz)
  ·exact .inl hz
 refine ⟨h.srt, h.ll, h.lm, h.ev, hs, ?_, fun z hz => ?_, fun z hz => ?_, ?_, ?_, ?_, h.cid, h.md⟩
 ·unfold ranL
  simp only
  split
  ·simp
  ·exact h.ne
 ·rcases hsv z hz with hz | rfl
  ·have := h.last z hz
   show z.1 ≤ x
   omega
  ·exact Int.le_refl _
 ·rcases hsv z hz with hz | rfl
  ·exact h.svok z hz
  ·exact hs
 ·unfold ranL
  simp only
  split
  ·rw [List.pairwise_append]
   refine ⟨h.svr, List.pairwise_singleton _ _, fun a ha b hb => ?_⟩
   rw [List.mem_singleton.1 hb]
   have := h.last a ha
   simp only
   omega
  ·exact h.svr
 ·have := h.svl
  show (ranL c p x s).sv.length + above p.l x ≤ N
  unfold ranL
  simp only
  split
  ·rw [List.length_append]
   simp only [List.length_singleton]
   omega
  ·omega
 ·have := h.since
  show 0 ≤ (ranL c p x s).since ∧ (ranL c p x s).since + above p.l x ≤ N
  unfold ranL
  simp only
  split <;> constructor <;> omega
theorem coast_good {c : LC} {p : LPs} {N : Nat} (h : GoodP c p N) {x : Int} (hx : nx p.l p.now = some x) : GoodP c (coast1 c p x) N := by
 have hok : OkS (runP c.md c.id p.st (bat p.l x)).1 := runP_ok h.cid h.st (fun e he => h.ev e (List.mem_filter.1 he).1)
 have g := ran_good h hx hok
 exact ⟨g.srt, g.ll, g.lm, g.ev, g.st, g.ne, g.last, g.svok, g.svr, g.svl, g.since, g.cid, g.md⟩
theorem GoodP.mono {c : LC} {p : LPs} {N M : Nat} (h : GoodP c p N) (hm : N ≤ M) : GoodP c p M := ⟨h.srt, h.ll, h.lm, h.ev, h.st, h.ne, h.last, h.svok, h.svr, Nat.le_trans h.svl hm, ⟨h.since.1, by have := h.since.2; omega⟩, h.cid, h.md⟩
theorem above_le (l : List Ev) (a : Int) : above l a ≤ l.length := List.countP_le_length
def backL (c : LC) (p : LPs) (b0 : Int) (pre : List (Int × St)) (s : Int × St) : LPs := { coastT c b0 { p with sv := pre ++ [s], now := s.1, st := s.2, since := 0 } with q := if c.lz then doubt b0 p.q else stay (backP b0) p.q }
def backMs (c : LC) (p : LPs) (b0 : Int) : List OMsg := if c.lz then [] else antis (backP b0) p.q
def GoBackP (c : LC) (y : PV) (N : Nat) (M : List OMsg) (p' : LPs) (w : World) (e : Ending) (w' : World) : Prop := ∃ va y', e = .returned va ∧ OwnS w' 43 8 va M.length (rcells M) ∧ SLP w' c y' p' ∧ LTurn w w' y y' ∧ GoodP c p' N ∧ ∀ k, va.ownBlock = some k → w.heap.size ≤ k
theorem upTo_split {pre post : List (Int × St)} {s : Int × St} {b0 : Int} (h1 : ∀ z ∈ pre ++ [s], z.1 < b0) (h2 : ∀ z, post.head? = some z → ¬ z.1 < b0) : RS.upTo (pre ++ s :: post) b0 = pre.length + 1 := by
 refine RS.upTo_eq _ _ _ (fun j z hj hz => ?_) (by simp) (fun z hz => ?_)
 ·refine h1 z ?_
  rw [show pre ++ s :: post = (pre ++ [s]) ++ post by simp, List.getElem?_append_left (by simp; omega)] at hz
  exact List.mem_of_getElem? hz
 ·rw [show pre ++ s :: post = (pre ++ [s]) ++ post by simp, List.getElem?_append_right (by simp)] at hz
  simp at hz
  refine h2 z ?_
  rw [List.head?_eq_getElem?]
  exact hz
end Go.Proofs.YthbcdkeammhakaaGreat
