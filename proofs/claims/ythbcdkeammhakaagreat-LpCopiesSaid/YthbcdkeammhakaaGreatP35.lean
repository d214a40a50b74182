/- Chapter 13: LpO, LpQ, LpZ, LqA. -/
import Derived.Test.YthbcdkeammhakaaGreatP34
import Derived.Test.YthbcdkeammhakaaGreatP32
set_option maxRecDepth 100000
set_option maxHeartbeats 16000000
namespace Go.Proofs.YthbcdkeammhakaaGreat
open Go.RowKit
def LpP (c : LC) (first : St) (y : PV) (a : Ans) (n : Nat) (w : World) (e : Ending) (w' : World) : Prop := ∃ va, e = .returned (.tuple #[va, .int .i64 a.e]) ∧ MsgsP a.M w w' va ∧ ∃ y' p', SLP w' c y' p' ∧ LTurn w w' y y' ∧ RefP c first p' a.A n
section
variable {c : LC} {first : St} {y : PV} {p : LPs} {A : AM} {n : Nat} {w : World}
theorem StepP.ref {M : List OMsg} {er : Int} {p' : LPs} {a : Ans} {m : Nat} (hM : M = a.M) (he : er = a.e) (hp : RefP c first p' a.A m) {e : Ending} {w' : World} (h : StepP c y M er p' w e w') : LpP c first y a m w e w' := by
 subst hM he
 obtain ⟨va, h1, h2, y', h3, h4⟩ := h
 exact ⟨va, h1, h2, y', p', h3, h4, hp⟩
theorem RefP.bounds (hr : RefP c first p A n) (hn : n ≤ 62) : p.l.length ≤ 1000 ∧ p.m.length ≤ 1000 ∧ p.q.length ≤ 20000 ∧ 0 < p.sv.length ∧ p.sv.length ≤ 20000 := by
 have h1 := hr.good.ll
 have h2 := hr.good.lm
 have h3 := hr.ql
 have h4 := hr.good.svl
 have h5 := List.length_pos_iff.2 hr.good.ne
 rw [← hr.q] at h3
 omega
theorem next_is (hr : RefP c first p A n) : (nextE p.l p.now).map (·.a) = nx A.l A.now := hr.nx_
theorem ref_step (h : SLP w c y p) (hr : RefP c first p A n) (hn : n ≤ 62) : Calls Tryz.prog 28 #[.pointer (some ⟨y.g, 0, none⟩)] w (LpP c first y (stpA (cfg c first) A) n w) := by
 obtain ⟨b1, b2, b3, b4, b5⟩ := hr.bounds (by omega)
 have hq : p.q.length ≤ 50000 := by
  have h3 := hr.ql
  rw [← hr.q] at h3
  omega
 have hx := next_is hr
 unfold stpA
 cases hn0 : nextE p.l p.now with
 | none =>
  rw [hn0] at hx
  rw [← hx]
  exact (step_none c y p w h (by omega) hn0).mono fun e w' hh => StepP.ref (a := ⟨A, [], [], 14⟩) rfl rfl hr hh
 | some y0 =>
  rw [hn0] at hx
  rw [← hx]
  have hx' : nx A.l A.now = some y0.a := hx.symm
  obtain ⟨s1, s2, s3, s4, s5, s6⟩ := snd_ok hr.laws hr.inv hr.okf hx'
  have hsnd := hr.snd_ hx'
  have hbl : (bat A.l y0.a).length ≤ 1000 := by
   rw [← hr.bat_ hx']
   exact Nat.le_trans (List.length_filter_le _ _) b1
  have hl := hr.good.last (p.sv.getLast hr.good.ne) (List.getLast_mem hr.good.ne)
  have hgt := (nx_some hr.inv.sl hx').1
  have hw := step_wrong hr.laws hr.inv hr.okf hx'
  refine (step_some c y p _ y0 p.sv.dropLast (p.sv.getLast hr.good.ne) w h hr.good (by omega) hq hn0 (List.dropLast_concat_getLast hr.good.ne).symm (by have := hr.now; omega) s6 (by rw [hsnd]; omega) (by rw [hsnd, hr.q]; exact hw)).mono fun e w' hh => ?_
  exact StepP.ref (a := ⟨stepA (cfg c first) A y0.a, sentM y0.a (sndA (cfg c first) A y0.a) A.q, [], 0⟩) (by rw [hsnd, hr.q]) rfl (step_ref hr hx') hh
theorem goback_ref {P : LPs} {to_ : Int} {pre post : List (Int × St)} {s : Int × St} (hg : GoodP c P (200 * (n + 2))) (hn : n ≤ 62) (hq : P.q.length ≤ 50000) (hsv : P.sv = pre ++ s :: post) (h1 : ∀ z ∈ pre ++ [s], z.1 < to_) (h2 : ∀ z, post.head? = some z → ¬ z.1 < to_) {W : World} {y' : PV} (h : SLP W c y' P) : Calls Tryz.prog 69 #[.pointer (some ⟨y'.g, 0, none⟩), .int .i64 to_] W (GoBackP c y' (200 * (n + 2) + 1000) (backMs c P to_) (backL c P to_ pre s) W) :=
 goback_any c y' P (200 * (n + 2)) to_ pre post s W h hg (by omega) hq hsv h1 h2
theorem stays_iff (p : LPs) (x : Ev) (an : Bool) : StaysB p x an = true ↔ (p.now < x.a ∨ putMet p.l p.m x an ≠ an) := by
 unfold StaysB
 simp
theorem hq_of (hr : RefP c first p A n) (hn : n ≤ 62) : p.q.length ≤ 50000 := by
 have h3 := hr.ql
 rw [← hr.q] at h3
 omega
theorem ref_take (h : SLP w c y p) (hr : RefP c first p A n) (hn : n ≤ 62) (x : Ev) (an : Bool) (hx : SmE x) : Calls Tryz.prog 36 #[.pointer (some ⟨y.g, 0, none⟩), x.msg an] w (LpP c first y (takA (cfg c first) A x an) (n + 1) w) := by
 obtain ⟨b1, b2, b3, b4, b5⟩ := hr.bounds (by omega)
 have hq := hq_of hr hn
 have hr1 := hr.mono (Nat.le_succ n)
 unfold takA
 by_cases hd : x.d ≠ c.id
 ·rw [if_pos (show x.d ≠ (cfg c first).id from hd)]
  exact (ltake_id c y p x an w h hd).mono fun e w' hh => StepP.ref (a := ⟨A, [], [], 1⟩) rfl rfl hr1 hh
 ·have hd' : x.d = c.id := by omega
  rw [if_neg (show ¬ x.d ≠ (cfg c first).id from hd)]
  by_cases hf : x.a < A.freed
  ·rw [if_pos hf]
   exact (ltake_time c y p x an w h hd' (by rw [hr.freed]; exact hf)).mono fun e w' hh => StepP.ref (a := ⟨A, [], [], 18⟩) rfl rfl hr1 hh
  ·rw [if_neg hf]
   by_cases ho : x.a < 0 ∨ 1073741824 < x.a
   ·rw [if_pos ho]
    exact (ltake_out c y p x an w h hd' (by rw [hr.freed]; exact hf) ho).mono fun e w' hh => StepP.ref (a := ⟨A, [], [], 10⟩) rfl rfl hr1 hh
   ·rw [if_neg ho]
    have hxr : SmE x ∧ 0 ≤ x.a ∧ x.a ≤ 1073741824 := ⟨hx, by omega, by omega⟩
    have hfr : A.freed ≤ x.a := by omega
    have hmet := (hr.put_ hfr an).1
    unfold comeA
    by_cases hs : A.now < x.a ∨ putMet A.l A.m x an ≠ an
    ·rw [if_pos hs]
     have hs' : StaysB p x an = true := (stays_iff p x an).2 (by rw [hr.now, hmet]; exact hs)
     exact (ltake_put c y p x an [] (putLp p x an) 0 w h (by omega) (by omega) hd' (by rw [hr.freed]; exact hf) hxr.2 (fun _ => ⟨rfl, rfl⟩) (fun hh => by rw [hs'] at hh; cases hh)).mono fun e w' hh => StepP.ref (a := ⟨putD A x an, [], [], 0⟩) rfl rfl (put_ref hr (by omega) hxr hfr hs) hh
    ·rw [if_neg hs]
     have hle : x.a ≤ A.now := by
      by_cases hlt : A.now < x.a
      ·exact absurd (.inl hlt) hs
      ·omega
     have hs' : ¬ StaysB p x an = true := fun hh => hs (by have := (stays_iff p x an).1 hh; rw [hr.now, hmet] at this; exact this)
     obtain ⟨pre, s, post, g1, g2, g3, g4, g5⟩ := come_back hr (by omega) (an := an) hxr hfr hle
     refine (ltake_put c y p x an (backMs c (putLp p x an) x.a) (backL c (putLp p x an) x.a pre s) (200 * (n + 2) + 1000) w h (by omega) (by omega) hd' (by rw [hr.freed]; exact hf) hxr.2 (fun hh => absurd hh hs') (fun _ W y' hS hg => ?_)).mono fun e w' hh => StepP.ref (a := ⟨backA (cfg c first) (putD A x an) x.a, backM (cfg c first) (putD A x an) x.a, [], 0⟩) ?_ rfl g5 hh
     ·have := goback_ref (n := n) g4 hn (by show p.q.length ≤ 50000; exact hq) g1 g2 g3 hS
      rw [hg] at this
      exact this
     ·show (if c.lz then [] else antis (backP x.a) p.q) = (if c.lz then [] else antis (backP x.a) A.q)
      rw [hr.q]
theorem cnt_has (hr : RefP c first p A n) {x : Ev} (hf : A.freed ≤ x.a) : ((cnt p.l x : Int) - (cnt p.m x : Int) ≤ 0) ↔ has A.l x = false := by
 obtain ⟨z0, h1, h2, h3, _⟩ := hr.z0
 have hq := dis_q hr.inv.sl hr.inv.sm_ hr.inv.dis
 have e1 : cnt p.l x = cnt A.l x := by
  rw [h1, cnt_count, cnt_count]
  exact List.count_filter (by simp; omega)
 have c1 := hq.c1 x
 have c2 := hq.c2 x
 rw [e1, hr.m]
 have hm := has_cnt hr.inv.sl x
 constructor
 ·intro hh
  rw [hm]
  exact decide_eq_false (by omega)
 ·intro hh
  rw [hm] at hh
  have := of_decide_eq_false hh
  omega
theorem nextL_is (hr : RefP c first p A n) : nextL p = nextB A := by
 have hx := next_is hr
 unfold nextL nextB
 rw [← hx]
 cases nextE p.l p.now <;> rfl
theorem free_t (hr : RefP c first p A n) {below : Int} (hf : A.freed < below) : -9000000000000000000 < freeT (freeSv p.sv below) ∧ freeT (freeSv p.sv below) < 9000000000000000000 := by
 obtain ⟨z, r, t1, t2, t3⟩ := hr.t0
 obtain ⟨z', r', f1, f2, f3, f4, f5, f6⟩ := freeSv_is t1 hr.good.svr (show z.1 < below by omega)
 rw [f1]
 show -9000000000000000000 < z'.1 ∧ z'.1 < 9000000000000000000
 have hm := f4 z' (by rw [f1]; simp)
 have hf := hr.sv z' hm
 have h1 := (foldT_lo (cfg c first).R hr.inv.sl z'.1 (-1) first).1
 have hfz : (foldT (cfg c first).R A.l z'.1 (-1) first).1 = z'.1 := hf.1
 rw [hfz] at h1
 have h2 := hr.good.last z' hm
 have h3 : A.now ≤ 1073741824 := by
  have e1 := hr.inv.at_
  unfold AM.fold at e1
  rcases nx_cases hr.inv.sl (cfg c first).R A.now (cfg c first).first with h | ⟨e, he, h⟩
  ·rw [e1] at h
   omega
  ·have := (hr.inv.ev e he).2
   rw [e1] at h
   omega
 have := hr.now
 omega
end
end Go.Proofs.YthbcdkeammhakaaGreat
namespace Go.Proofs.YthbcdkeammhakaaGreat
open Go.RowKit Go.ChangeShapes Go.WideShapes Go.ChangeAt
attribute [local go_sem ↓] Go.wp_at_zero Go.wp_at_succ
def smallB (e : Ev) : Bool := decide (-1 ≤ e.s) && (decide (e.s ≤ 1000) && (decide (0 ≤ e.x) && decide (e.x ≤ 1000000)))
theorem smallB_iff (e : Ev) : smallB e = true ↔ SmE e := by
 unfold smallB SmE
 simp
theorem small_any (e : Ev) (w : World) : Calls Tryz.prog 43 #[e.val] w fun en w' => en = .returned (.bool (smallB e)) ∧ Fresh w w' := by
 obtain ⟨a, s, t, n, d, k, x⟩ := e
 unfold Ev.val smallB
 simp only
 cases t1 : decide (-1 ≤ s) with
 | false =>
  go_enter Tryz.func43, Tryz.ntmps43
  go_wp2_with fail
  go_returns
  exact ⟨rfl, by (repeat (first | (with_reducible exact Keep.refl _ _) | (with_reducible assumption) | (with_reducible refine Keep.drew ?_) | (with_reducible refine Keep.drewN ?_ _) | (with_reducible refine Keep.alloc ?_ _) | (with_reducible refine Keep.setCell ?_ ?_ _) | (with_reducible refine fun _ => rfl)))⟩
 | true =>
  cases t2 : decide (s ≤ 1000) with
  | false =>
   go_enter Tryz.func43, Tryz.ntmps43
   go_wp2_with fail
   go_returns
   exact ⟨rfl, by (repeat (first | (with_reducible exact Keep.refl _ _) | (with_reducible assumption) | (with_reducible refine Keep.drew ?_) | (with_reducible refine Keep.drewN ?_ _) | (with_reducible refine Keep.alloc ?_ _) | (with_reducible refine Keep.setCell ?_ ?_ _) | (with_reducible refine fun _ => rfl)))⟩
  | true =>
   cases t3 : decide (0 ≤ x) with
   | false =>
    go_enter Tryz.func43, Tryz.ntmps43
    go_wp2_with fail
    go_returns
    exact ⟨rfl, by (repeat (first | (with_reducible exact Keep.refl _ _) | (with_reducible assumption) | (with_reducible refine Keep.drew ?_) | (with_reducible refine Keep.drewN ?_ _) | (with_reducible refine Keep.alloc ?_ _) | (with_reducible refine Keep.setCell ?_ ?_ _) | (with_reducible refine fun _ => rfl)))⟩
   | true =>
    cases t4 : decide (x ≤ 1000000) with
    | false =>
     go_enter Tryz.func43, Tryz.ntmps43
     go_wp2_with fail
     go_returns
     exact ⟨rfl, by (repeat (first | (with_reducible exact Keep.refl _ _) | (with_reducible assumption) | (with_reducible refine Keep.drew ?_) | (with_reducible refine Keep.drewN ?_ _) | (with_reducible refine Keep.alloc ?_ _) | (with_reducible refine Keep.setCell ?_ ?_ _) | (with_reducible refine fun _ => rfl)))⟩
    | true =>
     go_enter Tryz.func43, Tryz.ntmps43
     go_wp2_with fail
     go_returns
     exact ⟨rfl, by (repeat (first | (with_reducible exact Keep.refl _ _) | (with_reducible assumption) | (with_reducible refine Keep.drew ?_) | (with_reducible refine Keep.drewN ?_ _) | (with_reducible refine Keep.alloc ?_ _) | (with_reducible refine Keep.setCell ?_ ?_ _) | (with_reducible refine fun _ => rfl)))⟩
structure LOp where
 k : Int
 b : Int
 x : Ev
 an : Bool
def LOp.arr (o : LOp) : Array Value := #[.int .i64 o.k, .int .i64 o.b, .int .i64 o.x.a, .int .i64 o.x.s, .int .i64 o.x.t, .int .i64 o.x.n, .int .i64 o.x.d, .int .i64 o.x.k, .int .i64 o.x.x, .bool o.an]
def LOps (W : World) (A : Option Addr) (os : List LOp) : Prop := ∀ (i : Nat) (o : LOp), os[i]? = some o → ∃ b off, A = some ⟨b, off, none⟩ ∧ b < W.heap.size ∧ ∀ j u, o.arr[j]? = some u → W.cell? ⟨b, off + i * 10 + j, none⟩ = some u
theorem LOps.fresh {w w' : World} {A : Option Addr} {os : List LOp} (h : LOps w A os) (f : Fresh w w') : LOps w' A os := fun i o ho => by
 obtain ⟨b, off, e, lt, hh⟩ := h i o ho
 exact ⟨b, off, e, Nat.lt_of_lt_of_le lt f.size, fun j u hu => f.cell_ (hh j u hu)⟩
theorem lops_arg {H : Type} {enc : TypeId × Value → H} {W : World} {A : Option Addr} {rows : List (List Value)} (h : ∀ r ∈ rows, All2 (Leaf enc Tryz.prog W) [3, 3, 3, 3, 3, 3, 3, 3, 3, 4] r) (ha : SliceAt W A 10 rows) : ∃ os : List LOp, os.length = rows.length ∧ LOps W A os := by
 obtain ⟨os, hl, _⟩ := decode (fun o : LOp => o.arr.toList) (fun _ => True) (fun r h => by
  obtain ⟨q, p0, g0, _, k0⟩ := all2_int Tryz.underlying3 h
  obtain ⟨q', p1, g1, _, k1⟩ := all2_int Tryz.underlying3 k0
  obtain ⟨a, l0, e0, _, h0⟩ := all2_int Tryz.underlying3 k1
  obtain ⟨s, l1, e1, _, h1⟩ := all2_int Tryz.underlying3 h0
  obtain ⟨t, l2, e2, _, h2⟩ := all2_int Tryz.underlying3 h1
  obtain ⟨n, l3, e3, _, h3⟩ := all2_int Tryz.underlying3 h2
  obtain ⟨d, l4, e4, _, h4⟩ := all2_int Tryz.underlying3 h3
  obtain ⟨k, l5, e5, _, h5⟩ := all2_int Tryz.underlying3 h4
  obtain ⟨x, l6, e6, _, h6⟩ := all2_int Tryz.underlying3 h5
  obtain ⟨b, l7, e7, h7⟩ := all2_bool Tryz.underlying4 h6
  have := all2_nil h7
  subst this e7 e6 e5 e4 e3 e2 e1 e0 g1 g0
  exact ⟨⟨q, q', ⟨a, s, t, n, d, k, x⟩, b⟩, rfl, trivial⟩) rows h
 subst hl
 refine ⟨os, by simp, fun i o ho => ?_⟩
 obtain ⟨b, off, rfl, lt, hc⟩ := ha i (by simpa using (List.getElem?_eq_some_iff.1 ho).1)
 refine ⟨b, off, rfl, lt, fun j u hu => hc j u ?_⟩
 rw [List.getD_eq_getElem?_getD, List.getElem?_map, ho]
 rw [← Array.getElem?_toList] at hu
 exact hu
def shortB (os : List LOp) : Bool := os.all (fun o => smallB o.x) && decide (os.length ≤ 60)
theorem short_any (A : Option Addr) (c : Nat) (os : List LOp) (w : World) (h : LOps w A os) (hn : os.length ≤ 9223372036854775807) : Calls Tryz.prog 12 #[.slice A os.length c] w fun en w' => en = .returned (.bool (shortB os)) ∧ Fresh w w' := by
 have H := Lib.hid h
 have HSB : Hid (shortB os = (os.all (fun o => smallB o.x) && decide (os.length ≤ 60))) := Lib.hid rfl
 obtain ⟨SB, hSB⟩ : ∃ SB, shortB os = SB := ⟨_, rfl⟩
 rw [hSB] at HSB ⊢
 clear h hSB
 go_enter Tryz.func12, Tryz.ntmps12
 go_wp2_with fail
 go_loopg [3] os.length (fun gk u wr => ∃ q : Nat, q ≤ os.length ∧ gk = os.length - q ∧ u = .int .i64 q ∧ Fresh w wr ∧ ∀ (j : Nat) o, j < q → os[j]? = some o → smallB o.x = true)
 case atStart => exact ⟨0, by omega, rfl, rfl, Keep.refl _ _, fun j o hj _ => by omega⟩
 case round =>
  obtain ⟨q, hq, rfl, rfl, hF, hA⟩ := hrel
  have HF := Lib.hid hF
  have HA := Lib.hid hA
  clear hF hA
  by_cases hlt : q < os.length
  ·obtain ⟨o, ho⟩ : ∃ o, os[q]? = some o := ⟨_, List.getElem?_eq_getElem hlt⟩
   obtain ⟨b, off, rfl, lt, hc⟩ := H.out q o ho
   have HO := Lib.hid ho
   have hc := fun j u hu => HF.out.cell_ (hc j u hu)
   have c2 : wr.cell? ⟨b, off + q * 10 + 2, none⟩ = some (.int .i64 o.x.a) := hc 2 _ rfl
   have c3 : wr.cell? ⟨b, off + q * 10 + 3, none⟩ = some (.int .i64 o.x.s) := hc 3 _ rfl
   have c4 : wr.cell? ⟨b, off + q * 10 + 4, none⟩ = some (.int .i64 o.x.t) := hc 4 _ rfl
   have c5 : wr.cell? ⟨b, off + q * 10 + 5, none⟩ = some (.int .i64 o.x.n) := hc 5 _ rfl
   have c6 : wr.cell? ⟨b, off + q * 10 + 6, none⟩ = some (.int .i64 o.x.d) := hc 6 _ rfl
   have c7 : wr.cell? ⟨b, off + q * 10 + 7, none⟩ = some (.int .i64 o.x.k) := hc 7 _ rfl
   have c8 : wr.cell? ⟨b, off + q * 10 + 8, none⟩ = some (.int .i64 o.x.x) := hc 8 _ rfl
   have tq : decide ((q : Int) < (os.length : Int)) = true := decide_eq_true (by omega)
   have tq' : decide (q < os.length) = true := decide_eq_true hlt
   have q1 : (q : Int) < (os.length : Int) := by omega
   have HSM := Lib.hid (fun W => small_any o.x W)
   unfold Ev.val at HSM
   obtain ⟨sb, hsb⟩ : ∃ sb, smallB o.x = sb := ⟨_, rfl⟩
   have HSB2 := Lib.hid hsb
   rw [hsb] at HSM
   clear hc ho hsb
   cases sb with
   | false =>
    go_wp2_with (go_at_call 43; (with_reducible refine (HSM.out _).mono ?_); rintro e w1 ⟨rfl, f1⟩)
    go_returns
    refine ⟨?_, HF.out.step f1 (fun _ _ h => h)⟩
    have : SB = false := by
     rw [HSB.out, List.all_eq_false.2 ⟨o, List.mem_of_getElem? HO.out, by rw [HSB2.out]; simp⟩]
     rfl
    rw [this]
    rfl
   | true =>
    go_wp2_with (go_at_call 43; (with_reducible refine (HSM.out _).mono ?_); rintro e w1 ⟨rfl, f1⟩; have F1 := Lib.hid f1; clear f1)
    go_roundg (os.length - (q + 1))
    case measure => omega
    case rel =>
     refine ⟨q + 1, by omega, rfl, by go_num, HF.out.step F1.out (fun _ _ h => h), fun j o' hj ho' => ?_⟩
     rcases Nat.lt_or_ge j q with h | h
     ·exact HA.out j o' h ho'
     ·obtain rfl : j = q := by omega
      have := HO.out.symm.trans ho'
      injection this with this
      rw [← this]
      exact HSB2.out
  ·obtain rfl : q = os.length := by omega
   have tq : decide ((os.length : Int) < (os.length : Int)) = false := decide_eq_false (by omega)
   have HS2 : Hid (SB = decide (os.length ≤ 60)) := Lib.hid (by
    rw [HSB.out, List.all_eq_true.2 (fun o ho => by
     obtain ⟨j, hj⟩ := List.mem_iff_getElem?.1 ho
     exact HA.out j o (List.getElem?_eq_some_iff.1 hj).1 hj)]
    rfl)
   cases h60 : decide (os.length ≤ 60)
   ·have t2 : decide ((os.length : Int) ≤ 60) = false := decide_eq_false (by have := of_decide_eq_false h60; omega)
    rw [h60] at HS2
    go_wp2_with fail
    go_returns
    exact ⟨by rw [HS2.out]; rfl, HF.out⟩
   ·have t2 : decide ((os.length : Int) ≤ 60) = true := decide_eq_true (by have := of_decide_eq_true h60; omega)
    rw [h60] at HS2
    go_wp2_with fail
    go_returns
    exact ⟨by rw [HS2.out]; rfl, HF.out⟩
end Go.Proofs.YthbcdkeammhakaaGreat
namespace Go.Proofs.YthbcdkeammhakaaGreat
open Go.RowKit
attribute [local go_sem ↓] Go.wp_at_zero Go.wp_at_succ
def jarr (c : LC) (first : St) (v : Value) : Array Value := #[.int .i64 c.md, .int .i64 c.id, .int .i64 first.s0, .int .i64 first.s1, .int .i64 first.s2, .int .i64 first.s3, .int .i64 c.every, .bool c.lz, v]
def okI (x : Int) : Bool := !decide (x < 0) && !decide (1000000 < x)
def fewB (c : LC) (first : St) (l : List Ev) : Bool := l.all smallB && (okI first.s0 && (okI first.s1 && (okI first.s2 && (okI first.s3 && (decide (l.length ≤ 20) && decide (c.md < 1000))))))
theorem okI_iff (x : Int) : okI x = true ↔ 0 ≤ x ∧ x ≤ 1000000 := by
 unfold okI
 simp
theorem few_facts {c : LC} {first : St} {l : List Ev} (h : fewB c first l = true) : (∀ e ∈ l, SmE e) ∧ OkS first ∧ l.length ≤ 20 ∧ c.md < 1000 := by
 unfold fewB at h
 simp only [Bool.and_eq_true, List.all_eq_true, decide_eq_true_eq, okI_iff] at h
 obtain ⟨h1, h2, h3, h4, h5, h6, h7⟩ := h
 exact ⟨fun e he => (smallB_iff e).1 (h1 e he), ⟨h2.1, h2.2, h4.1, h4.2⟩, h6, h7⟩
theorem few_any (c : LC) (first : St) (A : Option Addr) (cA : Nat) (l : List Ev) (w : World) (h : EvAt w (.slice A l.length cA) l) (hn : l.length ≤ 9223372036854775807) : Calls Tryz.prog 11 #[.agg (jarr c first (.slice A l.length cA))] w fun en w' => en = .returned (.bool (fewB c first l)) ∧ Fresh w w' := by
 obtain ⟨A', cA', hv, hat⟩ := h
 injection hv with e1 e2 e3
 subst e1 e3
 have HA := Lib.hid hat
 have HFB : Hid (fewB c first l = (l.all smallB && (okI first.s0 && (okI first.s1 && (okI first.s2 && (okI first.s3 && (decide (l.length ≤ 20) && decide (c.md < 1000)))))))) := Lib.hid rfl
 obtain ⟨FB, hFB⟩ : ∃ FB, fewB c first l = FB := ⟨_, rfl⟩
 rw [hFB] at HFB ⊢
 unfold jarr
 have B0 := Lib.hid (Blk.new w 26 #[.int .i64 c.md, .int .i64 c.id, .int .i64 first.s0, .int .i64 first.s1, .int .i64 first.s2, .int .i64 first.s3, .int .i64 c.every, .bool c.lz, .slice A l.length cA])
 have F0 : Hid (Fresh w (w.alloc (.cells #[.int .i64 c.md, .int .i64 c.id, .int .i64 first.s0, .int .i64 first.s1, .int .i64 first.s2, .int .i64 first.s3, .int .i64 c.every, .bool c.lz, .slice A l.length cA] 26))) := Lib.hid ((Keep.refl _ w).alloc _)
 clear hat hFB
 go_enter Tryz.func11, Tryz.ntmps11
 go_wp2_with fail
 go_loopg [3] l.length (fun gk u wr => ∃ q : Nat, q ≤ l.length ∧ gk = l.length - q ∧ u = .int .i64 q ∧ Fresh w wr ∧ Blk wr w.heap.size 26 #[.int .i64 c.md, .int .i64 c.id, .int .i64 first.s0, .int .i64 first.s1, .int .i64 first.s2, .int .i64 first.s3, .int .i64 c.every, .bool c.lz, .slice A l.length cA] ∧ ∀ (j : Nat) o, j < q → l[j]? = some o → smallB o = true)
 case atStart => exact ⟨0, by omega, rfl, rfl, F0.out, B0.out, fun j o hj _ => by omega⟩
 case round =>
  obtain ⟨q, hq, rfl, rfl, hF, hB, hA⟩ := hrel
  have HF := Lib.hid hF
  have HB := Lib.hid hB
  have HL := Lib.hid hA
  have cB := hB.cell
  have lB := hB.lt
  clear hF hA hB B0 F0
  by_cases hlt : q < l.length
  ·obtain ⟨o, ho⟩ : ∃ o, l[q]? = some o := ⟨_, List.getElem?_eq_getElem hlt⟩
   obtain ⟨b, off, rfl, lt, hc⟩ := HA.out q o ho
   have HO := Lib.hid ho
   have hc := fun j u hu => HF.out.cell_ (hc j u hu)
   have c0 : wr.cell? ⟨b, off + q * 7, none⟩ = some (.int .i64 o.a) := hc 0 _ rfl
   have c1 : wr.cell? ⟨b, off + q * 7 + 1, none⟩ = some (.int .i64 o.s) := hc 1 _ rfl
   have c2 : wr.cell? ⟨b, off + q * 7 + 2, none⟩ = some (.int .i64 o.t) := hc 2 _ rfl
   have c3 : wr.cell? ⟨b, off + q * 7 + 3, none⟩ = some (.int .i64 o.n) := hc 3 _ rfl
   have c4 : wr.cell? ⟨b, off + q * 7 + 4, none⟩ = some (.int .i64 o.d) := hc 4 _ rfl
   have c5 : wr.cell? ⟨b, off + q * 7 + 5, none⟩ = some (.int .i64 o.k) := hc 5 _ rfl
   have c6 : wr.cell? ⟨b, off + q * 7 + 6, none⟩ = some (.int .i64 o.x) := hc 6 _ rfl
   have tq : decide ((q : Int) < (l.length : Int)) = true := decide_eq_true (by omega)
   have tq' : decide (q < l.length) = true := decide_eq_true hlt
   have q1 : (q : Int) < (l.length : Int) := by omega
   have HSM := Lib.hid (fun W => small_any o W)
   unfold Ev.val at HSM
   obtain ⟨sb, hsb⟩ : ∃ sb, smallB o = sb := ⟨_, rfl⟩
   have HSB2 := Lib.hid hsb
   rw [hsb] at HSM
   clear hc ho hsb
   cases sb with
   | false =>
    go_wp2_with (go_at_call 43; (with_reducible refine (HSM.out _).mono ?_); rintro e w1 ⟨rfl, f1⟩)
    go_returns
    refine ⟨?_, HF.out.step f1 (fun _ _ h => h)⟩
    have : FB = false := by
     rw [HFB.out, List.all_eq_false.2 ⟨o, List.mem_of_getElem? HO.out, by rw [HSB2.out]; simp⟩]
     rfl
    rw [this]
    rfl
   | true =>
    go_wp2_with (go_at_call 43; (with_reducible refine (HSM.out _).mono ?_); rintro e w1 ⟨rfl, f1⟩; have F1 := Lib.hid f1; clear f1)
    go_roundg (l.length - (q + 1))
    case measure => omega
    case rel =>
     refine ⟨q + 1, by omega, rfl, by go_num, HF.out.step F1.out (fun _ _ h => h), F1.out.blk_ HB.out, fun j o' hj ho' => ?_⟩
     rcases Nat.lt_or_ge j q with h | h
     ·exact HL.out j o' h ho'
     ·obtain rfl : j = q := by omega
      have := HO.out.symm.trans ho'
      injection this with this
      rw [← this]
      exact HSB2.out
  ·obtain rfl : q = l.length := by omega
   have tq : decide ((l.length : Int) < (l.length : Int)) = false := decide_eq_false (by omega)
   have HFB2 : Hid (FB = (okI first.s0 && (okI first.s1 && (okI first.s2 && (okI first.s3 && (decide (l.length ≤ 20) && decide (c.md < 1000))))))) := Lib.hid (by
    rw [HFB.out, List.all_eq_true.2 (fun o ho => by
     obtain ⟨j, hj⟩ := List.mem_iff_getElem?.1 ho
     exact HL.out j o (List.getElem?_eq_some_iff.1 hj).1 hj)]
    rfl)
   clear HFB hlt HL hq
   go_wp2_with fail
   go_loopg [4] 4 (fun gk u wq => ∃ q : Nat, q ≤ 4 ∧ gk = 4 - q ∧ u = .int .i64 q ∧ wq = wr ∧ (0 < q → okI first.s0 = true) ∧ (1 < q → okI first.s1 = true) ∧ (2 < q → okI first.s2 = true) ∧ (3 < q → okI first.s3 = true))
   case atStart => exact ⟨0, by omega, rfl, rfl, rfl, fun h => by omega, fun h => by omega, fun h => by omega, fun h => by omega⟩
   case round =>
    obtain ⟨q, hq4, rfl, rfl, rfl, g0, g1, g2, g3⟩ := hrel
    have G0 := Lib.hid g0
    have G1 := Lib.hid g1
    have G2 := Lib.hid g2
    have G3 := Lib.hid g3
    clear g0 g1 g2 g3
    rcases (show q = 0 ∨ q = 1 ∨ q = 2 ∨ q = 3 ∨ q = 4 by omega) with rfl | rfl | rfl | rfl | rfl
    ·have tq4 : decide ((0 : Int) < 4) = true := rfl
     cases u1 : decide (first.s0 < 0) with
     | true =>
      have HK : Hid (okI first.s0 = false) := Lib.hid (by unfold okI; rw [u1]; rfl)
      go_wp2_with fail
      go_returns
      exact ⟨by rw [HFB2.out, HK.out]; rfl, HF.out⟩
     | false =>
      cases u2 : decide (1000000 < first.s0) with
      | true =>
       have HK : Hid (okI first.s0 = false) := Lib.hid (by unfold okI; rw [u1, u2]; rfl)
       go_wp2_with fail
       go_returns
       exact ⟨by rw [HFB2.out, HK.out]; rfl, HF.out⟩
      | false =>
       have HK : Hid (okI first.s0 = true) := Lib.hid (by unfold okI; rw [u1, u2]; rfl)
       go_wp2_with fail
       go_roundg 3
       case measure => omega
       case rel => exact ⟨1, by omega, rfl, rfl, rfl, fun _ => HK.out, fun h => by omega, fun h => by omega, fun h => by omega⟩
    ·have tq4 : decide ((1 : Int) < 4) = true := rfl
     cases u1 : decide (first.s1 < 0) with
     | true =>
      have HK : Hid (okI first.s1 = false) := Lib.hid (by unfold okI; rw [u1]; rfl)
      go_wp2_with fail
      go_returns
      exact ⟨by rw [HFB2.out, G0.out (by omega), HK.out]; rfl, HF.out⟩
     | false =>
      cases u2 : decide (1000000 < first.s1) with
      | true =>
       have HK : Hid (okI first.s1 = false) := Lib.hid (by unfold okI; rw [u1, u2]; rfl)
       go_wp2_with fail
       go_returns
       exact ⟨by rw [HFB2.out, G0.out (by omega), HK.out]; rfl, HF.out⟩
      | false =>
       have HK : Hid (okI first.s1 = true) := Lib.hid (by unfold okI; rw [u1, u2]; rfl)
       go_wp2_with fail
       go_roundg 2
       case measure => omega
       case rel => exact ⟨2, by omega, rfl, rfl, rfl, fun _ => G0.out (by omega), fun _ => HK.out, fun h => by omega, fun h => by omega⟩
    ·have tq4 : decide ((2 : Int) < 4) = true := rfl
     cases u1 : decide (first.s2 < 0) with
     | true =>
      have HK : Hid (okI first.s2 = false) := Lib.hid (by unfold okI; rw [u1]; rfl)
      go_wp2_with fail
      go_returns
      exact ⟨by rw [HFB2.out, G0.out (by omega), G1.out (by omega), HK.out]; rfl, HF.out⟩
     | false =>
      cases u2 : decide (1000000 < first.s2) with
      | true =>
       have HK : Hid (okI first.s2 = false) := Lib.hid (by unfold okI; rw [u1, u2]; rfl)
       go_wp2_with fail
       go_returns
       exact ⟨by rw [HFB2.out, G0.out (by omega), G1.out (by omega), HK.out]; rfl, HF.out⟩
      | false =>
       have HK : Hid (okI first.s2 = true) := Lib.hid (by unfold okI; rw [u1, u2]; rfl)
       go_wp2_with fail
       go_roundg 1
       case measure => omega
       case rel => exact ⟨3, by omega, rfl, rfl, rfl, fun _ => G0.out (by omega), fun _ => G1.out (by omega), fun _ => HK.out, fun h => by omega⟩
    ·have tq4 : decide ((3 : Int) < 4) = true := rfl
     cases u1 : decide (first.s3 < 0) with
     | true =>
      have HK : Hid (okI first.s3 = false) := Lib.hid (by unfold okI; rw [u1]; rfl)
      go_wp2_with fail
      go_returns
      exact ⟨by rw [HFB2.out, G0.out (by omega), G1.out (by omega), G2.out (by omega), HK.out]; rfl, HF.out⟩
     | false =>
      cases u2 : decide (1000000 < first.s3) with
      | true =>
       have HK : Hid (okI first.s3 = false) := Lib.hid (by unfold okI; rw [u1, u2]; rfl)
       go_wp2_with fail
       go_returns
       exact ⟨by rw [HFB2.out, G0.out (by omega), G1.out (by omega), G2.out (by omega), HK.out]; rfl, HF.out⟩
      | false =>
       have HK : Hid (okI first.s3 = true) := Lib.hid (by unfold okI; rw [u1, u2]; rfl)
       go_wp2_with fail
       go_roundg 0
       case measure => omega
       case rel => exact ⟨4, by omega, rfl, rfl, rfl, fun _ => G0.out (by omega), fun _ => G1.out (by omega), fun _ => G2.out (by omega), fun _ => HK.out⟩
    ·have HFB3 : Hid (FB = (decide (l.length ≤ 20) && decide (c.md < 1000))) := Lib.hid (by rw [HFB2.out, G0.out (by omega), G1.out (by omega), G2.out (by omega), G3.out (by omega)]; rfl)
     have tq4 : decide ((4 : Int) < 4) = false := rfl
     cases u1 : decide (l.length ≤ 20) with
     | false =>
      have u1' : decide ((l.length : Int) ≤ 20) = false := decide_eq_false (by have := of_decide_eq_false u1; omega)
      rw [u1] at HFB3
      go_wp2_with fail
      go_returns
      exact ⟨by rw [HFB3.out]; rfl, HF.out⟩
     | true =>
      have u1' : decide ((l.length : Int) ≤ 20) = true := decide_eq_true (by have := of_decide_eq_true u1; omega)
      rw [u1] at HFB3
      cases u2 : decide (c.md < 1000) with
      | false =>
       rw [u2] at HFB3
       go_wp2_with fail
       go_returns
       exact ⟨by rw [HFB3.out]; rfl, HF.out⟩
      | true =>
       rw [u2] at HFB3
       go_wp2_with fail
       go_returns
       exact ⟨by rw [HFB3.out]; rfl, HF.out⟩
end Go.Proofs.YthbcdkeammhakaaGreat
namespace Go.Proofs.YthbcdkeammhakaaGreat
open Go.RowKit
attribute [local go_sem ↓] Go.wp_at_zero Go.wp_at_succ
theorem lnew_any (c : LC) (first : St) (v : Value) (l : List Ev) (w : World) (hv : EvAt w v l) (hl : l.length ≤ 100000) : Calls Tryz.prog 39 #[rulesV c.md, .int .i64 c.id, first.val, .int .i64 c.every, .bool c.lz, v] w (LMadeP c first l w) := by
 by_cases hb : c.id < 0 ∨ 32 ≤ c.id ∨ c.every < 1
 ·exact lnew_arg c first v l w hb
 ·exact lnew_ok c first v l w hb hv hl
theorem LMadeP.after {c : LC} {first : St} {l : List Ev} {w W w' : World} {e : Ending} (f : Fresh w W) (h : LMadeP c first l W e w') : LMadeP c first l w e w' := by
 rcases h with ⟨h1, y, h2, h3, h4, h5⟩ | ⟨h1, h2, h3⟩
 ·exact .inl ⟨h1, y, h2, h3, f.step h4 (fun _ _ h => h), fun k hk => Nat.le_trans f.size (h5 k hk)⟩
 ·exact .inr ⟨h1, h2, f.step h3 (fun _ _ h => h)⟩
theorem made_any (c : LC) (first : St) (A : Option Addr) (cA : Nat) (l : List Ev) (w : World) (h : EvAt w (.slice A l.length cA) l) (hl : l.length ≤ 100000) : Calls Tryz.prog 14 #[.agg (jarr c first (.slice A l.length cA))] w (LMadeP c first l w) := by
 have HN : Hid (∀ W, Fresh w W → Calls Tryz.prog 39 #[rulesV c.md, .int .i64 c.id, first.val, .int .i64 c.every, .bool c.lz, .slice A l.length cA] W (LMadeP c first l W)) := Lib.hid fun W f => lnew_any c first _ l W (h.fresh f) hl
 unfold jarr
 unfold rulesV St.val at HN
 clear h
 go_enter Tryz.func14, Tryz.ntmps14
 go_wp2_with fail
 refine (HN.out _ ((Keep.refl _ w).alloc _)).mono ?_
 rintro e w' hh
 have hh := LMadeP.after (((Keep.refl _ w).alloc (.cells #[.int .i64 c.md, .int .i64 c.id, .int .i64 first.s0, .int .i64 first.s1, .int .i64 first.s2, .int .i64 first.s3, .int .i64 c.every, .bool c.lz, .slice A l.length cA] 26)) : Fresh w _) hh
 rcases hh with ⟨h1, y, rfl, h3, h4, h5⟩ | ⟨h1, rfl, h3⟩
 ·have Y := Lib.hid (show LMadeP c first l w (.returned (.tuple #[.pointer (some ⟨y.g, 0, none⟩), .int .i64 0])) w' from .inl ⟨h1, y, rfl, h3, h4, h5⟩)
  clear h1 h3 h4 h5 HN
  go_wp2_with fail
  go_returns
  exact Y.out
 ·have Y := Lib.hid (show LMadeP c first l w (.returned (.tuple #[.pointer none, .int .i64 (madeE c.id c.every l)])) w' from .inr ⟨h1, rfl, h3⟩)
  clear h1 h3 HN
  go_wp2_with fail
  go_returns
  exact Y.out
theorem come_E (C : Cfg) (A : AM) (x : Ev) (an : Bool) : (comeA C A x an).E = [] := by unfold comeA; split <;> rfl
theorem bak_E (C : Cfg) (A : AM) (b : Int) : (bakA C A b).E = [] := by unfold bakA; split <;> (try split) <;> rfl
theorem stp_E (C : Cfg) (A : AM) : (stpA C A).E = [] := by unfold stpA; split <;> rfl
theorem tak_E (C : Cfg) (A : AM) (x : Ev) (an : Bool) : (takA C A x an).E = [] := by
 unfold takA
 split
 ·rfl
 ·split
  ·rfl
  ·split
   ·rfl
   ·exact come_E C A x an
theorem giv_E (C : Cfg) (A : AM) (x : Ev) : (givA C A x).E = [] := by
 unfold givA
 split
 ·rfl
 ·split
  ·exact come_E C A x true
  ·rfl
theorem ret_E (C : Cfg) (A : AM) (x : Ev) : (retA C A x).E = [] := by
 unfold retA
 split
 ·rfl
 ·split
  ·rfl
  ·split
   ·exact bak_E C _ _
   ·rfl
theorem fre_M (A : AM) (b : Int) : (freA A b).M = [] := by unfold freA; split <;> (try split) <;> rfl
end Go.Proofs.YthbcdkeammhakaaGreat
