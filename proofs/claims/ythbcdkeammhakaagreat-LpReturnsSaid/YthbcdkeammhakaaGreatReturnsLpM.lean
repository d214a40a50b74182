/- LpReturns returns true at every input: an event that came back is sent anew, and all else that it takes back with it. No conditions. -/
import Derived.Test.YthbcdkeammhakaaGreatM27
import Derived.Test.YthbcdkeammhakaaGreatM26
import Derived.Deep.DeepCutAuto
namespace Go.Proofs.YthbcdkeammhakaaGreat
open Go.RowKit
attribute [local go_sem] eq4w
attribute [local go_sem ↓] Go.wp_at_zero Go.wp_at_succ run_neq_ev
theorem ret_pick (a : Int) (n : Nat) (hn : 0 < n) : ∃ j : Nat, j < n ∧ (a.tmod n + n).tmod n = (j : Int) ∧ -(n : Int) < a.tmod n ∧ a.tmod n < n := by
  have h1 : -(n : Int) < a.tmod n := by
    have := Int.lt_tmod_of_pos a (b := (n : Int)) (by omega)
    omega
  have h2 : a.tmod n < n := Int.tmod_lt_of_pos a (by omega)
  refine ⟨((a.tmod n + n).tmod n).toNat, ?_, ?_, h1, h2⟩
  · have h3 := Int.tmod_lt_of_pos (a.tmod n + n) (show (0 : Int) < n by omega)
    have h4 := Int.tmod_nonneg (n : Int) (show 0 ≤ a.tmod n + n by omega)
    omega
  · have h4 := Int.tmod_nonneg (n : Int) (show 0 ≤ a.tmod n + n by omega)
    omega
theorem OwnP.keepV {c : LC} {first : St} {A : AM} {n : Nat} {w0 W W' : World} {y : PV} {S : Nat → Prop} (h : OwnP c first A n w0 y W) (k : Keep S W W') (hS : ∀ i, S i → w0.heap.size ≤ i ∧ ¬ lfoot y i) : OwnP c first A n w0 y W' := by
  obtain ⟨p, h1, h2⟩ := h.r
  exact ⟨⟨p, h1.kept k (fun i h3 h4 => (hS i h4).2 h3), h2⟩, h.f.step k (fun i hi hs => by have := (hS i hs).1; omega), h.x⟩
theorem OwnP.own_turn {c : LC} {first : St} {A : AM} {n m : Nat} {w0 w w' : World} {y y' : PV} (h : OwnP c first A n w0 y w) (t : LTurn w w' y y') {T : TypeId} {size : Nat} {v : Value} {xs : List Value} (o : OwnS w T size v m xs) (hT : T ∉ lpTypes) : OwnS w' T size v m xs := by
  obtain ⟨p, h1, _⟩ := h.r
  exact h1.own_turn t o hT
theorem OwnP.blk_turn {c : LC} {first : St} {A : AM} {n : Nat} {w0 w w' : World} {y y' : PV} (h : OwnP c first A n w0 y w) (t : LTurn w w' y y') {T : TypeId} {g : Nat} {cs : Array Value} (b : Blk w g T cs) (hT : T ∉ lpTypes) : Blk w' g T cs := by
  obtain ⟨p, h1, _⟩ := h.r
  exact h1.blk_turn t b hT
theorem OwnP.not_own {c : LC} {first : St} {A : AM} {n m : Nat} {w0 w : World} {y : PV} (h : OwnP c first A n w0 y w) {T : TypeId} {size : Nat} {v : Value} {xs : List Value} (o : OwnS w T size v m xs) (hT : T ∉ lpTypes) : ∀ k, v.ownBlock = some k → ¬ lfoot y k := by
  obtain ⟨p, h1, _⟩ := h.r
  exact h1.not_own o hT
/-- a slice's blocks apart of a process's -/
def OffW (v : Value) (y : PV) : Prop := ∀ k, v.ownBlock = some k → ¬ lfoot y k
theorem OffW.turn {v : Value} {T : TypeId} {size n : Nat} {xs : List Value} {w w' : World} {y y' : PV} (h : OffW v y) (o : OwnS w T size v n xs) (t : LTurn w w' y y') : OffW v y' := fun k hk hf => by
  rcases t.later k hf with h1 | h1
  · exact h k hk h1
  · have := o.lt hk; omega
/-- messages of events -/
def news (l : List Ev) : List OMsg := l.map (fun e => (e, false))
theorem news_snoc (l : List Ev) (e : Ev) : news (l ++ [e]) = news l ++ [(e, false)] := by simp [news]
def but (l : List Ev) (x : Ev) : List Ev := l.filter (fun e => decide (e ≠ x))
theorem but_snoc {l : List Ev} {x y : Ev} {i : Nat} (h : l[i]? = some y) : but (l.take (i + 1)) x = but (l.take i) x ++ (if y ≠ x then [y] else []) := by
  unfold but
  rw [List.take_add_one, h, Option.toList_some, List.filter_append]
  congr 1
  by_cases e : y = x <;> simp [e]
set_option maxRecDepth 100000 in
set_option maxHeartbeats 16000000 in
theorem lpreturns_any (c : LC) (first : St) (wh : Int) (A B : Option Addr) (cA cB : Nat) (l : List Ev) (os : List LOp) (w : World) (h : EvAt w (.slice A l.length cA) l) (hl : l.length ≤ 9223372036854775807) (ho : LOps w B os) (hn : os.length ≤ 9223372036854775807) : Law Tryz.prog 6 #[.agg (jarr c first (.slice A l.length cA)), .slice B os.length cB, .int .i64 wh] w := by
  unfold Law
  have F0 : Fresh w (w.alloc (.cells (jarr c first (.slice A l.length cA)) 26)) := (Keep.refl _ w).alloc _
  have HE := Lib.hid (early_any c first A B cA cB l os _ (h.fresh F0) hl (ho.fresh F0) hn)
  have FF := Lib.hid F0
  unfold jarr at HE FF ⊢
  clear h ho F0 hl hn
  go_enter Tryz.func6, Tryz.ntmps6
  go_wp2_with fail
  refine HE.out.mono ?_
  rintro e w1 (⟨rfl, f1⟩ | ⟨y, A1, rfl, o1, ea, hm⟩)
  · have F1 : Hid (Fresh w w1) := Lib.hid (FF.out.step f1 (fun _ _ h => h))
    clear f1 HE FF
    go_wp2_with (go_at_call 13; (with_reducible refine (awake_any _).mono ?_); rintro e w3 ⟨rfl, f3⟩; have F3 : Hid (Fresh w w3) := Lib.hid (F1.out.step f3 (fun _ _ h => h)); clear f3)
    go_ret
    exact ⟨rfl, Fresh.below_ F3.out (Nat.le_refl _)⟩
  have O1 : Hid (OwnP c first A1 os.length w y w1) := Lib.hid ⟨o1.r, FF.out.step o1.f (fun _ _ h => h), fun k hk => Nat.le_trans FF.out.size (o1.x k hk)⟩
  have EA := Lib.hid ea
  have H60 : Hid (os.length ≤ 60) := Lib.hid hm
  obtain ⟨g1, hg1⟩ : ∃ g1, y.g = g1 := ⟨_, rfl⟩
  have HG1 := Lib.hid hg1
  rw [hg1]
  clear o1 ea hm hg1 HE FF
  have HEN := O1.out.ends HG1.out (by have := H60.out; omega)
  obtain ⟨p1, hp1, hr1⟩ := O1.out.r
  have EI := end_inv hr1.laws hr1.okf hr1.inv
  have EL := end_l (C := cfg c first) A1 hr1.inv.sl
  have EQ := end_qlen hr1.laws hr1.okf hr1.inv
  have EAL := hr1.al
  obtain ⟨⟨Z, MZ⟩, hZ⟩ : ∃ a, endA (cfg c first) A1 = a := ⟨_, rfl⟩
  rw [hZ] at HEN EI EL EQ
  simp only at EI EL EQ
  have HEN := Lib.hid HEN
  have HNX : Hid (nx Z.l Z.now = none) := Lib.hid EI.2.1
  have HUN : Hid (∀ x, (x, false) ∉ Z.q) := Lib.hid EI.2.2
  have HFZ : Hid (Z.freed = 0) := Lib.hid (EL.2.2.trans EA.out.1)
  have HQL : Hid (Z.q.length ≤ 82 ∧ Z.l.length ≤ 82) := Lib.hid (by have := H60.out; rw [EL.1]; omega)
  have SU := Lib.hid (sureL_end HUN.out)
  clear hp1 hr1 EI EL EQ EAL hZ p1
  go_upto_region 5 with (go_at_call 31; (with_reducible refine HEN.out.mono ?_); rintro e w3 ⟨va3, rfl, m3, y3, p3, s3, t3, r3⟩; have O3 : Hid (OwnP c first Z os.length w y3 w3) := Lib.hid (O1.out.turn t3 ⟨p3, s3, r3⟩); have L3 := Lib.hid t3; clear m3 s3 t3 r3)
  have G3 : Hid (y3.g = g1) := Lib.hid (L3.out.g.trans HG1.out)
  have HRA : Hid (Calls Tryz.prog 24 #[.pointer (some ⟨g1, 0, none⟩)] w3 (RecQ Z.q w3)) := Lib.hid (O3.out.recs G3.out (by have := HQL.out; omega))
  unfold RecQ at HRA
  rw [SU.out.1, SU.out.2] at HRA
  obtain ⟨E, hE⟩ : ∃ E, evs Z.q = E := ⟨_, rfl⟩
  rw [hE] at HRA
  have HEE := Lib.hid hE
  have HEL : Hid (E.length ≤ 82) := Lib.hid (by have := HQL.out; rw [← hE]; simp [evs]; omega)
  clear hE HEN O1 HG1 L3
  go_upto_region 6 with (go_at_call 24; (with_reducible refine HRA.out.mono ?_); rintro e w4 ⟨vr1, vr2, rfl, o4, o4b, f4, n4, n4b, d4⟩; have V4 := Lib.hid o4; have U4 := Lib.hid o4b; have F4 := Lib.hid f4; have N4 := Lib.hid n4; clear o4 o4b f4 n4 n4b d4)
  have O4 := Lib.hid (O3.out.fresh F4.out)
  have X4 : Hid (OffW vr1 y3) := Lib.hid (fun k hk hf => by have := N4.out k hk; have := O3.out.lt k hf; omega)
  have NV4 : Hid (∀ k, vr1.ownBlock = some k → w.heap.size ≤ k) := Lib.hid (fun k hk => Nat.le_trans O3.out.f.size (N4.out k hk))
  obtain ⟨A4, cap4, rfl, _, _⟩ := V4.out.shape
  obtain ⟨A5, cap5, rfl, _, _⟩ := U4.out.shape
  clear HRA O3 F4 N4 U4
  by_cases h0 : E.length = 0
  · have t0 : ((E.length : Int) == 0) = true := by rw [h0]; rfl
    go_wp2_with (go_at_call 13; (with_reducible refine (awake_any _).mono ?_); rintro e w9 ⟨rfl, f9⟩; have F9 : Hid (Fresh w4 w9) := Lib.hid f9; clear f9)
    go_ret
    exact ⟨rfl, Fresh.below_ (O4.out.f.step F9.out (fun _ _ h => h)) (Nat.le_refl _)⟩
  have t0 : ((E.length : Int) == 0) = false := by rw [beq_eq_false_iff_ne]; omega
  obtain ⟨j, hj, ej, bb1, bb2⟩ := ret_pick wh E.length (by omega)
  obtain ⟨x, hx⟩ : ∃ x, E[j]? = some x := ⟨_, List.getElem?_eq_getElem hj⟩
  have HX := Lib.hid (List.mem_of_getElem? hx)
  obtain ⟨A', c', hv, hAt⟩ := V4.out.evs
  injection hv with hv1 _ hv2
  subst hv1 hv2
  have HAT := Lib.hid hAt
  obtain ⟨bb, off, hA, ltb, hO⟩ := hAt j x hx
  have x0 := hO 0 _ rfl
  have x1 := hO 1 _ rfl
  have x2 := hO 2 _ rfl
  have x3 := hO 3 _ rfl
  have x4 := hO 4 _ rfl
  have x5 := hO 5 _ rfl
  have x6 := hO 6 _ rfl
  rw [Nat.add_zero] at x0
  subst hA
  have t3 : ¬ (E.length : Int) = 0 := by omega
  have t4 : ¬ E = [] := by
    intro h
    rw [h] at h0
    simp at h0
  have j0 : (0 : Int) ≤ (j : Int) := by omega
  have j1 : (j : Int) < (E.length : Int) := by omega
  obtain ⟨TM, hTM⟩ : ∃ TM, wh.tmod (E.length : Int) = TM := ⟨_, rfl⟩
  rw [hTM] at ej bb1 bb2
  have ws : IntKind.i64.wrap (TM + (E.length : Int)) = TM + (E.length : Int) := IntWalk.i64_in _ (by have := HEL.out; omega)
  clear hAt hO hx
  go_upto_region 12 with fail
  obtain ⟨w5, hw5⟩ : ∃ w5, w4.alloc (.cells #[.int .i64 x.a, .int .i64 x.s, .int .i64 x.t, .int .i64 x.n, .int .i64 x.d, .int .i64 x.k, .int .i64 x.x] 41) = w5 := ⟨_, rfl⟩
  have BX5 : Hid (Blk w5 w4.heap.size 41 #[.int .i64 x.a, .int .i64 x.s, .int .i64 x.t, .int .i64 x.n, .int .i64 x.d, .int .i64 x.k, .int .i64 x.x]) := Lib.hid (hw5 ▸ Blk.new w4 _ _)
  have F5 : Hid (Fresh w4 w5) := Lib.hid (hw5 ▸ (Keep.refl _ w4).alloc _)
  rw [hw5]
  obtain ⟨gx, hgx⟩ : ∃ gx, w4.heap.size = gx := ⟨_, rfl⟩
  rw [hgx] at BX5 ⊢
  have O5 := Lib.hid (O4.out.fresh F5.out)
  obtain ⟨⟨s0, s1, s2, s3⟩, hst⟩ : ∃ st, (Z.fold (cfg c first)).2.1 = st := ⟨_, rfl⟩
  have HZF := Lib.hid hst
  have HST := O5.out.state G3.out
  rw [hst] at HST
  unfold St.val at HST
  simp only at HST
  have HST := Lib.hid HST
  clear x0 x1 x2 x3 x4 x5 x6 ej bb1 bb2 ws hTM t0 t3 t4 j0 j1 hw5 hgx hst O4
  go_wp2_with (go_at_call 18; (with_reducible refine HST.out.mono ?_); rintro e w6 ⟨rfl, f6⟩; have F6 : Hid (Fresh w5 w6) := Lib.hid f6; clear f6)
  obtain ⟨w7, hw7⟩ : ∃ w7, w6.alloc (.cells #[.int .i64 s0, .int .i64 s1, .int .i64 s2, .int .i64 s3] 23) = w7 := ⟨_, rfl⟩
  have BS7 : Hid (Blk w7 w6.heap.size 23 #[.int .i64 s0, .int .i64 s1, .int .i64 s2, .int .i64 s3]) := Lib.hid (hw7 ▸ Blk.new w6 _ _)
  have F7 : Hid (Fresh w5 w7) := Lib.hid (hw7 ▸ F6.out.alloc _)
  rw [hw7]
  obtain ⟨gs, hgs⟩ : ∃ gs, w6.heap.size = gs := ⟨_, rfl⟩
  rw [hgs] at BS7 ⊢
  have O7 := Lib.hid (O5.out.fresh F7.out)
  have BX7 := Lib.hid (F7.out.blk_ BX5.out)
  have V7 := Lib.hid (V4.out.fresh (F5.out.step F7.out (fun _ _ h => h)))
  have HAT : Hid (∀ W, Fresh w7 W → ∀ (i : Nat) (z : Ev), E[i]? = some z → ∀ jj u, z.enc[jj]? = some u → W.cell? ⟨bb, off + i * 7 + jj, none⟩ = some u) := Lib.hid (fun W f i z hz jj u hu => by
    obtain ⟨A', c', hv, h⟩ := V7.out.evs
    injection hv with hv1 _ hv2
    subst hv1
    obtain ⟨b, o, hA, _, hh⟩ := h i z hz
    injection hA with hA
    injection hA with h1 h2
    subst h1 h2
    exact f.cell_ (hh jj u hu))
  clear hw7 hgs F6 HST BX5 O5 F5 V4
  go_loopg [15, 16] E.length (fun gk u15 u16 wr => ∃ i : Nat, i ≤ E.length ∧ gk = E.length - i ∧ u16 = .int .i64 i ∧ Fresh w7 wr ∧ OwnS wr 43 8 u15 (but (E.take i) x).length (rcells (news (but (E.take i) x))) ∧ ∀ k, u15.ownBlock = some k → w7.heap.size ≤ k)
  case atStart => exact ⟨0, by omega, rfl, rfl, Keep.refl _ _, by simpa [news, rcells, but] using OwnS.nil w7 43 8, fun k hk => by simp [Value.ownBlock] at hk⟩
  case round =>
    obtain ⟨i, hi, rfl, rfl, hf, hO, hN⟩ := hrel
    have FR := Lib.hid hf
    have OR := Lib.hid hO
    have NR := Lib.hid hN
    obtain ⟨A15, c15, rfl, hc15, hm15⟩ := hO.shape
    have hm15 : c15 ≤ 9223372036854775807 := by unfold maxLen at hm15; omega
    have hBL : (but (E.take i) x).length ≤ i := Nat.le_trans (List.length_filter_le _ _) (by rw [List.length_take]; omega)
    have HBL := Lib.hid hBL
    clear hf hO hN
    by_cases hlt : i < E.length
    · obtain ⟨z, hz⟩ : ∃ z, E[i]? = some z := ⟨_, List.getElem?_eq_getElem hlt⟩
      have HZ := Lib.hid hz
      have CX := fun (jj : Nat) (u : Value) (hu : z.enc[jj]? = some u) => HAT.out wr FR.out i z hz jj u hu
      have x0 := CX 0 _ rfl
      have x1 := CX 1 _ rfl
      have x2 := CX 2 _ rfl
      have x3 := CX 3 _ rfl
      have x4 := CX 4 _ rfl
      have x5 := CX 5 _ rfl
      have x6 := CX 6 _ rfl
      rw [Nat.add_zero] at x0
      have bx := (FR.out.blk_ BX7.out).cell
      have tq : decide ((i : Int) < (E.length : Int)) = true := decide_eq_true (by omega)
      have tq' : decide (i < E.length) = true := decide_eq_true hlt
      have q1 : (i : Int) < (E.length : Int) := by omega
      clear CX hz
      cases hq : evB z x
      · have HQ : Hid (z ≠ x) := Lib.hid (fun e => by rw [(evB_iff z x).2 e] at hq; cases hq)
        unfold evB at hq
        go_wp2_with fail
        go_quiet (fail)
        rename Nat => n3
        have FD : Hid (Fresh wr (wr.drewN n3)) := Lib.hid ((Keep.refl _ wr).drewN n3)
        obtain ⟨wd, hwd⟩ : ∃ wd, wr.drewN n3 = wd := ⟨_, rfl⟩
        rw [hwd] at FD ⊢
        have FW := Lib.hid (FR.out.step FD.out (fun _ _ h => h))
        have OD := Lib.hid (OR.out.fresh FD.out)
        have CX := fun (jj : Nat) (u : Value) (hu : z.enc[jj]? = some u) => HAT.out wd FW.out i z HZ.out jj u hu
        clear x0 x1 x2 x3 x4 x5 x6 bx hwd OR
        have x0 := CX 0 _ rfl
        have x1 := CX 1 _ rfl
        have x2 := CX 2 _ rfl
        have x3 := CX 3 _ rfl
        have x4 := CX 4 _ rfl
        have x5 := CX 5 _ rfl
        have x6 := CX 6 _ rfl
        rw [Nat.add_zero] at x0
        have HBS := Lib.hid (but_snoc (x := x) HZ.out)
        obtain ⟨BL, hBL⟩ : ∃ BL, but (E.take i) x = BL := ⟨_, rfl⟩
        rw [hBL] at OD HBL HBS NR ⊢
        have HC : Hid (Src (wd.alloc (.cells #[.int .i64 z.a, .int .i64 z.s, .int .i64 z.t, .int .i64 z.n, .int .i64 z.d, .int .i64 z.k, .int .i64 z.x, .bool false] 43)) 8 (.slice (some ⟨wd.heap.size, 0, none⟩) 1 1) 1 (rcells [(z, false)])) := Lib.hid (Src.one_new wd 43 8 #[.int .i64 z.a, .int .i64 z.s, .int .i64 z.t, .int .i64 z.n, .int .i64 z.d, .int .i64 z.k, .int .i64 z.x, .bool false] rfl)
        have OA := Lib.hid (OD.out.alloc (.cells #[.int .i64 z.a, .int .i64 z.s, .int .i64 z.t, .int .i64 z.n, .int .i64 z.d, .int .i64 z.k, .int .i64 z.x, .bool false] 43))
        have FA : Hid (Fresh wd (wd.alloc (.cells #[.int .i64 z.a, .int .i64 z.s, .int .i64 z.t, .int .i64 z.n, .int .i64 z.d, .int .i64 z.k, .int .i64 z.x, .bool false] 43))) := Lib.hid ((Keep.refl _ _).alloc _)
        have h08 : Hid (0 < 8) := Lib.hid (by omega)
        have hL1 := Lib.hid (show BL.length + 1 ≤ maxLen from one_le_maxLen (by have := HBL.out; have := HEL.out; omega))
        have hL2 := Lib.hid (show (BL.length + 1) * 64 ≤ 140737488355328 by have := HBL.out; have := HEL.out; omega)
        obtain ⟨i1, hi1, hy0, hy1, hy2⟩ := info_parts info_msg
        clear CX hBL hq OD
        go_wp2_with (at_builtin; refine wpList_append_OwnS _ rfl _ _ 35 rfl 43 i1 _ 8 64 Tryz.underlying35 hi1 hy0 hy1 hy2 rfl h08.out (.slice A15 BL.length c15) BL.length (rcells (news BL)) rfl OA.out (.slice (some ⟨wd.heap.size, 0, none⟩) 1 1) 1 (rcells [(z, false)]) rfl HC.out (rcells_one _) hL1.out hL2.out ?_; intro v8 w8 o8 k8 n8; have O8 := Lib.hid o8; have K8 := Lib.hid k8; have N8 := Lib.hid n8; clear o8 k8 n8)
        go_roundg (E.length - (i + 1))
        case measure => omega
        case rel =>
          refine ⟨i + 1, by omega, rfl, congrArg (Value.int .i64) ((IntWalk.wrap64_in _ (by have := HEL.out; omega)).trans (by omega)), (FW.out.step FA.out (fun _ _ h => h)).step K8.out (fun k hk h => by have := NR.out k h; omega), ?_, fun k hk => ?_⟩
          · rw [HBS.out, if_pos HQ.out, news_snoc, rcells_append, List.length_append, List.length_singleton]
            exact O8.out
          · rcases N8.out k hk with h | h
            · exact NR.out k h
            · have h1 := FW.out.size
              simp at h
              omega
      · have HQ : Hid (z = x) := Lib.hid ((evB_iff z x).1 hq)
        have HBS := Lib.hid (but_snoc (x := x) HZ.out)
        unfold evB at hq
        go_wp2_with fail
        go_quiet (fail)
        go_wp2_with fail
        go_roundg (E.length - (i + 1))
        case measure => omega
        case rel =>
          refine ⟨i + 1, by omega, rfl, congrArg (Value.int .i64) ((IntWalk.wrap64_in _ (by have := HEL.out; omega)).trans (by omega)), FR.out.drewN _, ?_, NR.out⟩
          rw [HBS.out, if_neg (fun h => h HQ.out), List.append_nil]
          exact OR.out.fresh ((Keep.refl _ _).drewN _)
    · obtain rfl : i = E.length := by omega
      have hall : E.take E.length = E := List.take_length
      rw [hall] at OR NR HBL ⊢
      have tq : decide ((E.length : Int) < (E.length : Int)) = false := decide_eq_false (by omega)
      obtain ⟨BL, hBL⟩ : ∃ BL, but E x = BL := ⟨_, rfl⟩
      have HBE := Lib.hid hBL
      rw [hBL] at OR NR HBL ⊢
      have O8 := Lib.hid (O7.out.fresh FR.out)
      have BX8 := Lib.hid (FR.out.blk_ BX7.out)
      have BS8 := Lib.hid (FR.out.blk_ BS7.out)
      have V8 := Lib.hid (V7.out.fresh FR.out)
      have XW8 : Hid (OffW (.slice (some ⟨bb, off, none⟩) E.length cap4) y3) := Lib.hid X4.out
      have NW8 : Hid (∀ k, (Value.slice A15 BL.length c15).ownBlock = some k → w.heap.size ≤ k) := Lib.hid (fun k hk => by have h1 := NR.out k hk; have h2 := O7.out.f.size; omega)
      have bx := BX8.out.cell
      obtain ⟨p8, hp8, hr8⟩ := O8.out.r
      have HXE : x ∈ evs Z.q := by rw [HEE.out]; exact HX.out
      have RE := ret_ends hr8.laws hr8.okf hr8.inv HFZ.out HNX.out HUN.out HXE
      have RL := ret_len hr8.laws hr8.okf hr8.inv HFZ.out HUN.out HXE
      have RG : ∀ e ∈ evs Z.q, Rg e := fun e he => rec_rg hr8.laws hr8.okf hr8.inv he
      have RP := rrem_perm hr8.inv.sq HXE
      have HRT := O8.out.ret G3.out (by have := H60.out; omega) x
      obtain ⟨⟨R1, MR, ER, er⟩, hRA⟩ : ∃ a, retA (cfg c first) Z x = a := ⟨_, rfl⟩
      rw [hRA] at HRT RE RL
      simp only at RE RL
      obtain ⟨re, ri, rf, rq, ru, rn⟩ := RE
      subst re
      obtain ⟨⟨Z2, ME⟩, hZ2⟩ : ∃ a, endA (cfg c first) R1 = a := ⟨_, rfl⟩
      rw [hZ2] at rf rq ru rn RL
      simp only at rf rq ru rn RL
      have HZ2 := Lib.hid hZ2
      have HRT : Hid (Calls Tryz.prog 32 #[.pointer (some ⟨g1, 0, none⟩), .agg #[.int .i64 x.a, .int .i64 x.s, .int .i64 x.t, .int .i64 x.n, .int .i64 x.d, .int .i64 x.k, .int .i64 x.x]] wr (LpP c first y3 ⟨R1, MR, ER, 0⟩ (os.length + 1) wr)) := Lib.hid HRT
      have HF2 : Hid ((Z2.fold (cfg c first)).2.1 = ⟨s0, s1, s2, s3⟩) := Lib.hid (by rw [rf]; exact HZF.out)
      have HQ2 : Hid (Z2.q = Z.q) := Lib.hid rq
      have HLN : Hid (MR.length ≤ 1000 ∧ ME.length ≤ 1000) := Lib.hid (by have := RL.1; have := HQL.out; omega)
      have HNET : Hid (∃ o2, lessF [] (news BL ++ MR ++ ME) = some o2 ∧ o2.Perm E) := Lib.hid (by
        rw [HEE.out] at RP
        obtain ⟨o2, h1, h2⟩ := rn (out := [] ++ BL) (by rw [List.nil_append, ← hBL]; exact RP)
        refine ⟨o2, ?_, by rw [← HEE.out]; exact h2⟩
        rw [List.append_assoc, lessF_append (news BL) _ (lessF_news BL [])]
        exact h1)
      have HRG : Hid (∀ m ∈ news BL ++ MR ++ ME, Rg m.1) := Lib.hid (fun m hm => by
        rcases List.mem_append.1 hm with hm | hm
        · rcases List.mem_append.1 hm with hm | hm
          · obtain ⟨e, he, rfl⟩ := List.mem_map.1 hm
            rw [← hBL] at he
            exact RG e (by rw [HEE.out]; exact (List.mem_filter.1 he).1)
          · exact RL.2.1 m hm
        · exact RL.2.2 m hm)
      clear hp8 hr8 RL RG RP hRA ri rf rq ru rn hZ2 p8 HXE BX7 BS7 V7 O7 hBL hall X4 HAT NV4
      go_upto_region 20 with (go_at_call 32; (with_reducible refine HRT.out.mono ?_); rintro e w9 ⟨va9, rfl, m9, y9, p9, s9, t9, r9⟩; have O9 : Hid (OwnP c first R1 (os.length + 1) w y9 w9) := Lib.hid (O8.out.turn t9 ⟨p9, s9, r9⟩); have L9 := Lib.hid t9; have M9 := Lib.hid m9.1; have P9 := Lib.hid m9.2; clear m9 s9 t9 r9 bx)
      have G9 : Hid (y9.g = g1) := Lib.hid (L9.out.g.trans G3.out)
      have U9 := Lib.hid (O8.out.own_turn L9.out OR.out (by decide))
      have BS9 := Lib.hid (O8.out.blk_turn L9.out BS8.out (by decide))
      have V9 := Lib.hid (V8.out.kept L9.out.keep XW8.out)
      have XW9 := Lib.hid (XW8.out.turn V8.out L9.out)
      have ZW9 := Lib.hid L9.out.keep.size
      have HE2 := O9.out.ends G9.out (by have := H60.out; omega)
      rw [HZ2.out] at HE2
      have HE2 := Lib.hid HE2
      clear HRT O8 L9 BS8 BX8 V8 XW8 HZ2
      go_upto_region 21 with (go_at_call 31; (with_reducible refine HE2.out.mono ?_); rintro e w10 ⟨vb10, rfl, m10, y10, p10, s10, t10, r10⟩; have O10 : Hid (OwnP c first Z2 (os.length + 1) w y10 w10) := Lib.hid (O9.out.turn t10 ⟨p10, s10, r10⟩); have L10 := Lib.hid t10; have M10 := Lib.hid m10.1; have P10 := Lib.hid m10.2; clear m10 s10 t10 r10)
      have G10 : Hid (y10.g = g1) := Lib.hid (L10.out.g.trans G9.out)
      have U10 := Lib.hid (O9.out.own_turn L10.out U9.out (by decide))
      have M9 := Lib.hid (O9.out.own_turn L10.out M9.out (by decide))
      have BS10 := Lib.hid (O9.out.blk_turn L10.out BS9.out (by decide))
      have V10 := Lib.hid (V9.out.kept L10.out.keep XW9.out)
      have XW10 := Lib.hid (XW9.out.turn V9.out L10.out)
      have DB : Hid (∀ k, vb10.ownBlock = some k → ¬ (Value.slice A15 BL.length c15).ownBlock = some k) := Lib.hid (fun k hk h => by have h1 := P10.out k hk; have h2 := U9.out.lt h; omega)
      obtain ⟨A9, c9, rfl, _, _⟩ := M9.out.shape
      obtain ⟨A10, c10, rfl, _, _⟩ := M10.out.shape
      obtain ⟨i1, hi1, hy0, hy1, hy2⟩ := info_parts info_msg
      have h08 : Hid (0 < 8) := Lib.hid (by omega)
      have hL1 := Lib.hid (show BL.length + MR.length ≤ maxLen by have := HBL.out; have := HEL.out; have := HLN.out; unfold maxLen; omega)
      have hL2 := Lib.hid (show (BL.length + MR.length) * 64 ≤ 140737488355328 by have := HBL.out; have := HEL.out; have := HLN.out; omega)
      have hL3 := Lib.hid (show BL.length + MR.length + ME.length ≤ maxLen by have := HBL.out; have := HEL.out; have := HLN.out; unfold maxLen; omega)
      have hL4 := Lib.hid (show (BL.length + MR.length + ME.length) * 64 ≤ 140737488355328 by have := HBL.out; have := HEL.out; have := HLN.out; omega)
      clear HE2 O9 L10 U9 BS9 V9 XW9 P9 P10 OR G9
      go_upto_region 22 with (at_builtin; refine wpList_append_OwnS _ rfl _ _ 35 rfl 43 i1 _ 8 64 Tryz.underlying35 hi1 hy0 hy1 hy2 rfl h08.out (.slice A15 BL.length c15) BL.length (rcells (news BL)) rfl U10.out (.slice A9 MR.length c9) MR.length (rcells MR) rfl M9.out.src (rcells_one _) hL1.out hL2.out ?_; intro v11 w11 o11 k11 n11; have U11 := Lib.hid o11; have K11 := Lib.hid k11; have N11 := Lib.hid n11; clear o11 k11 n11)
      have O11 := Lib.hid (O10.out.keepV K11.out (fun i hi => ⟨NW8.out i hi, O10.out.not_own U10.out (by decide) i hi⟩))
      have M11 := Lib.hid (M10.out.kept K11.out DB.out)
      have V11 := Lib.hid (V10.out.kept K11.out (fun k hk h => (U10.out.ne_own V10.out (by decide) k h) hk))
      have BS11 := Lib.hid (BS10.out.keep K11.out (fun h => (U10.out.ne_blk BS10.out (by decide)) h))
      have NW11 : Hid (∀ k, v11.ownBlock = some k → w.heap.size ≤ k) := Lib.hid (fun k hk => (N11.out k hk).elim (fun h => NW8.out k h) (fun h => by have := O10.out.f.size; omega))
      have DB11 : Hid (∀ k, (Value.slice A10 ME.length c10).ownBlock = some k → ¬ v11.ownBlock = some k) := Lib.hid (fun k hk h => (N11.out k h).elim (fun h1 => DB.out k hk h1) (fun h1 => by have := M10.out.lt hk; omega))
      obtain ⟨A11, c11, rfl, _, _⟩ := U11.out.shape
      clear O10 M9 M10 V10 BS10 U10 K11 N11 DB NW8
      go_upto_region 23 with (at_builtin; refine wpList_append_OwnS _ rfl _ _ 35 rfl 43 i1 _ 8 64 Tryz.underlying35 hi1 hy0 hy1 hy2 rfl h08.out (.slice A11 (BL.length + MR.length) c11) (BL.length + MR.length) (rcells (news BL) ++ rcells MR) rfl U11.out (.slice A10 ME.length c10) ME.length (rcells ME) rfl M11.out.src (rcells_one _) hL3.out hL4.out ?_; intro v12 w12 o12 k12 n12; have U12 := Lib.hid o12; have K12 := Lib.hid k12; clear o12 k12 n12)
      have O12 := Lib.hid (O11.out.keepV K12.out (fun i hi => ⟨NW11.out i hi, O11.out.not_own U11.out (by decide) i hi⟩))
      have V12 := Lib.hid (V11.out.kept K12.out (fun k hk h => (U11.out.ne_own V11.out (by decide) k h) hk))
      have BS12 := Lib.hid (BS11.out.keep K12.out (fun h => (U11.out.ne_blk BS11.out (by decide)) h))
      have MM : Hid (MsgAt w12 v12 (news BL ++ MR ++ ME)) := Lib.hid (by
        have h := U12.out
        rw [← rcells_append, ← rcells_append, show BL.length + MR.length + ME.length = (news BL ++ MR ++ ME).length by (simp [news]; omega)] at h
        exact h.msgs)
      have HRC : Hid (Calls Tryz.prog 24 #[.pointer (some ⟨g1, 0, none⟩)] w12 (RecQ Z2.q w12)) := Lib.hid (O12.out.recs G10.out (by rw [HQ2.out]; have := HQL.out; omega))
      unfold RecQ at HRC
      rw [HQ2.out, SU.out.1, SU.out.2, HEE.out] at HRC
      clear O11 M11 V11 BS11 U11 K12 U12 DB11 NW11 hL1 hL2 hL3 hL4 h08 hi1 hy0 hy1 hy2 XW10
      go_upto_region 24 with (go_at_call 24; (with_reducible refine HRC.out.mono ?_); rintro e w13 ⟨vr3, vr4, rfl, o13, o13b, f13, n13, n13b, d13⟩; have VN := Lib.hid o13.evs; have UN := Lib.hid o13b; have F13 : Hid (Fresh w12 w13) := Lib.hid f13; clear o13 o13b f13 n13 n13b d13)
      obtain ⟨A13, c13, rfl, _, _⟩ := UN.out.shape
      obtain ⟨o2, ho2, hp2⟩ := HNET.out
      have HP2 := Lib.hid hp2
      have HLS := Lib.hid (less_any v12 (news BL ++ MR ++ ME) o2 w13 (MM.out.fresh F13.out) (by have h1 := HBL.out; have h2 := HEL.out; have h3 := HLN.out; have h4 : (news BL).length = BL.length := (by simp [news]); rw [List.length_append, List.length_append]; omega) ho2 HRG.out)
      clear HRC UN ho2 hp2 HNET HRG
      go_upto_region 25 with (go_at_call 26; (with_reducible refine HLS.out.mono ?_); rintro e w14 ⟨vn, sn, rfl, q1, q2, q3, q4, q5⟩; have SN := Lib.hid q1; have PN := Lib.hid q2; have VL := Lib.hid q3.evs; have F14 : Hid (Fresh w13 w14) := Lib.hid q4; clear q1 q2 q3 q4 q5)
      have F24 : Hid (Fresh w12 w14) := Lib.hid (F13.out.step F14.out (fun _ _ h => h))
      have O14 := Lib.hid (O12.out.fresh F24.out)
      have VW : Hid (EvAt w14 (.slice (some ⟨bb, off, none⟩) E.length cap4) E) := Lib.hid (V12.out.fresh F24.out).evs
      have VN := Lib.hid (VN.out.fresh F14.out)
      have BS14 := Lib.hid (F24.out.blk_ BS12.out)
      have HSN : Hid (sn.length ≤ 82) := Lib.hid (by rw [(PN.out.trans HP2.out).length_eq]; exact HEL.out)
      have HT1 : Hid (∀ W, Fresh w14 W → Calls Tryz.prog 18 #[.pointer (some ⟨g1, 0, none⟩)] W fun e w' => e = .returned (.agg #[.int .i64 s0, .int .i64 s1, .int .i64 s2, .int .i64 s3]) ∧ Fresh w14 w') := Lib.hid fun W f => by
        have h := (O14.out.fresh f).state G10.out
        rw [HF2.out] at h
        exact h.mono fun e w' hh => ⟨hh.1, f.step hh.2 (fun _ _ h => h)⟩
      have HEV : Hid (∀ W, Fresh w14 W → Calls Tryz.prog 17 #[vr3, .slice (some ⟨bb, off, none⟩) E.length cap4] W fun e w' => e = .returned (.bool true) ∧ Fresh w14 w') := Lib.hid fun W f => by
        refine (events_any vr3 _ E E W (VN.out.fresh f) (VW.out.fresh f) (by have := HEL.out; omega) (by have := HEL.out; omega)).mono fun e w' hh => ⟨?_, f.step hh.2 (fun _ _ h => h)⟩
        rw [hh.1, decide_eq_true rfl]
      have HSO : Hid (∀ W, Fresh w14 W → Calls Tryz.prog 27 #[.slice (some ⟨bb, off, none⟩) E.length cap4] W fun e w' => ∃ vs, e = .returned vs ∧ (∀ W2, Fresh w' W2 → EvAt W2 vs sn) ∧ Fresh w14 w') := Lib.hid fun W f => by
        refine (sort_any _ E W (VW.out.fresh f) (by have := HEL.out; omega)).mono ?_
        rintro e w' ⟨vs, s', rfl, q1, q2, q3, q4, _⟩
        have he : s' = sn := srt_ext q1 SN.out (fun z => by rw [cnt_count, cnt_count]; exact (q2.trans (PN.out.trans HP2.out).symm).count_eq z)
        subst he
        exact ⟨vs, rfl, fun W2 f2 => (q3.fresh f2).evs, f.step q4 (fun _ _ h => h)⟩
      have HEV2 : Hid (∀ (vs : Value) W, EvAt W vs sn → Fresh w14 W → Calls Tryz.prog 17 #[vn, vs] W fun e w' => e = .returned (.bool true) ∧ Fresh w14 w') := Lib.hid fun vs W hvs f => by
        refine (events_any vn vs sn sn W (VL.out.fresh f) hvs (by have := HSN.out; omega) (by have := HSN.out; omega)).mono fun e w' hh => ⟨?_, f.step hh.2 (fun _ _ h => h)⟩
        rw [hh.1, decide_eq_true rfl]
      have HAW : Hid (∀ W, Fresh w14 W → Calls Tryz.prog 13 #[] W fun e w' => e = .returned (.bool true) ∧ Fresh w14 w') := Lib.hid fun W f => (awake_any W).mono fun e w' hh => ⟨hh.1, f.step hh.2 (fun _ _ h => h)⟩
      have yc := fun (W : World) (f : Fresh w14 W) (i : Nat) => (f.blk_ BS14.out).cell i
      clear HLS V12 BS12 MM F13 F14 F24 VN VW VL O12 SN PN HP2 HSN
      go_wp2_with fail
      go_region_held3 (fun W' => Fresh w14 W') (exact (fun (f : Fresh w14 _) => f) (by (repeat (first | (with_reducible exact Keep.refl _ _) | (with_reducible assumption) | (with_reducible refine Keep.drew ?_) | (with_reducible refine Keep.drewN ?_ _) | (with_reducible refine Keep.alloc ?_ _) | (with_reducible refine Keep.setCell ?_ ?_ _) | (with_reducible refine fun _ => rfl))))) ((first
        | (go_at_call 18; (with_reducible refine (HT1.out _ ?_).mono ?_); assumption; rintro e z ⟨rfl, gz⟩)
        | (go_at_call 17; (with_reducible refine (HEV.out _ ?_).mono ?_); assumption; rintro e z ⟨rfl, gz⟩)
        | (go_at_call 27; (with_reducible refine (HSO.out _ ?_).mono ?_); assumption; rintro e z ⟨vs, rfl, qs, gz⟩; have QS := Lib.hid qs; clear qs)
        | (go_at_call 17; (with_reducible refine (HEV2.out _ _ ?_ ?_).mono ?_); exact QS.out _ (Keep.refl _ _); assumption; rintro e z ⟨rfl, gz⟩)
        | (go_at_call 13; (with_reducible refine (HAW.out _ ?_).mono ?_); assumption; rintro e z ⟨rfl, gz⟩)))
      go_wp2_with fail
      go_ret
      exact ⟨rfl, Fresh.below_ (O14.out.f.step (by assumption : Fresh w14 _) (fun _ _ h => h)) (Nat.le_refl _)⟩
open Go.ChangeShapes Go.WideShapes Go.ChangeAt
set_option maxRecDepth 100000 in
theorem lpReturns_lifted (os : Os) (started : os.Started) (H : Type) (enc : TypeId × Value → H) :
    ReturnsInHanded {} Tryz.checked os 6 .any (Rows.lpReturnsSpec.pre6 enc Tryz.prog Tryz.f6 Rows.lpReturnsRow.domain false) (Rows.lpReturnsSpec.post enc Tryz.prog Tryz.f6 false true false false) := by
  refine law_lifted (C := Tryz.checked) (tb := 4) (by kernel_rfl) (by kernel_rfl) started (by kernel_rfl) Tryz.func6 rfl ?_ rfl Tryz.underlying4 (by kernel_rfl)
    (ChangeSpec.witness6 (enc := enc) (C := Tryz.checked) false ⟨#[], #[.agg #[.int .i64 0, .int .i64 0, .int .i64 0, .int .i64 0, .int .i64 0, .int .i64 0, .int .i64 0, .bool false, .slice none 0 0], .slice none 0 0, .int .i64 0], []⟩ 12 (by kernel_rfl) (by kernel_rfl) (by kernel_rfl) (by kernel_rfl)) ?_
  · intro ds hds
    match ds, hds with
    | [e0, e1, e2], _ => rfl
  · intro W base args ds p hval hA hreach
    rw [Tryz.params6] at hA hval hreach
    obtain ⟨v0, vs0, d0, ds0, p0, q0, hargs, rfl, rfl, h0, r0⟩ := trodAll_cons hA
    obtain ⟨v1, vs1, d1, ds1, p1, q1, rfl, rfl, rfl, h1, r1⟩ := trodAll_cons r0
    obtain ⟨v2, vs2, d2, ds2, p2, q2, rfl, rfl, rfl, h2, r2⟩ := trodAll_cons r1
    obtain ⟨rfl, rfl, rfl⟩ := trodAll_nil r2
    obtain rfl : args = #[v0, v1, v2] := by cases args; simp_all
    obtain ⟨l0, rfl, hl0⟩ := arg_struct (n := 6) Tryz.underlying26 (by kernel_rfl) (hval 0 26 v0 rfl rfl) h0
    have hfl : flat Tryz.prog 6 26 = [3, 3, 3, 3, 3, 3, 3, 4, 24] := by kernel_rfl
    rw [hfl] at hl0; clear hfl
    obtain ⟨md, l1, e1, w_md, hl1⟩ := all2_int Tryz.underlying3 hl0
    obtain ⟨id, l2, e2, w_id, hl2⟩ := all2_int Tryz.underlying3 hl1
    obtain ⟨f0, l3, e3, w_f0, hl3⟩ := all2_int Tryz.underlying3 hl2
    obtain ⟨f1, l4, e4, w_f1, hl4⟩ := all2_int Tryz.underlying3 hl3
    obtain ⟨f2, l5, e5, w_f2, hl5⟩ := all2_int Tryz.underlying3 hl4
    obtain ⟨f3, l6, e6, w_f3, hl6⟩ := all2_int Tryz.underlying3 hl5
    obtain ⟨ev, l7, e7, w_ev, hl7⟩ := all2_int Tryz.underlying3 hl6
    obtain ⟨lz, l8, e8, hl8⟩ := all2_bool Tryz.underlying4 hl7
    obtain ⟨u_L, l9, e9, h_L, hl9⟩ := all2_cons hl8
    obtain rfl := all2_nil hl9
    subst e9 e8 e7 e6 e5 e4 e3 e2 e1
    clear hl9 hl8 hl7 hl6 hl5 hl4 hl3 hl2 hl1 hl0
    obtain ⟨A_o, n_o, c_o, rows_o, rfl, len_o, cap_o, max_o, leaf_o, at_o⟩ := arg_slice (n := 6) Tryz.underlying27 (by kernel_rfl) (by kernel_rfl) (by rw [show Tryz.prog.cellsOf 45 = 10 by kernel_rfl]; decide) (hval 1 27 v1 rfl rfl) h1
    rw [show flat Tryz.prog 6 45 = [3, 3, 3, 3, 3, 3, 3, 3, 3, 4] by kernel_rfl] at leaf_o
    rw [show Tryz.prog.cellsOf 45 = 10 by kernel_rfl] at at_o
    obtain ⟨wh, rfl, w_wh⟩ := arg_int Tryz.underlying3 (hval 2 3 v2 rfl rfl) h2
    obtain ⟨A, n, cp, rows, rfl, hlen, hcap, hmax, hleaf, hat⟩ := leaf_slice (n := 6) Tryz.underlying24 (by kernel_rfl) (by kernel_rfl) (by rw [show Tryz.prog.cellsOf 41 = 7 by kernel_rfl]; decide) h_L
    rw [show flat Tryz.prog 6 41 = [3, 3, 3, 3, 3, 3, 3] by kernel_rfl] at hleaf
    rw [show Tryz.prog.cellsOf 41 = 7 by kernel_rfl] at hat
    obtain ⟨es, hes, hev⟩ := evs_arg hleaf hat
    have hn : es.length = n := hes.trans hlen
    subst hn
    obtain ⟨os, hos, ho⟩ := lops_arg leaf_o at_o
    have hm : os.length = n_o := hos.trans len_o
    subst hm
    exact lpreturns_any ⟨md, id, ev, lz⟩ ⟨f0, f1, f2, f3⟩ wh A A_o cp c_o es os W ⟨A, cp, rfl, hev⟩ (by unfold maxLen at hmax; omega) ho (by unfold maxLen at max_o; omega)

theorem lpReturns_holds : Rows.LpReturnsSaid :=
  OpenClaim.holds_of_wide 6 Tryz.f6 rfl rfl rfl rfl rfl rfl rfl ⟨rfl, rfl, rfl, rfl, rfl⟩ rfl rfl rfl rfl rfl (by kernel_rfl) Tryz.func6 (by kernel_rfl)
    (of_decide_eq_true (by kernel_rfl)) (by unfold Func.isWrapper; first | (rw [if_pos (by decide +kernel)]; kernel_rfl) | (rw [if_neg (by decide +kernel)]; exact ⟨rfl, rfl⟩))
    (fun os started H enc _ => lpReturns_lifted os started H enc)
end Go.Proofs.YthbcdkeammhakaaGreat
