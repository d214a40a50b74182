/-
  The law's does: all but Take.
-/
import Derived.Test.YtdobhicjhgdhnaaDoesP
namespace Go.Proofs.Ytdobhicjhgdhnaa
open Go.RowKit
attribute [local go_sem ↓] Go.wp_at_zero Go.wp_at_succ
attribute [local go_sem ↓] run_eql_handle

set_option maxHeartbeats 4000000 in
set_option maxRecDepth 100000 in
theorem does_other (w : World) (Fp : Nat → Prop) (gp g : Nat) (vs vf : Value) (s : St) (gr : Nat) (vl vr lv : Value) (lh : List (Int × Int)) (N k : Nat) (a c v t h y : Int) (u : Bool) (W : World) (hP : PD w Fp gp g vs vf s gr vl vr s.l s.fr s.res lv lh W) (hs : PS N k s.res s) (hN : N ≤ 4096) (hk : k ≤ 1000) (hr : 0 ≤ s.res ∧ s.res ≤ 4096) (hlh : lh.length ≤ k) (ha0 : Hid (a ≠ 0)) :
    Calls Try.prog 20 #[.pointer (some ⟨gp, 0, none⟩), .agg #[.int .i64 a, .int .i64 c, .bool u, .int .i64 v, .int .i64 t, .int .i64 h, .int .i64 y]] W (DoesP w Fp N k gp g vs gr vl s.res) := by
  have hl : s.l.length ≤ 100000 := (hs.small hN hk hr).l
  obtain ⟨X, hX⟩ : ∃ X, ((W.alloc (.cells #[.int .i64 a, .int .i64 c, .bool u, .int .i64 v, .int .i64 t, .int .i64 h, .int .i64 y] 34)).alloc (.cells #[.int .i64 h, .int .i64 y] 32)) = X := ⟨_, rfl⟩
  have fX : Fresh W X := hX ▸ (((Keep.refl _ W).alloc _).alloc _)
  have PX := Lib.hid (hP.fresh fX)
  have BO : Hid (Blk X W.heap.size 34 #[.int .i64 a, .int .i64 c, .bool u, .int .i64 v, .int .i64 t, .int .i64 h, .int .i64 y]) := Lib.hid (hX ▸ ((Blk.new W _ _).alloc _))
  have BH : Hid (Blk X (W.heap.size + 1) 32 #[.int .i64 h, .int .i64 y]) := Lib.hid (hX ▸ Blk.at_new (by simp) _ _)
  have HS := Lib.hid hs
  obtain ⟨Al, cl, rfl, hcl, hml⟩ := hP.lo.shape
  have hml : cl ≤ 9223372036854775807 := by unfold maxLen at hml; omega
  have c1 := BO.out.cell
  have l1 := BO.out.lt
  have c2 := BH.out.cell
  have l2 := BH.out.lt
  have c3 := PX.out.b.cell
  have l3 := PX.out.b.lt
  have z2 := BH.out.frozen
  have HLW : Hid (∀ k, (Value.slice Al lh.length cl).ownBlock = some k → k < W.heap.size) := Lib.hid (fun k hk => hP.lo.lt hk)
  have hwW := hP.f.size
  clear hP fX
  go_enter Try.func20, Try.ntmps20
  go_upto_region 2 with (fail)
  obtain ⟨I, hI⟩ : ∃ I, decide (0 ≤ t ∧ t < (lh.length : Int)) = I := ⟨_, rfl⟩
  go_cut [33] (fun s33 wx => s33 = .bool I ∧ Fresh X wx)
  case first =>
    as_aux_lemma =>
      by_cases h0 : 0 ≤ t
      · have t1 : decide (0 ≤ t) = true := decide_eq_true h0
        by_cases h1 : t < (lh.length : Int)
        · have t2 : decide (t < (lh.length : Int)) = true := decide_eq_true h1
          have t3 : decide (0 ≤ t ∧ t < (lh.length : Int)) = true := decide_eq_true ⟨h0, h1⟩
          have T3 := Lib.hid (t3.symm.trans hI)
          clear h0 h1 t3 hI
          go_quiet (fail)
          go_wp2_with fail
          go_meet
          exact ⟨congrArg Value.bool T3.out, (Keep.refl _ X).drewN _⟩
        · have t2 : decide (t < (lh.length : Int)) = false := decide_eq_false h1
          have t3 : decide (0 ≤ t ∧ t < (lh.length : Int)) = false := decide_eq_false (fun h => h1 h.2)
          have T3 := Lib.hid (t3.symm.trans hI)
          clear h0 h1 t3 hI
          go_quiet (fail)
          go_wp2_with fail
          go_meet
          exact ⟨congrArg Value.bool T3.out, (Keep.refl _ X).drewN _⟩
      · have t1 : decide (0 ≤ t) = false := decide_eq_false h0
        have t3 : decide (0 ≤ t ∧ t < (lh.length : Int)) = false := decide_eq_false (fun h => h0 h.1)
        have T3 := Lib.hid (t3.symm.trans hI)
        clear h0 t3 hI
        go_quiet (fail)
        go_wp2_with fail
        go_meet
        exact ⟨congrArg Value.bool T3.out, (Keep.refl _ X).drewN _⟩
  case rest =>
    obtain ⟨rfl, fc⟩ := hcut
    have P2 := Lib.hid (PX.out.fresh fc)
    have BO2 := Lib.hid (fc.blk_ BO.out)
    have BH2 := Lib.hid (fc.blk_ BH.out)
    clear c1 l1 c2 l2 c3 l3 z2 fc BO BH PX
    have c1 := BO2.out.cell
    have l1 := BO2.out.lt
    have c2 := BH2.out.cell
    have l2 := BH2.out.lt
    have z2 := BH2.out.frozen
    have c3 := P2.out.b.cell
    have l3 := P2.out.b.lt
    go_upto_if 33 with (fail)
    go_cut [] (fun wx => ∃ h' y', PD w Fp gp g vs vf s gr vl vr s.l s.fr s.res (.slice Al lh.length cl) lh wx ∧ Blk wx W.heap.size 34 #[.int .i64 a, .int .i64 c, .bool u, .int .i64 v, .int .i64 t, .int .i64 h, .int .i64 y] ∧ Blk wx (W.heap.size + 1) 32 #[.int .i64 h', .int .i64 y'])
    case first =>
      as_aux_lemma =>
        cases I
        · go_wp2_with fail
          go_meet
          exact ⟨_, _, P2.out, BO2.out, BH2.out⟩
        · have hin := of_decide_eq_true hI
          obtain ⟨j, rfl⟩ : ∃ j : Nat, t = (j : Int) := ⟨t.toNat, by omega⟩
          have hj : j < lh.length := by omega
          obtain ⟨p, hp⟩ : ∃ p, lh[j]? = some p := ⟨_, List.getElem?_eq_getElem hj⟩
          obtain ⟨gl, offl, _, hvl, lgl, _, _, hcc⟩ := P2.out.lo.form (by omega)
          injection hvl with e1 e2 e3
          subst e1 e3
          have q0 := hcc _ _ (hcells_at lh j p hp).1
          have q1 := hcc _ _ (hcells_at lh j p hp).2
          rw [← Nat.add_assoc] at q1
          have j0 : (0 : Int) ≤ (j : Int) := by omega
          have j1 : (j : Int) < (lh.length : Int) := by omega
          clear hin hI hp hcc e2
          have KK : Keep (fun q => q = W.heap.size + 1) wc (((wc.setCell ⟨W.heap.size + 1, 0, none⟩ (.int .i64 p.1)).setCell ⟨W.heap.size + 1, 1, none⟩ (.int .i64 p.2)).drew) := Keep.drew (Keep.setCell (S := fun q => q = W.heap.size + 1) (p := ⟨W.heap.size + 1, 1, none⟩) (Keep.setCell (S := fun q => q = W.heap.size + 1) (p := ⟨W.heap.size + 1, 0, none⟩) (Keep.refl _ wc) (fun _ => rfl) _) (fun _ => rfl) _)
          have HKK := Lib.hid KK
          have BN : Hid (Blk (((wc.setCell ⟨W.heap.size + 1, 0, none⟩ (.int .i64 p.1)).setCell ⟨W.heap.size + 1, 1, none⟩ (.int .i64 p.2)).drew) (W.heap.size + 1) 32 #[.int .i64 p.1, .int .i64 p.2]) := Lib.hid (by
            have := (BH2.out.set_ 0 (.int .i64 p.1)).set_ 1 (.int .i64 p.2)
            simpa using this.drew)
          clear KK
          go_wp2_with fail
          go_region
          go_wp2_with fail
          go_meet
          exact ⟨_, _, P2.out.put BH2.out (by omega) (fun he => by have := HLW.out _ he; omega) HKK.out, BO2.out.keep HKK.out (by omega), BN.out⟩
    case rest =>
      obtain ⟨h', y', hP3, hBO3, hBH3⟩ := hcut
      have P3 := Lib.hid hP3
      have BO3 := Lib.hid hBO3
      have BH3 := Lib.hid hBH3
      clear c1 l1 c2 l2 z2 c3 l3 hP3 hBO3 hBH3 P2 BO2 BH2
      have d1 := fun (W' : World) (f : Fresh wc W') (i : Nat) => (f.blk_ BO3.out).cell i
      have d2 := fun (W' : World) (f : Fresh wc W') (i : Nat) => (f.blk_ BH3.out).cell i
      have d3 := fun (W' : World) (f : Fresh wc W') (i : Nat) => (f.blk_ P3.out.b).cell i
      have HTL := Lib.hid (fun (W' : World) (f : Fresh wc W') => rtells_any gr vl vr s.l s.fr s.res h' y' W' (P3.out.r.fresh f) hl)
      go_wp2_with fail
      go_region_held3 (fun W' => Fresh wc W') (exact (fun (f : Fresh wc _) => f) (by (repeat (first | (with_reducible exact Keep.refl _ _) | (with_reducible assumption) | (with_reducible refine Keep.drew ?_) | (with_reducible refine Keep.drewN ?_ _) | (with_reducible refine Keep.alloc ?_ _) | (with_reducible refine Keep.setCell ?_ ?_ _) | (with_reducible refine fun _ => rfl))))) ((go_at_call 25; (with_reducible refine (HTL.out _ (by assumption)).mono ?_); rintro en1 w1 ⟨rfl, f1⟩; have f2 := Keep.step (S := fun _ => False) (by assumption : Fresh wc _) f1 (fun _ _ h => h)))
      obtain ⟨T, hT⟩ : ∃ T, tellsB s.l h' y' = T := ⟨_, rfl⟩
      rw [hT]
      have HT := Lib.hid hT
      have f2 : Fresh wc w1 := f2
      have P4 := Lib.hid (P3.out.fresh f2)
      have BO4 := Lib.hid (f2.blk_ BO3.out)
      have BH4 := Lib.hid (f2.blk_ BH3.out)
      clear d1 d2 d3 HTL hT P3 BO3 BH3 hI
      have c1 := BO4.out.cell
      have l1 := BO4.out.lt
      have c3 := P4.out.b.cell
      have l3 := P4.out.b.lt
      have z3 := P4.out.b.frozen
      obtain ⟨i0, hi, hz0, hz1, hz2⟩ := info_parts info_handle
      have h02 : Hid (0 < 2) := Lib.hid (by omega)
      have g1 : lh.length + 1 ≤ maxLen := one_le_maxLen (by omega)
      have g2 : (lh.length + 1) * 16 ≤ 140737488355328 := by omega
      have ha := ha0.out
      have ta : (a == 0) = false := by simp [ha]
      have S1 : Hid (Src (w1.alloc (.cells #[.int .i64 (-1), .int .i64 0] 32)) 2 (.slice (some ⟨w1.heap.size, 0, none⟩) 1 1) 1 (hcells [(-1, 0)])) := Lib.hid (Src.one_new w1 32 2 #[.int .i64 (-1), .int .i64 0] rfl)
      have LO := Lib.hid (P4.out.lo.alloc (.cells #[.int .i64 (-1), .int .i64 0] 32))
      have PA := Lib.hid (P4.out.fresh ((Keep.refl _ w1).alloc (.cells #[.int .i64 (-1), .int .i64 0] 32)))
      clear ha
      go_upto_if 132 with (at_builtin; refine wpList_append_OwnS _ rfl _ _ 30 rfl 32 i0 (.agg #[.int .i64 0, .int .i64 0]) 2 16 Try.underlying30 hi hz0 hz1 hz2 rfl h02.out (.slice Al lh.length cl) lh.length (hcells lh) rfl LO.out (.slice (some ⟨w1.heap.size, 0, none⟩) 1 1) 1 (hcells [(-1, 0)]) rfl S1.out (hcells_one _) g1 g2 ?_; intro v5 w5 o5 k5 n5; rw [← hcells_append] at o5; have b5 := PA.out.b.keep k5 (PA.out.lo.ne_blk PA.out.b (by decide)); have cb5 := b5.cell; have zb5 := b5.frozen; have lb5 := b5.lt; have O5 := Lib.hid o5; have K5 := Lib.hid k5; have N5 := Lib.hid n5; obtain ⟨A5, c5, rfl, _, _⟩ := o5.shape; clear o5 k5 n5 b5)
      have FA : Hid (Fresh w1 (w1.alloc (.cells #[.int .i64 (-1), .int .i64 0] 32))) := Lib.hid ((Keep.refl _ w1).alloc _)
      have O5' : Hid (OwnS w5 32 2 (.slice A5 (lh.length + 1) c5) (lh ++ [((-1 : Int), (0 : Int))]).length (hcells (lh ++ [((-1 : Int), (0 : Int))]))) := Lib.hid (by simpa using O5.out)
      have P6 := Lib.hid (PA.out.app O5'.out K5.out N5.out)
      have BX : Hid (Blk ((w5.setCell ⟨gp, 2, none⟩ (.slice A5 (lh.length + 1) c5)).alloc (.cells #[.int .i64 0, .int .i64 0, .int .i64 0] 60)) w5.heap.size 60 #[.int .i64 0, .int .i64 0, .int .i64 0]) := Lib.hid (by simpa using Blk.new (w5.setCell ⟨gp, 2, none⟩ (.slice A5 (lh.length + 1) c5)) 60 #[.int .i64 0, .int .i64 0, .int .i64 0])
      have FX : Hid (Fresh (w5.setCell ⟨gp, 2, none⟩ (.slice A5 (lh.length + 1) c5)) ((w5.setCell ⟨gp, 2, none⟩ (.slice A5 (lh.length + 1) c5)).alloc (.cells #[.int .i64 0, .int .i64 0, .int .i64 0] 60))) := Lib.hid ((Keep.refl _ _).alloc _)
      have P7 := Lib.hid (P6.out.fresh FX.out)
      have BO6 : Hid (Blk w5 W.heap.size 34 #[.int .i64 a, .int .i64 c, .bool u, .int .i64 v, .int .i64 t, .int .i64 h, .int .i64 y]) := Lib.hid ((FA.out.blk_ BO4.out).keep K5.out (fun he => by have := HLW.out _ he; omega))
      have BH6 : Hid (Blk w5 (W.heap.size + 1) 32 #[.int .i64 h', .int .i64 y']) := Lib.hid ((FA.out.blk_ BH4.out).keep K5.out (fun he => by have := HLW.out _ he; omega))
      have HGP : Hid (gp ≠ W.heap.size ∧ gp ≠ W.heap.size + 1) := Lib.hid ⟨fun he => by
        have := P4.out.b
        rw [he] at this
        exact absurd (Blk.ty this BO4.out) (by decide), fun he => by
        have := P4.out.b
        rw [he] at this
        exact absurd (Blk.ty this BH4.out) (by decide)⟩
      have BO7 : Hid (Blk ((w5.setCell ⟨gp, 2, none⟩ (.slice A5 (lh.length + 1) c5)).alloc (.cells #[.int .i64 0, .int .i64 0, .int .i64 0] 60)) W.heap.size 34 #[.int .i64 a, .int .i64 c, .bool u, .int .i64 v, .int .i64 t, .int .i64 h, .int .i64 y]) := Lib.hid (FX.out.blk_ (BO6.out.far (p := ⟨gp, 2, none⟩) (fun he => HGP.out.1 he.symm) _))
      have BH7 : Hid (Blk ((w5.setCell ⟨gp, 2, none⟩ (.slice A5 (lh.length + 1) c5)).alloc (.cells #[.int .i64 0, .int .i64 0, .int .i64 0] 60)) (W.heap.size + 1) 32 #[.int .i64 h', .int .i64 y']) := Lib.hid (FX.out.blk_ (BH6.out.far (p := ⟨gp, 2, none⟩) (fun he => HGP.out.2 he.symm) _))
      have FR : Hid (∀ k, foot gr vl vr k → k < w5.heap.size) := Lib.hid (fun k hk => Nat.lt_of_lt_of_le (PA.out.r.lt k hk) K5.out.size)
      clear LO S1 PA P4 BO4 BH4 c1 l1 c3 l3 z3 FA O5 cb5 zb5 lb5
      have TT := Lib.hid (tells_of HT.out (fun x hx => by
        by_cases h0 : x.c = 0
        · omega
        · have := HS.out.cl x hx h0; omega))
      go_cut [11] (fun s11 wx => ∃ q : Sl, s11 = .int .i64 (bif T then 0 else 12) ∧ PD w Fp gp g vs vf s gr vl vr s.l s.fr s.res (.slice A5 (lh.length + 1) c5) (lh ++ [((-1 : Int), (0 : Int))]) wx ∧ Blk wx W.heap.size 34 #[.int .i64 a, .int .i64 c, .bool u, .int .i64 v, .int .i64 t, .int .i64 h, .int .i64 y] ∧ Blk wx (W.heap.size + 1) 32 #[.int .i64 h', .int .i64 y'] ∧ Blk wx w5.heap.size 60 #[.int .i64 q.c, .int .i64 q.t, .int .i64 q.v] ∧ if T then ∃ j, s.tells h' y' j q else q = ⟨0, 0, 0⟩ ∧ ∀ i x, ¬ s.tells h' y' i x)
      case first =>
        as_aux_lemma =>
          cases T
          · have TT := TT.out
            simp only [Bool.false_eq_true, if_false] at TT
            have TT := Lib.hid TT
            clear hi hz0 hz1 hz2
            go_wp2_with fail
            go_meet
            exact ⟨⟨0, 0, 0⟩, rfl, P7.out, BO7.out, BH7.out, BX.out, rfl, TT.out⟩
          · have TT := TT.out
            simp only [if_true] at TT
            obtain ⟨j, q, rfl, hq, hq2, hq3⟩ := TT
            have hjl := (List.getElem?_eq_some_iff.1 hq).1
            obtain ⟨gl, offl, capl, rfl, lgl, _, hcl', hcc⟩ := P7.out.r.ol.form (by omega)
            obtain ⟨qc, qt, qv⟩ := q
            have q0 := hcc _ _ (slots_at _ _ _ hq).1
            have q1 := hcc _ _ (slots_at _ _ _ hq).2.1
            have q2 := hcc _ _ (slots_at _ _ _ hq).2.2
            simp only [← Nat.add_assoc] at q0 q1 q2
            have j0 : (0 : Int) ≤ (j : Int) := by omega
            have j1 : (j : Int) < (s.l.length : Int) := by omega
            have c3 := P7.out.b.cell
            have c2 := BH7.out.cell
            have cr := P7.out.r.blk.cell
            have zx := BX.out.frozen
            have lx := BX.out.lt
            clear hi hz0 hz1 hz2 hcc
            have F8 : Hid (Fresh (w5.setCell ⟨gp, 2, none⟩ (.slice A5 (lh.length + 1) c5)) ((w5.setCell ⟨gp, 2, none⟩ (.slice A5 (lh.length + 1) c5)).alloc (.cells #[.int .i64 qc, .int .i64 qt, .int .i64 qv] 60)).drew) := Lib.hid (Keep.drew ((Keep.refl _ _).alloc _))
            have BX8 : Hid (Blk ((w5.setCell ⟨gp, 2, none⟩ (.slice A5 (lh.length + 1) c5)).alloc (.cells #[.int .i64 qc, .int .i64 qt, .int .i64 qv] 60)).drew w5.heap.size 60 #[.int .i64 qc, .int .i64 qt, .int .i64 qv]) := Lib.hid (by simpa using (Blk.new (w5.setCell ⟨gp, 2, none⟩ (.slice A5 (lh.length + 1) c5)) 60 #[.int .i64 qc, .int .i64 qt, .int .i64 qv]).drew)
            have HJ := Lib.hid (show ∃ i, s.tells (j : Int) y' i ⟨qc, qt, qv⟩ from ⟨j, rfl, hq, hq2, hq3⟩)
            have BO8 := Lib.hid (F8.out.blk_ (BO6.out.far (p := ⟨gp, 2, none⟩) (fun he => HGP.out.1 he.symm) (.slice A5 (lh.length + 1) c5)))
            have BH8 := Lib.hid (F8.out.blk_ (BH6.out.far (p := ⟨gp, 2, none⟩) (fun he => HGP.out.2 he.symm) (.slice A5 (lh.length + 1) c5)))
            have P8 := Lib.hid (P6.out.fresh F8.out)
            clear hq hq2 hq3 F8 P6 P7 BO6 BH6 BO7 BH7 BX HGP FX
            go_wp2_with fail
            go_region
            go_wp2_with fail
            go_meet
            exact ⟨⟨qc, qt, qv⟩, rfl, P8.out, BO8.out, BH8.out, BX8.out, HJ.out⟩
      case rest =>
        obtain ⟨q, hs11, hP8, hBO8, hBH8, hBX8, hT8⟩ := hcut
        have P8 := Lib.hid hP8
        have BO8 := Lib.hid hBO8
        have BH8 := Lib.hid hBH8
        have BX8 := Lib.hid hBX8
        have HT8 := Lib.hid hT8
        clear hP8 hBO8 hBH8 hBX8 hT8 P6 P7 BO6 BH6 BO7 BH7 BX HGP FX TT HT O5' K5 N5 g1 g2 hi hz0 hz1 hz2
        have d1 := BO8.out.cell
        have d2 := BH8.out.cell
        have d3 := P8.out.b.cell
        have d4 := BX8.out.cell
        have e1 : ∀ W' : World, Blk W' (W.heap.size + 1) 32 #[.int .i64 h', .int .i64 y'] → ∀ i : Nat, W'.cell? ⟨W.heap.size + 1, i, none⟩ = #[Value.int .i64 h', .int .i64 y'][i]? := fun W' h i => h.cell i
        have e2 : ∀ W' : World, Blk W' gp 50 #[.pointer (some ⟨g, 0, none⟩), .pointer (some ⟨gr, 0, none⟩), .slice A5 (lh.length + 1) c5] → ∀ i : Nat, W'.cell? ⟨gp, i, none⟩ = #[.pointer (some ⟨g, 0, none⟩), .pointer (some ⟨gr, 0, none⟩), .slice A5 (lh.length + 1) c5][i]? := fun W' h i => h.cell i
        have FD : Hid (Fresh wc wc.drew) := Lib.hid (Keep.refl _ wc).drew
        have PD8 := Lib.hid (P8.out.fresh FD.out)
        have BD8 := Lib.hid (FD.out.blk_ BH8.out)
        have LL : (lh ++ [((-1 : Int), (0 : Int))]).length ≤ k + 1 := by simp; omega
        by_cases a1 : a = 1
        · subst a1
          have hsm := HS.out.small hN hk hr
          have CF := Lib.hid (free_any g vs vf s h' y' _ PD8.out.s hl hsm.fr)
          have hfr := hsm.fr
          cases T
          · have s0 : u11 = .int .i64 12 := hs11
            have hT := HT8.out
            simp only [Bool.false_eq_true, if_false] at hT
            obtain ⟨rfl, hno⟩ := hT
            subst s0
            have HNO := Lib.hid hno
            clear hs11 hno HT8 hsm d1 d2 d3 d4
            have d1 := BO8.out.cell
            have d2 := BH8.out.cell
            have d3 := P8.out.b.cell
            have d4 := BX8.out.cell
            go_wp2_with fail
            go_region_held3 (fun W' => Blk W' (W.heap.size + 1) 32 #[.int .i64 h', .int .i64 y'] ∧ Blk W' gp 50 #[.pointer (some ⟨g, 0, none⟩), .pointer (some ⟨gr, 0, none⟩), .slice A5 (lh.length + 1) c5]) (first | exact ⟨BD8.out, PD8.out.b⟩ | exact ⟨bh, pp.b⟩) ((go_at_call 13; (with_reducible refine CF.out.mono ?_); rintro en2 w2 (⟨i, x, vf', ht, _⟩ | ⟨_, rfl, f2⟩); exact absurd ht (HNO.out i x); have pp := PD8.out.fresh f2; have bh := Fresh.blk_ f2 BD8.out))
            have bo := Fresh.blk_ f2 (FD.out.blk_ BO8.out)
            have bx := Fresh.blk_ f2 (FD.out.blk_ BX8.out)
            have PP := Lib.hid pp
            clear d1 d2 d3 d4
            have d1 := bo.cell
            have d4 := bx.cell
            go_wp2_with fail
            go_ret
            exact DoesP.of PP.out HS.out.more LL
          · have s0 : u11 = .int .i64 0 := hs11
            have hT := HT8.out
            simp only [if_true] at hT
            obtain ⟨j, ht⟩ := hT
            obtain ⟨qc, qt, qv⟩ := q
            have hh : h' = (j : Int) := ht.1
            subst hh
            subst s0
            have hq := Lib.hid ht.2.1
            have hqc := Lib.hid ht.2.2.1
            have HNO := Lib.hid ht
            clear hs11 ht HT8 hsm d1 d2 d3 d4
            have d1 := BO8.out.cell
            have d2 := BH8.out.cell
            have d3 := P8.out.b.cell
            have d4 := BX8.out.cell
            go_wp2_with fail
            go_region_held3 (fun W' => Blk W' (W.heap.size + 1) 32 #[.int .i64 (j : Int), .int .i64 y'] ∧ Blk W' gp 50 #[.pointer (some ⟨g, 0, none⟩), .pointer (some ⟨gr, 0, none⟩), .slice A5 (lh.length + 1) c5]) (first | exact ⟨BD8.out, PD8.out.b⟩ | exact ⟨bh, pp.b⟩) ((go_at_call 13; (with_reducible refine CF.out.mono ?_); rintro en2 w2 (⟨i, x, vf', ht, rfl, q2, k2, t2⟩ | ⟨hno, _⟩); rotate_left; exact absurd HNO.out (hno _ _); obtain ⟨rfl, rfl⟩ := tells_uniq HNO.out ht; have pp := PD8.out.turnS q2 k2 t2; have bh := PD8.out.offS BD8.out k2 (by decide) (by decide) (by decide)))
            have P9 := Lib.hid pp
            have bo := Lib.hid (PD8.out.offS (FD.out.blk_ BO8.out) k2 (by decide) (by decide) (by decide))
            have bx := Lib.hid (PD8.out.offS (FD.out.blk_ BX8.out) k2 (by decide) (by decide) (by decide))
            have HB := Lib.hid bh
            clear pp bh q2 k2 t2 ht d1 d2 d3 d4 PD8 BD8 FD CF P8 BO8 BH8 BX8
            have d1 := bo.out.cell
            have d2 := HB.out.cell
            have d3 := P9.out.b.cell
            have d4 := bx.out.cell
            have FD : Hid (Fresh w2 w2.drew) := Lib.hid (Keep.refl _ w2).drew
            have PD8 := Lib.hid (P9.out.fresh FD.out)
            have BD8 := Lib.hid (FD.out.blk_ HB.out)
            have CF := Lib.hid (rfree_any gr vl vr s.l s.fr s.res j ⟨qc, qt, qv⟩ _ PD8.out.r hq.out hl hfr)
            go_wp2_with fail
            go_region_held3 (fun W' => Blk W' (W.heap.size + 1) 32 #[.int .i64 (j : Int), .int .i64 y'] ∧ Blk W' gp 50 #[.pointer (some ⟨g, 0, none⟩), .pointer (some ⟨gr, 0, none⟩), .slice A5 (lh.length + 1) c5]) (first | exact ⟨BD8.out, PD8.out.b⟩ | exact ⟨bh, pp.b⟩) ((go_at_call 30; (with_reducible refine CF.out.mono ?_); rintro en2 w3 ⟨rfl, vr', r3, k3, n3⟩; have k3 := k3.more (S' := foot gr vl vr) (fun _ _ h => h.elim .inl (fun h => .inr (.inl h))); have pp := PD8.out.turnR r3 k3 (later_new n3); have bh := PD8.out.offR BD8.out k3 (by decide) (by decide) (by decide)))
            have P10 := Lib.hid pp
            have bo3 := Lib.hid (PD8.out.offR (FD.out.blk_ bo.out) k3 (by decide) (by decide) (by decide))
            have bx3 := Lib.hid ((FD.out.blk_ bx.out).keep k3 (fun hf => by have := FR.out _ hf; omega))
            clear pp bh r3 k3 n3 d1 d2 d3 d4
            have d1 := bo3.out.cell
            have d4 := bx3.out.cell
            go_wp2_with fail
            go_ret
            exact DoesP.of P10.out (HS.out.free hq.out hqc.out) LL
        · have ta1 : (a == 1) = false := by simp [a1]
          by_cases a2 : a = 2
          · subst a2
            have hsm := HS.out.small hN hk hr
            have CF := Lib.hid (get_any g vs vf s h' y' _ PD8.out.s hl)
            cases T
            · have s0 : u11 = .int .i64 12 := hs11
              have hT := HT8.out
              simp only [Bool.false_eq_true, if_false] at hT
              obtain ⟨rfl, hno⟩ := hT
              subst s0
              have HNO := Lib.hid hno
              clear hs11 hno HT8 hsm d1 d2 d3 d4
              have d1 := BO8.out.cell
              have d2 := BH8.out.cell
              have d3 := P8.out.b.cell
              have d4 := BX8.out.cell
              go_wp2_with fail
              go_region_held3 (fun W' => Blk W' (W.heap.size + 1) 32 #[.int .i64 h', .int .i64 y'] ∧ Blk W' gp 50 #[.pointer (some ⟨g, 0, none⟩), .pointer (some ⟨gr, 0, none⟩), .slice A5 (lh.length + 1) c5]) (first | exact ⟨BD8.out, PD8.out.b⟩ | exact ⟨bh, pp.b⟩) ((go_at_call 16; (with_reducible refine CF.out.mono ?_); rintro en2 w2 ⟨f2, (⟨i, x, ht, _⟩ | ⟨_, rfl⟩)⟩; exact absurd ht (HNO.out i x); have pp := PD8.out.fresh f2; have bh := Fresh.blk_ f2 BD8.out))
              have bo := Fresh.blk_ f2 (FD.out.blk_ BO8.out)
              have bx := Fresh.blk_ f2 (FD.out.blk_ BX8.out)
              have PP := Lib.hid pp
              clear d1 d2 d3 d4
              have d1 := bo.cell
              have d4 := bx.cell
              go_wp2_with fail
              go_ret
              exact DoesP.of PP.out HS.out.more LL
            · have s0 : u11 = .int .i64 0 := hs11
              have hT := HT8.out
              simp only [if_true] at hT
              obtain ⟨j, ht⟩ := hT
              obtain ⟨qc, qt, qv⟩ := q
              have hh : h' = (j : Int) := ht.1
              subst hh
              subst s0
              have hq := Lib.hid ht.2.1
              have hqc := Lib.hid ht.2.2.1
              have HNO := Lib.hid ht
              clear hs11 ht HT8 hsm d1 d2 d3 d4
              have d1 := BO8.out.cell
              have d2 := BH8.out.cell
              have d3 := P8.out.b.cell
              have d4 := BX8.out.cell
              go_wp2_with fail
              go_region_held3 (fun W' => Blk W' (W.heap.size + 1) 32 #[.int .i64 (j : Int), .int .i64 y'] ∧ Blk W' gp 50 #[.pointer (some ⟨g, 0, none⟩), .pointer (some ⟨gr, 0, none⟩), .slice A5 (lh.length + 1) c5]) (first | exact ⟨BD8.out, PD8.out.b⟩ | exact ⟨bh, pp.b⟩) ((go_at_call 16; (with_reducible refine CF.out.mono ?_); rintro en2 w2 ⟨f2, (⟨i, x, ht, rfl⟩ | ⟨hno, _⟩)⟩; rotate_left; exact absurd HNO.out (hno _ _); obtain ⟨rfl, rfl⟩ := tells_uniq HNO.out ht; have pp := PD8.out.fresh f2; have bh := Fresh.blk_ f2 BD8.out))
              have bo := Fresh.blk_ f2 (FD.out.blk_ BO8.out)
              have bx := Fresh.blk_ f2 (FD.out.blk_ BX8.out)
              have PP := Lib.hid pp
              clear d1 d2 d3 d4
              have d1 := bo.cell
              have d4 := bx.cell
              go_wp2_with fail
              go_ret
              exact DoesP.of PP.out HS.out.more LL
          · have ta2 : (a == 2) = false := by simp [a2]
            by_cases a3 : a = 3
            · subst a3
              cases T
              · have s0 : u11 = .int .i64 12 := hs11
                have hT := HT8.out
                simp only [Bool.false_eq_true, if_false] at hT
                obtain ⟨rfl, hno⟩ := hT
                subst s0
                have HNO := Lib.hid hno
                clear hs11 hno HT8 d1 d2 d3 d4
                have d1 := BO8.out.cell
                have d2 := BH8.out.cell
                have d3 := P8.out.b.cell
                have d4 := BX8.out.cell
                have CF := Lib.hid (set_any g vs vf s h' y' v _ PD8.out.s hl)
                have OD8 := Lib.hid (FD.out.blk_ BO8.out)
                have e3 : ∀ W' : World, Blk W' W.heap.size 34 #[.int .i64 3, .int .i64 c, .bool u, .int .i64 v, .int .i64 t, .int .i64 h, .int .i64 y] → ∀ i : Nat, W'.cell? ⟨W.heap.size, i, none⟩ = #[.int .i64 3, .int .i64 c, .bool u, .int .i64 v, .int .i64 t, .int .i64 h, .int .i64 y][i]? := fun W' h i => h.cell i
                go_wp2_with fail
                go_region_held3 (fun W' => (Blk W' (W.heap.size + 1) 32 #[.int .i64 h', .int .i64 y'] ∧ Blk W' gp 50 #[.pointer (some ⟨g, 0, none⟩), .pointer (some ⟨gr, 0, none⟩), .slice A5 (lh.length + 1) c5]) ∧ Blk W' W.heap.size 34 #[.int .i64 3, .int .i64 c, .bool u, .int .i64 v, .int .i64 t, .int .i64 h, .int .i64 y]) (first | exact ⟨⟨BD8.out, PD8.out.b⟩, OD8.out⟩ | exact ⟨⟨bh, pp.b⟩, bo⟩) ((go_at_call 17; (with_reducible refine CF.out.mono ?_); rintro en2 w2 (⟨i, x, ht, _⟩ | ⟨_, rfl, f2⟩); exact absurd ht (HNO.out i x); have pp := PD8.out.fresh f2; have bh := Fresh.blk_ f2 BD8.out; have bo := Fresh.blk_ f2 OD8.out))
                have PP := Lib.hid pp
                clear d1 d2 d3 d4
                go_wp2_with fail
                go_ret
                exact DoesP.of PP.out HS.out.more LL
              · have s0 : u11 = .int .i64 0 := hs11
                have hT := HT8.out
                simp only [if_true] at hT
                obtain ⟨j, ht⟩ := hT
                obtain ⟨qc, qt, qv⟩ := q
                have hh : h' = (j : Int) := ht.1
                subst hh
                subst s0
                have hq := Lib.hid ht.2.1
                have hqc := Lib.hid ht.2.2.1
                have HNO := Lib.hid ht
                clear hs11 ht HT8 d1 d2 d3 d4
                have d1 := BO8.out.cell
                have d2 := BH8.out.cell
                have d3 := P8.out.b.cell
                have d4 := BX8.out.cell
                have hjl := (List.getElem?_eq_some_iff.1 hq.out).1
                obtain ⟨gl, offl, capl, rfl, lgl, _, hcl', hcc⟩ := P8.out.r.ol.form (by omega)
                have zl := P8.out.r.ol.at_.2.1
                have q2 := hcc _ _ (slots_at _ _ _ hq.out).2.2
                simp only [← Nat.add_assoc] at q2
                have cr := P8.out.r.blk.cell
                have j0 : (0 : Int) ≤ (j : Int) := by omega
                have j1 : (j : Int) < (s.l.length : Int) := by omega
                have KD : Keep (foot gr (.slice (some ⟨gl, offl, none⟩) s.l.length capl) vr) wc (wc.setCell ⟨gl, offl + j * 3 + 2, none⟩ (.int .i64 v)) := Keep.setCell (p := ⟨gl, offl + j * 3 + 2, none⟩) (Keep.refl _ wc) (fun _ => .inr (.inl rfl)) _
                have FD2 : Hid (Fresh (wc.setCell ⟨gl, offl + j * 3 + 2, none⟩ (.int .i64 v)) (wc.setCell ⟨gl, offl + j * 3 + 2, none⟩ (.int .i64 v)).drew) := Lib.hid (Keep.refl _ _).drew
                have P9 := Lib.hid ((P8.out.turnR (P8.out.r.setv rfl hq.out v) KD (fun _ h => .inl h)).fresh FD2.out)
                have BO9 := Lib.hid (FD2.out.blk_ (P8.out.offR BO8.out KD (by decide) (by decide) (by decide)))
                have BH9 := Lib.hid (FD2.out.blk_ (P8.out.offR BH8.out KD (by decide) (by decide) (by decide)))
                clear hcc KD FD2 PD8 BD8 FD P8 BO8 BH8 BX8
                go_wp2_with fail
                go_region
                obtain ⟨WX, hWX⟩ : ∃ WX, (wc.setCell ⟨gl, offl + j * 3 + 2, none⟩ (.int .i64 v)).drew = WX := ⟨_, rfl⟩
                rw [hWX] at P9 BO9 BH9 ⊢
                clear hWX d1 d2 d3 d4 cr zl q2
                have d1 := BO9.out.cell
                have d2 := BH9.out.cell
                have d3 := P9.out.b.cell
                have FD : Hid (Fresh WX WX.drew) := Lib.hid (Keep.refl _ WX).drew
                have PD8 := Lib.hid (P9.out.fresh FD.out)
                have BD8 := Lib.hid (FD.out.blk_ BH9.out)
                have OD8 := Lib.hid (FD.out.blk_ BO9.out)
                have CF := Lib.hid (set_any g vs vf s j y' v _ PD8.out.s hl)
                have e3 : ∀ W' : World, Blk W' W.heap.size 34 #[.int .i64 3, .int .i64 c, .bool u, .int .i64 v, .int .i64 t, .int .i64 h, .int .i64 y] → ∀ i : Nat, W'.cell? ⟨W.heap.size, i, none⟩ = #[.int .i64 3, .int .i64 c, .bool u, .int .i64 v, .int .i64 t, .int .i64 h, .int .i64 y][i]? := fun W' h i => h.cell i
                go_wp2_with fail
                go_region_held3 (fun W' => (Blk W' (W.heap.size + 1) 32 #[.int .i64 (j : Int), .int .i64 y'] ∧ Blk W' gp 50 #[.pointer (some ⟨g, 0, none⟩), .pointer (some ⟨gr, 0, none⟩), .slice A5 (lh.length + 1) c5]) ∧ Blk W' W.heap.size 34 #[.int .i64 3, .int .i64 c, .bool u, .int .i64 v, .int .i64 t, .int .i64 h, .int .i64 y]) (first | exact ⟨⟨BD8.out, PD8.out.b⟩, OD8.out⟩ | exact ⟨⟨bh, pp.b⟩, bo⟩) ((go_at_call 17; (with_reducible refine CF.out.mono ?_); rintro en2 w2 (⟨i, x, ht, rfl, q2, k2⟩ | ⟨hno, _⟩); rotate_left; exact absurd HNO.out (hno _ _); obtain ⟨rfl, rfl⟩ := tells_uniq HNO.out ht; have pp := PD8.out.turnS q2 k2 (fun _ h => .inl h); have bh := PD8.out.offS BD8.out k2 (by decide) (by decide) (by decide); have bo := PD8.out.offS OD8.out k2 (by decide) (by decide) (by decide)))
                have PP := Lib.hid pp
                clear d1 d2 d3
                go_wp2_with fail
                go_ret
                exact DoesP.of PP.out (HS.out.setv hq.out v) LL
            · have ta3 : (a == 3) = false := by simp [a3]
              have hsm := HS.out.small hN hk hr
              clear a1 a2 a3
              have CF := Lib.hid (class_any g vs vf s h' y' _ PD8.out.s hl)
              cases T
              · have s0 : u11 = .int .i64 12 := hs11
                have hT := HT8.out
                simp only [Bool.false_eq_true, if_false] at hT
                obtain ⟨rfl, hno⟩ := hT
                subst s0
                have HNO := Lib.hid hno
                clear hs11 hno HT8 hsm d1 d2 d3 d4
                have d1 := BO8.out.cell
                have d2 := BH8.out.cell
                have d3 := P8.out.b.cell
                have d4 := BX8.out.cell
                go_wp2_with fail
                go_region_held3 (fun W' => Blk W' (W.heap.size + 1) 32 #[.int .i64 h', .int .i64 y'] ∧ Blk W' gp 50 #[.pointer (some ⟨g, 0, none⟩), .pointer (some ⟨gr, 0, none⟩), .slice A5 (lh.length + 1) c5]) (first | exact ⟨BD8.out, PD8.out.b⟩ | exact ⟨bh, pp.b⟩) ((go_at_call 18; (with_reducible refine CF.out.mono ?_); rintro en2 w2 ⟨f2, (⟨i, x, ht, _⟩ | ⟨_, rfl⟩)⟩; exact absurd ht (HNO.out i x); have pp := PD8.out.fresh f2; have bh := Fresh.blk_ f2 BD8.out))
                have bo := Fresh.blk_ f2 (FD.out.blk_ BO8.out)
                have bx := Fresh.blk_ f2 (FD.out.blk_ BX8.out)
                have PP := Lib.hid pp
                clear d1 d2 d3 d4
                have d1 := bo.cell
                have d4 := bx.cell
                go_wp2_with fail
                go_ret
                exact DoesP.of PP.out HS.out.more LL
              · have s0 : u11 = .int .i64 0 := hs11
                have hT := HT8.out
                simp only [if_true] at hT
                obtain ⟨j, ht⟩ := hT
                obtain ⟨qc, qt, qv⟩ := q
                have hh : h' = (j : Int) := ht.1
                subst hh
                subst s0
                have hq := Lib.hid ht.2.1
                have hqc := Lib.hid ht.2.2.1
                have HNO := Lib.hid ht
                clear hs11 ht HT8 hsm d1 d2 d3 d4
                have d1 := BO8.out.cell
                have d2 := BH8.out.cell
                have d3 := P8.out.b.cell
                have d4 := BX8.out.cell
                go_wp2_with fail
                go_region_held3 (fun W' => Blk W' (W.heap.size + 1) 32 #[.int .i64 (j : Int), .int .i64 y'] ∧ Blk W' gp 50 #[.pointer (some ⟨g, 0, none⟩), .pointer (some ⟨gr, 0, none⟩), .slice A5 (lh.length + 1) c5]) (first | exact ⟨BD8.out, PD8.out.b⟩ | exact ⟨bh, pp.b⟩) ((go_at_call 18; (with_reducible refine CF.out.mono ?_); rintro en2 w2 ⟨f2, (⟨i, x, ht, rfl⟩ | ⟨hno, _⟩)⟩; rotate_left; exact absurd HNO.out (hno _ _); obtain ⟨rfl, rfl⟩ := tells_uniq HNO.out ht; have pp := PD8.out.fresh f2; have bh := Fresh.blk_ f2 BD8.out))
                have bo := Fresh.blk_ f2 (FD.out.blk_ BO8.out)
                have bx := Fresh.blk_ f2 (FD.out.blk_ BX8.out)
                have PP := Lib.hid pp
                clear d1 d2 d3 d4
                have d1 := bo.cell
                have d4 := bx.cell
                go_wp2_with fail
                go_ret
                exact DoesP.of PP.out HS.out.more LL

end Go.Proofs.Ytdobhicjhgdhnaa
