/-
  The law's does: Take.
-/
import Derived.Test.YtdobhicjhgdhnaaDoesP
namespace Go.Proofs.Ytdobhicjhgdhnaa
open Go.RowKit
attribute [local go_sem ↓] Go.wp_at_zero Go.wp_at_succ
attribute [local go_sem ↓] run_eql_handle

set_option maxHeartbeats 4000000 in
set_option maxRecDepth 100000 in
theorem does_take (w : World) (Fp : Nat → Prop) (gp g : Nat) (vs vf : Value) (s : St) (gr : Nat) (vl vr lv : Value) (lh : List (Int × Int)) (N k : Nat) (a c v t h y : Int) (u : Bool) (W : World) (hP : PD w Fp gp g vs vf s gr vl vr s.l s.fr s.res lv lh W) (hs : PS N k s.res s) (hN : N ≤ 4096) (hk : k ≤ 1000) (hr : 0 ≤ s.res ∧ s.res ≤ 4096) (hlh : lh.length ≤ k) (ha0 : Hid (a = 0)) :
    Calls Try.prog 20 #[.pointer (some ⟨gp, 0, none⟩), .agg #[.int .i64 a, .int .i64 c, .bool u, .int .i64 v, .int .i64 t, .int .i64 h, .int .i64 y]] W (DoesP w Fp N k gp g vs gr vl s.res) := by
  have hl : s.l.length ≤ 100000 := (hs.small hN hk hr).l
  obtain ⟨X, hX⟩ : ∃ X, ((W.alloc (.cells #[.int .i64 a, .int .i64 c, .bool u, .int .i64 v, .int .i64 t, .int .i64 h, .int .i64 y] 34)).alloc (.cells #[.int .i64 h, .int .i64 y] 32)) = X := ⟨_, rfl⟩
  have fX : Fresh W X := hX ▸ (((Keep.refl _ W).alloc _).alloc _)
  have PX := Lib.hid (hP.fresh fX)
  have BO : Hid (Blk X W.heap.size 34 #[.int .i64 a, .int .i64 c, .bool u, .int .i64 v, .int .i64 t, .int .i64 h, .int .i64 y]) := Lib.hid (hX ▸ ((Blk.new W _ _).alloc _))
  have BH : Hid (Blk X (W.heap.size + 1) 32 #[.int .i64 h, .int .i64 y]) := Lib.hid (hX ▸ Blk.at_new (by simp) _ _)
  have HS := Lib.hid hs
  obtain ⟨Al, cl, rfl, hcl, hml⟩ := hP.lo.shape
  have hml : cl ≤ 9223372036854775807 := by unfold maxLen at hml; omega
  have c1 := BO.out.cell
  have l1 := BO.out.lt
  have c2 := BH.out.cell
  have l2 := BH.out.lt
  have c3 := PX.out.b.cell
  have l3 := PX.out.b.lt
  have z2 := BH.out.frozen
  have HLW : Hid (∀ k, (Value.slice Al lh.length cl).ownBlock = some k → k < W.heap.size) := Lib.hid (fun k hk => hP.lo.lt hk)
  have hwW := hP.f.size
  clear hP fX
  go_enter Try.func20, Try.ntmps20
  go_upto_region 2 with (fail)
  obtain ⟨I, hI⟩ : ∃ I, decide (0 ≤ t ∧ t < (lh.length : Int)) = I := ⟨_, rfl⟩
  go_cut [33] (fun s33 wx => s33 = .bool I ∧ Fresh X wx)
  case first =>
    as_aux_lemma =>
      by_cases h0 : 0 ≤ t
      · have t1 : decide (0 ≤ t) = true := decide_eq_true h0
        by_cases h1 : t < (lh.length : Int)
        · have t2 : decide (t < (lh.length : Int)) = true := decide_eq_true h1
          have t3 : decide (0 ≤ t ∧ t < (lh.length : Int)) = true := decide_eq_true ⟨h0, h1⟩
          have T3 := Lib.hid (t3.symm.trans hI)
          clear h0 h1 t3 hI
          go_quiet (fail)
          go_wp2_with fail
          go_meet
          exact ⟨congrArg Value.bool T3.out, (Keep.refl _ X).drewN _⟩
        · have t2 : decide (t < (lh.length : Int)) = false := decide_eq_false h1
          have t3 : decide (0 ≤ t ∧ t < (lh.length : Int)) = false := decide_eq_false (fun h => h1 h.2)
          have T3 := Lib.hid (t3.symm.trans hI)
          clear h0 h1 t3 hI
          go_quiet (fail)
          go_wp2_with fail
          go_meet
          exact ⟨congrArg Value.bool T3.out, (Keep.refl _ X).drewN _⟩
      · have t1 : decide (0 ≤ t) = false := decide_eq_false h0
        have t3 : decide (0 ≤ t ∧ t < (lh.length : Int)) = false := decide_eq_false (fun h => h0 h.1)
        have T3 := Lib.hid (t3.symm.trans hI)
        clear h0 t3 hI
        go_quiet (fail)
        go_wp2_with fail
        go_meet
        exact ⟨congrArg Value.bool T3.out, (Keep.refl _ X).drewN _⟩
  case rest =>
    obtain ⟨rfl, fc⟩ := hcut
    have P2 := Lib.hid (PX.out.fresh fc)
    have BO2 := Lib.hid (fc.blk_ BO.out)
    have BH2 := Lib.hid (fc.blk_ BH.out)
    clear c1 l1 c2 l2 c3 l3 z2 fc BO BH PX
    have c1 := BO2.out.cell
    have l1 := BO2.out.lt
    have c2 := BH2.out.cell
    have l2 := BH2.out.lt
    have z2 := BH2.out.frozen
    have c3 := P2.out.b.cell
    have l3 := P2.out.b.lt
    go_upto_if 33 with (fail)
    go_cut [] (fun wx => ∃ h' y', PD w Fp gp g vs vf s gr vl vr s.l s.fr s.res (.slice Al lh.length cl) lh wx ∧ Blk wx W.heap.size 34 #[.int .i64 a, .int .i64 c, .bool u, .int .i64 v, .int .i64 t, .int .i64 h, .int .i64 y] ∧ Blk wx (W.heap.size + 1) 32 #[.int .i64 h', .int .i64 y'])
    case first =>
      as_aux_lemma =>
        cases I
        · go_wp2_with fail
          go_meet
          exact ⟨_, _, P2.out, BO2.out, BH2.out⟩
        · have hin := of_decide_eq_true hI
          obtain ⟨j, rfl⟩ : ∃ j : Nat, t = (j : Int) := ⟨t.toNat, by omega⟩
          have hj : j < lh.length := by omega
          obtain ⟨p, hp⟩ : ∃ p, lh[j]? = some p := ⟨_, List.getElem?_eq_getElem hj⟩
          obtain ⟨gl, offl, _, hvl, lgl, _, _, hcc⟩ := P2.out.lo.form (by omega)
          injection hvl with e1 e2 e3
          subst e1 e3
          have q0 := hcc _ _ (hcells_at lh j p hp).1
          have q1 := hcc _ _ (hcells_at lh j p hp).2
          rw [← Nat.add_assoc] at q1
          have j0 : (0 : Int) ≤ (j : Int) := by omega
          have j1 : (j : Int) < (lh.length : Int) := by omega
          clear hin hI hp hcc e2
          have KK : Keep (fun q => q = W.heap.size + 1) wc (((wc.setCell ⟨W.heap.size + 1, 0, none⟩ (.int .i64 p.1)).setCell ⟨W.heap.size + 1, 1, none⟩ (.int .i64 p.2)).drew) := Keep.drew (Keep.setCell (S := fun q => q = W.heap.size + 1) (p := ⟨W.heap.size + 1, 1, none⟩) (Keep.setCell (S := fun q => q = W.heap.size + 1) (p := ⟨W.heap.size + 1, 0, none⟩) (Keep.refl _ wc) (fun _ => rfl) _) (fun _ => rfl) _)
          have HKK := Lib.hid KK
          have BN : Hid (Blk (((wc.setCell ⟨W.heap.size + 1, 0, none⟩ (.int .i64 p.1)).setCell ⟨W.heap.size + 1, 1, none⟩ (.int .i64 p.2)).drew) (W.heap.size + 1) 32 #[.int .i64 p.1, .int .i64 p.2]) := Lib.hid (by
            have := (BH2.out.set_ 0 (.int .i64 p.1)).set_ 1 (.int .i64 p.2)
            simpa using this.drew)
          clear KK
          go_wp2_with fail
          go_region
          go_wp2_with fail
          go_meet
          exact ⟨_, _, P2.out.put BH2.out (by omega) (fun he => by have := HLW.out _ he; omega) HKK.out, BO2.out.keep HKK.out (by omega), BN.out⟩
    case rest =>
      obtain ⟨h', y', hP3, hBO3, hBH3⟩ := hcut
      have P3 := Lib.hid hP3
      have BO3 := Lib.hid hBO3
      have BH3 := Lib.hid hBH3
      clear c1 l1 c2 l2 z2 c3 l3 hP3 hBO3 hBH3 P2 BO2 BH2
      have d1 := fun (W' : World) (f : Fresh wc W') (i : Nat) => (f.blk_ BO3.out).cell i
      have d2 := fun (W' : World) (f : Fresh wc W') (i : Nat) => (f.blk_ BH3.out).cell i
      have d3 := fun (W' : World) (f : Fresh wc W') (i : Nat) => (f.blk_ P3.out.b).cell i
      have HTL := Lib.hid (fun (W' : World) (f : Fresh wc W') => rtells_any gr vl vr s.l s.fr s.res h' y' W' (P3.out.r.fresh f) hl)
      go_wp2_with fail
      go_region_held3 (fun W' => Fresh wc W') (exact (fun (f : Fresh wc _) => f) (by (repeat (first | (with_reducible exact Keep.refl _ _) | (with_reducible assumption) | (with_reducible refine Keep.drew ?_) | (with_reducible refine Keep.drewN ?_ _) | (with_reducible refine Keep.alloc ?_ _) | (with_reducible refine Keep.setCell ?_ ?_ _) | (with_reducible refine fun _ => rfl))))) ((go_at_call 25; (with_reducible refine (HTL.out _ (by assumption)).mono ?_); rintro en1 w1 ⟨rfl, f1⟩; have f2 := Keep.step (S := fun _ => False) (by assumption : Fresh wc _) f1 (fun _ _ h => h)))
      obtain ⟨T, hT⟩ : ∃ T, tellsB s.l h' y' = T := ⟨_, rfl⟩
      rw [hT]
      have HT := Lib.hid hT
      have f2 : Fresh wc w1 := f2
      have P4 := Lib.hid (P3.out.fresh f2)
      have BO4 := Lib.hid (f2.blk_ BO3.out)
      have BH4 := Lib.hid (f2.blk_ BH3.out)
      clear d1 d2 d3 HTL hT P3 BO3 BH3 hI
      have c1 := BO4.out.cell
      have l1 := BO4.out.lt
      have c3 := P4.out.b.cell
      have l3 := P4.out.b.lt
      have z3 := P4.out.b.frozen
      obtain ⟨i0, hi, hz0, hz1, hz2⟩ := info_parts info_handle
      have h02 : Hid (0 < 2) := Lib.hid (by omega)
      have g1 : lh.length + 1 ≤ maxLen := one_le_maxLen (by omega)
      have g2 : (lh.length + 1) * 16 ≤ 140737488355328 := by omega
      have ha := ha0.out
      subst ha
      obtain ⟨er, at_, tt, s', TB⟩ := take_both HS.out hN hk hr c v u
      have TB := Lib.hid TB
      have HGN : Hid (gp ≠ w1.heap.size ∧ W.heap.size ≠ w1.heap.size) := Lib.hid ⟨by have := P4.out.b.lt; omega, by have := BO4.out.lt; omega⟩
      have HNF : Hid (∀ i, foot g vs vf i → i < w1.heap.size) := Lib.hid P4.out.s.lt
      go_wp2_with fail
      go_cut [7, 8] (fun s7 s8 wx => ∃ (b : Nat) (vf' : Value), s7 = .pointer (some ⟨b, 0, none⟩) ∧ s8 = .int .i64 er ∧ (∀ i, (Value.slice Al lh.length cl).ownBlock = some i → i < b) ∧ PD w Fp gp g vs vf' s' gr vl vr s.l s.fr s.res (.slice Al lh.length cl) lh wx ∧ Blk wx W.heap.size 34 #[.int .i64 0, .int .i64 c, .bool u, .int .i64 v, .int .i64 t, .int .i64 h, .int .i64 y] ∧ Blk wx b 32 #[.int .i64 at_, .int .i64 tt] ∧ w.heap.size ≤ b)
      case first =>
        as_aux_lemma =>
          have SB := Lib.hid (show Two gp W.heap.size #[.pointer (some ⟨g, 0, none⟩), .pointer (some ⟨gr, 0, none⟩), .slice Al lh.length cl] #[.int .i64 0, .int .i64 c, .bool u, .int .i64 v, .int .i64 t, .int .i64 h, .int .i64 y] w1.drew from ⟨P4.out.b.drew, BO4.out.drew⟩)
          have y1 := fun (W' : World) (h : Two gp W.heap.size #[.pointer (some ⟨g, 0, none⟩), .pointer (some ⟨gr, 0, none⟩), .slice Al lh.length cl] #[.int .i64 0, .int .i64 c, .bool u, .int .i64 v, .int .i64 t, .int .i64 h, .int .i64 y] W') (i : Nat) => h.1.cell i
          have y2 := fun (W' : World) (h : Two gp W.heap.size #[.pointer (some ⟨g, 0, none⟩), .pointer (some ⟨gr, 0, none⟩), .slice Al lh.length cl] #[.int .i64 0, .int .i64 c, .bool u, .int .i64 v, .int .i64 t, .int .i64 h, .int .i64 y] W') (i : Nat) => h.2.cell i
          clear c1 l1 c3 l3 z3
          go_region_held3 (fun W' => Two gp W.heap.size #[.pointer (some ⟨g, 0, none⟩), .pointer (some ⟨gr, 0, none⟩), .slice Al lh.length cl] #[.int .i64 0, .int .i64 c, .bool u, .int .i64 v, .int .i64 t, .int .i64 h, .int .i64 y] W') (first | exact SB.out | exact Two.alloc (by assumption) _ | exact sb | exact Two.set2 sb HGN.out.1 HGN.out.2 _ _) ((go_at_call 12; (with_reducible refine (TB.out.real g vs vf _ (P4.out.s.fresh (by (repeat (first | (with_reducible exact Keep.refl _ _) | (with_reducible assumption) | (with_reducible refine Keep.drew ?_) | (with_reducible refine Keep.drewN ?_ _) | (with_reducible refine Keep.alloc ?_ _) | (with_reducible refine Keep.setCell ?_ ?_ _) | (with_reducible refine fun _ => rfl)))))).mono ?_); rintro en2 w2 ⟨rfl, vf', q2, k2, t2⟩; have sb : Two gp W.heap.size #[.pointer (some ⟨g, 0, none⟩), .pointer (some ⟨gr, 0, none⟩), .slice Al lh.length cl] #[.int .i64 0, .int .i64 c, .bool u, .int .i64 v, .int .i64 t, .int .i64 h, .int .i64 y] w2 := Two.offS (by assumption) (P4.out.s.fresh (by (repeat (first | (with_reducible exact Keep.refl _ _) | (with_reducible assumption) | (with_reducible refine Keep.drew ?_) | (with_reducible refine Keep.drewN ?_ _) | (with_reducible refine Keep.alloc ?_ _) | (with_reducible refine Keep.setCell ?_ ?_ _) | (with_reducible refine fun _ => rfl))))) k2; try (have bb := (show Blk (w1.drew.alloc (.cells #[.int .i64 0, .int .i64 0] 32)) w1.heap.size 32 #[.int .i64 0, .int .i64 0] from Blk.at_new rfl _ _).keep k2 (fun hf => by have := HNF.out _ hf; omega); have cbb := bb.cell; have zbb := bb.frozen; have lbb := bb.lt; have BB := Lib.hid bb; clear bb)))
          · have PZ := Lib.hid (((P4.out.fresh (Keep.refl _ w1).drew).turnS q2 k2 t2).fresh ((Keep.refl _ w2).alloc (.cells #[.int .i64 at_, .int .i64 tt] 32)))
            have SZ := Lib.hid (sb.2.alloc (.cells #[.int .i64 at_, .int .i64 tt] 32))
            have LZ : Hid ((∀ i, (Value.slice Al lh.length cl).ownBlock = some i → i < w2.heap.size) ∧ w.heap.size ≤ w2.heap.size) := Lib.hid ⟨fun i hi => Nat.lt_of_lt_of_le (P4.out.lo.lt hi) k2.size, Nat.le_trans P4.out.f.size k2.size⟩
            clear q2 k2 t2 sb
            go_wp2_with fail
            go_meet
            exact ⟨w2.heap.size, vf', rfl, rfl, LZ.out.1, PZ.out, SZ.out, Blk.new w2 _ _, LZ.out.2⟩
          · have PX := (P4.out.fresh ((Keep.refl _ w1).drew.alloc (.cells #[.int .i64 0, .int .i64 0] 32))).turnS q2 k2 t2
            have KK : Keep (fun q => q = w1.heap.size) w2 ((w2.setCell ⟨w1.heap.size, 0, none⟩ (.int .i64 at_)).setCell ⟨w1.heap.size, 1, none⟩ (.int .i64 tt)) := Keep.setCell (S := fun q => q = w1.heap.size) (p := ⟨w1.heap.size, 1, none⟩) (Keep.setCell (S := fun q => q = w1.heap.size) (p := ⟨w1.heap.size, 0, none⟩) (Keep.refl _ w2) (fun _ => rfl) _) (fun _ => rfl) _
            have PZ := Lib.hid (PX.put BB.out P4.out.f.size (fun he => by have := P4.out.lo.lt he; omega) KK)
            have SZ := Lib.hid (Two.set2 sb HGN.out.1 HGN.out.2 (.int .i64 at_) (.int .i64 tt)).2
            have BZ : Hid (Blk ((w2.setCell ⟨w1.heap.size, 0, none⟩ (.int .i64 at_)).setCell ⟨w1.heap.size, 1, none⟩ (.int .i64 tt)) w1.heap.size 32 #[.int .i64 at_, .int .i64 tt]) := Lib.hid (by simpa using (BB.out.set_ 0 (.int .i64 at_)).set_ 1 (.int .i64 tt))
            have LZ : Hid ((∀ i, (Value.slice Al lh.length cl).ownBlock = some i → i < w1.heap.size) ∧ w.heap.size ≤ w1.heap.size) := Lib.hid ⟨fun i hi => P4.out.lo.lt hi, P4.out.f.size⟩
            clear q2 k2 t2 sb KK PX
            go_wp2_with fail
            go_meet
            exact ⟨w1.heap.size, vf', rfl, rfl, LZ.out.1, PZ.out, SZ.out, BZ.out, LZ.out.2⟩
      case rest =>
        obtain ⟨b, vf', h7, h8, hlb, hP5, hO5, hB5, hbw⟩ := hcut
        subst h7 h8
        have hres : Hid (s'.res = s.res) := Lib.hid (by rw [TB.out.ps.ts.res])
        have P5 := Lib.hid hP5
        have B5 := Lib.hid hB5
        have O5 := Lib.hid hO5
        have HLB := Lib.hid hlb
        clear hP5 hB5 hO5 hlb P4 BO4 BH4 HNF HGN c1 l1 c3 l3 z3
        have SB := Lib.hid (show Two gp W.heap.size #[.pointer (some ⟨g, 0, none⟩), .pointer (some ⟨gr, 0, none⟩), .slice Al lh.length cl] #[.int .i64 0, .int .i64 c, .bool u, .int .i64 v, .int .i64 t, .int .i64 h, .int .i64 y] wc.drew from ⟨P5.out.b.drew, O5.out.drew⟩)
        have y1 := fun (W' : World) (h : Two gp W.heap.size #[.pointer (some ⟨g, 0, none⟩), .pointer (some ⟨gr, 0, none⟩), .slice Al lh.length cl] #[.int .i64 0, .int .i64 c, .bool u, .int .i64 v, .int .i64 t, .int .i64 h, .int .i64 y] W') (i : Nat) => h.1.cell i
        have y2 := fun (W' : World) (h : Two gp W.heap.size #[.pointer (some ⟨g, 0, none⟩), .pointer (some ⟨gr, 0, none⟩), .slice Al lh.length cl] #[.int .i64 0, .int .i64 c, .bool u, .int .i64 v, .int .i64 t, .int .i64 h, .int .i64 y] W') (i : Nat) => h.2.cell i
        have PD5 := Lib.hid (P5.out.fresh (Keep.refl _ wc).drew)
        go_wp2_with fail
        go_region_held3 (fun W' => Two gp W.heap.size #[.pointer (some ⟨g, 0, none⟩), .pointer (some ⟨gr, 0, none⟩), .slice Al lh.length cl] #[.int .i64 0, .int .i64 c, .bool u, .int .i64 v, .int .i64 t, .int .i64 h, .int .i64 y] W') (first | exact SB.out | exact sb) ((go_at_call 29; (with_reducible refine (TB.out.doc gr vl vr _ PD5.out.r).mono ?_); rintro en3 w3 ⟨rfl, vr', q3, k3, t3⟩; have sb : Two gp W.heap.size #[.pointer (some ⟨g, 0, none⟩), .pointer (some ⟨gr, 0, none⟩), .slice Al lh.length cl] #[.int .i64 0, .int .i64 c, .bool u, .int .i64 v, .int .i64 t, .int .i64 h, .int .i64 y] w3 := Two.offR SB.out PD5.out.r k3))
        have P6 := Lib.hid (PD5.out.turnR (show RSlab w3 gr vl vr' s'.l s'.fr s.res by rw [← hres.out]; exact q3) k3 t3)
        have B6 := Lib.hid (PD5.out.offR (Blk.drew B5.out) k3 (by decide) (by decide) (by decide))
        have O6 := Lib.hid sb.2
        clear q3 k3 t3 sb SB y1 y2 PD5 P5 B5 O5
        have c3 := P6.out.b.cell
        have l3 := P6.out.b.lt
        have z3 := P6.out.b.frozen
        have c6 := B6.out.cell
        have l6 := B6.out.lt
        have c1 := O6.out.cell
        have l1 := O6.out.lt
        have FA : Hid (Fresh w3 (w3.alloc (.cells #[.int .i64 at_, .int .i64 tt] 32)).drew) := Lib.hid ((Keep.refl _ w3).alloc _).drew
        have PA := Lib.hid (P6.out.fresh FA.out)
        have LO : Hid (OwnS (w3.alloc (.cells #[.int .i64 at_, .int .i64 tt] 32)).drew 32 2 (.slice Al lh.length cl) lh.length (hcells lh)) := Lib.hid PA.out.lo
        have S1 : Hid (Src (w3.alloc (.cells #[.int .i64 at_, .int .i64 tt] 32)).drew 2 (.slice (some ⟨w3.heap.size, 0, none⟩) 1 1) 1 (hcells [(at_, tt)])) := Lib.hid (OwnS.new_ (Blk.drew (Blk.new w3 32 #[.int .i64 at_, .int .i64 tt])) (by simp) (by unfold maxLen; omega)).src
        have OB : Hid (Blk (w3.alloc (.cells #[.int .i64 at_, .int .i64 tt] 32)).drew W.heap.size 34 #[.int .i64 0, .int .i64 c, .bool u, .int .i64 v, .int .i64 t, .int .i64 h, .int .i64 y] ∧ Blk (w3.alloc (.cells #[.int .i64 at_, .int .i64 tt] 32)).drew b 32 #[.int .i64 at_, .int .i64 tt]) := Lib.hid ⟨FA.out.blk_ O6.out, FA.out.blk_ B6.out⟩
        have HGP : Hid (W.heap.size ≠ gp ∧ b ≠ gp) := Lib.hid ⟨fun he => by
          have := P6.out.b
          rw [← he] at this
          exact absurd (Blk.ty this O6.out) (by decide), fun he => by
          have := P6.out.b
          rw [← he] at this
          exact absurd (Blk.ty this B6.out) (by decide)⟩
        go_wp2_with fail
        go_cut [] (fun wx => ∃ v5, PD w Fp gp g vs vf' s' gr vl vr' s'.l s'.fr s.res v5 (lh ++ [(at_, tt)]) wx ∧ Blk wx W.heap.size 34 #[.int .i64 0, .int .i64 c, .bool u, .int .i64 v, .int .i64 t, .int .i64 h, .int .i64 y] ∧ Blk wx b 32 #[.int .i64 at_, .int .i64 tt])
        case first =>
          as_aux_lemma =>
            go_region_law ((refine step_append_OwnS _ (by rfl) _ _ 30 (by rfl) 32 i0 (.agg #[.int .i64 0, .int .i64 0]) 2 16 Try.underlying30 hi hz0 hz1 hz2 (by rfl) h02.out (.slice Al lh.length cl) lh.length (hcells lh) (by rfl) LO.out (.slice (some ⟨w3.heap.size, 0, none⟩) 1 1) 1 (hcells [(at_, tt)]) (by rfl) S1.out (hcells_one _) g1 g2 ?_; intro v5 w5 o5 k5 n5; rw [← hcells_append] at o5; have O5' : Hid (OwnS w5 32 2 v5 (lh ++ [(at_, tt)]).length (hcells (lh ++ [(at_, tt)]))) := Lib.hid (by simpa using o5); have S5 := Lib.hid (PA.out.app O5'.out k5 n5); have T5 := Lib.hid (show Blk (w5.setCell ⟨gp, 2, none⟩ v5) W.heap.size 34 #[.int .i64 0, .int .i64 c, .bool u, .int .i64 v, .int .i64 t, .int .i64 h, .int .i64 y] ∧ Blk (w5.setCell ⟨gp, 2, none⟩ v5) b 32 #[.int .i64 at_, .int .i64 tt] from ⟨(OB.out.1.keep k5 (fun he => by have := HLW.out _ he; omega)).far (p := ⟨gp, 2, none⟩) HGP.out.1 _, (OB.out.2.keep k5 (fun he => by have := HLB.out _ he; omega)).far (p := ⟨gp, 2, none⟩) HGP.out.2 _⟩); have b5 := PA.out.b.keep k5 (PA.out.lo.ne_blk PA.out.b (by decide)); have cb5 := b5.cell; have zb5 := b5.frozen; have lb5 := b5.lt; obtain ⟨A5, c5, rfl, _, _⟩ := o5.shape; clear o5 k5 n5 b5 O5'))
            all_goals go_wp2_with fail
            all_goals go_meet
            all_goals exact ⟨_, S5.out, T5.out.1, T5.out.2⟩
        case rest =>
          obtain ⟨v5, hP7, hO7, hB7⟩ := hcut
          have P7 := Lib.hid hP7
          have O7 := Lib.hid hO7
          have B7 := Lib.hid hB7
          clear hP7 hO7 hB7 P6 O6 B6 FA PA LO S1 OB HGP c3 l3 z3 c6 l6 c1 l1
          have c3 := P7.out.b.cell
          have l3 := P7.out.b.lt
          have c6 := B7.out.cell
          have l6 := B7.out.lt
          have LL : Hid ((lh ++ [(at_, tt)]).length ≤ k + 1) := Lib.hid (by simp; omega)
          clear hi hz0 hz1 hz2
          by_cases her : er = 0
          · subst her
            obtain ⟨i, x, rfl, hx, rfl⟩ := TB.out.ok rfl
            have hil := (List.getElem?_eq_some_iff.1 hx).1
            have hlen : s'.l.length = s.l.length := by rw [TB.out.ps.ts.len, HS.out.ts.len]
            obtain ⟨gl, offl, capl, hvl, lgl, _, hcl', hcc⟩ := P7.out.r.ol.form (by omega)
            subst hvl
            have q1 := hcc _ _ (slots_at _ _ _ hx).2.1
            simp only [← Nat.add_assoc] at q1
            have cr := P7.out.r.blk.cell
            have lr := P7.out.r.blk.lt
            have j0 : (0 : Int) ≤ (i : Int) := by omega
            have j1 : (i : Int) < (s'.l.length : Int) := by omega
            clear hcc hx hlen
            go_wp2_with fail
            go_quiet (fail)
            go_wp2_with fail
            go_ret
            exact DoesP.of (s := s') (by rw [hres.out]; exact P7.out.fresh ((Keep.refl _ _).drewN _)) TB.out.ps LL.out
          · obtain ⟨rfl, rfl, rfl⟩ := TB.out.bad her
            have te : (er != 0) = true := by simp [her]
            have te2 : (er == 0) = false := by simp [her]
            clear her
            go_wp2_with fail
            go_ret
            exact DoesP.of P7.out TB.out.ps LL.out
end Go.Proofs.Ytdobhicjhgdhnaa
