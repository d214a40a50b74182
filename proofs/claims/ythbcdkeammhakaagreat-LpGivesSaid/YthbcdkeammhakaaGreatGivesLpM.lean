/- LpGives returns true at every input: an event that was given away, and comes again, is as if it had stayed. No conditions. -/
import Derived.Test.YthbcdkeammhakaaGreatM26
import Derived.Test.YthbcdkeammhakaaGreatM06
import Derived.Deep.DeepCutAuto
namespace Go.Proofs.YthbcdkeammhakaaGreat
open Go.RowKit Go.Shelf
attribute [local go_sem] Oper.semAt_some
attribute [local go_sem ↓] Go.wp_at_zero Go.wp_at_succ
theorem run_eql_seqE (fn : Fn) (a b : Array Value) (w : World) : (binOp .eql 92 (.func fn a b) .nilFunc).run Tryz.prog w = .ok (.bool false) w := by
  kernel_rfl
theorem run_field_ct (a b c d e f g : Value) (w : World) : (Instr.field 81 (.agg #[a, b, c, d, e, f, g]) 0).run Tryz.prog w = .ok a w := by
  kernel_rfl
attribute [local go_sem] run_eql_seqE eq4w run_field_ct
theorem pick_at (a : Int) (n : Nat) (hn : 0 < n) : ∃ j : Nat, j < n ∧ (a.tmod n + n).tmod n = (j : Int) ∧ -(n : Int) < a.tmod n ∧ a.tmod n < n := by
  have h1 : -(n : Int) < a.tmod n := by
    have := Int.lt_tmod_of_pos a (b := (n : Int)) (by omega)
    omega
  have h2 : a.tmod n < n := Int.tmod_lt_of_pos a (by omega)
  refine ⟨((a.tmod n + n).tmod n).toNat, ?_, ?_, h1, h2⟩
  · have h3 := Int.tmod_lt_of_pos (a.tmod n + n) (show (0 : Int) < n by omega)
    have h4 := Int.tmod_nonneg (n : Int) (show 0 ≤ a.tmod n + n by omega)
    omega
  · have h4 := Int.tmod_nonneg (n : Int) (show 0 ≤ a.tmod n + n by omega)
    omega
/-- the loop over the events: what came lies in the box -/
structure GvI (c : LC) (first : St) (A : AM) (n : Nat) (w0 : World) (y : PV) (b0 b1 : Nat) (pre : List Ev) (W : World) : Prop where
  o : OwnP c first A n w0 y W
  b : ∃ v, Blk W b0 24 #[v] ∧ OwnS W 41 7 v pre.length (cells pre) ∧ ∀ k, v.ownBlock = some k → b1 ≤ k
  lt : ∀ k, lfoot y k → k < b0
  sz : w0.heap.size ≤ b0 ∧ b0 < b1
  sw : b1 ≤ W.heap.size
theorem GvI.own {c : LC} {first : St} {A : AM} {n : Nat} {w0 X Y : World} {y : PV} {b0 b1 B : Nat} {pre : List Ev} {row : Option Nat} (hB : w0.heap.size ≤ B) (h : GvI c first A n w0 y b0 b1 pre X) (hg : X.grownBy Y row) (hr : ∀ r, row = some r → B ≤ r ∧ ∃ o : Obj, X.heap[r]? = some o ∧ o.isCells = false) : GvI c first A n w0 y b0 b1 pre Y := by
  have hr' : ∀ r, row = some r → ∃ o : Obj, X.heap[r]? = some o ∧ o.isCells = false := fun r e => (hr r e).2
  obtain ⟨⟨⟨p, h1, h2⟩, hf, hx⟩, ⟨v, h3, h4, h5⟩, h6, h7, h8⟩ := h
  exact ⟨⟨⟨p, h1.grown hg hr', h2⟩, ownFrom_fresh (β := Unit) hB () X Y row hf hg hr, hx⟩, ⟨v, blk_grown h3 hg hr', ownS_grown h4 hg hr', h5⟩, h6, h7, Nat.le_trans h8 hg.size⟩
theorem GvI.fresh {c : LC} {first : St} {A : AM} {n : Nat} {w0 X Y : World} {y : PV} {b0 b1 : Nat} {pre : List Ev} (h : GvI c first A n w0 y b0 b1 pre X) (f : Fresh X Y) : GvI c first A n w0 y b0 b1 pre Y := by
  obtain ⟨v, h3, h4, h5⟩ := h.b
  exact ⟨h.o.fresh f, ⟨v, f.blk_ h3, h4.fresh f, h5⟩, h.lt, h.sz, Nat.le_trans h.sw f.size⟩
theorem OwnP.keepK {c : LC} {first : St} {A : AM} {n : Nat} {w0 W W' : World} {y : PV} {S : Nat → Prop} (h : OwnP c first A n w0 y W) (k : Keep S W W') (hS : ∀ i, S i → w0.heap.size ≤ i ∧ ¬ lfoot y i) : OwnP c first A n w0 y W' := by
  obtain ⟨p, h1, h2⟩ := h.r
  exact ⟨⟨p, h1.kept k (fun i h3 h4 => (hS i h4).2 h3), h2⟩, h.f.step k (fun i hi hs => by have := (hS i hs).1; omega), h.x⟩
set_option maxRecDepth 100000 in
set_option maxHeartbeats 8000000 in
theorem lpgives_any (c : LC) (first : St) (wh : Int) (A B : Option Addr) (cA cB : Nat) (l : List Ev) (os : List LOp) (w : World) (h : EvAt w (.slice A l.length cA) l) (hl : l.length ≤ 9223372036854775807) (ho : LOps w B os) (hn : os.length ≤ 9223372036854775807) : Law Tryz.prog 10 #[.agg (jarr c first (.slice A l.length cA)), .slice B os.length cB, .int .i64 wh] w := by
  unfold Law
  have F0 : Fresh w (w.alloc (.cells (jarr c first (.slice A l.length cA)) 26)) := (Keep.refl _ w).alloc _
  have HE := Lib.hid (early_any c first A B cA cB l os _ (h.fresh F0) hl (ho.fresh F0) hn)
  have FF := Lib.hid F0
  unfold jarr at HE FF ⊢
  clear h ho F0 hl hn
  refine (callsIn_wide (n := 6)).1 ?_
  refine callsIn_of_wp_marks Tryz.func10 rfl trivial ?_ rfl
  simp only [Tryz.ntmps10, List.size_toArray, List.length_cons, List.length_nil, Nat.reduceAdd, Nat.reduceSub, Array.replicate_succ, Array.replicate_zero, List.push_toArray, List.append_toArray, List.nil_append, List.cons_append]
  refine wpIn_wide.2 ?_
  go_wp2_with fail
  refine HE.out.mono ?_
  rintro e w1 (⟨rfl, f1⟩ | ⟨y, A1, rfl, o1, ea, hm⟩)
  · have F1 : Hid (Fresh w w1) := Lib.hid (FF.out.step f1 (fun _ _ h => h))
    clear f1 HE FF
    go_wp2_with (go_at_call 13; (with_reducible refine (awake_any _).mono ?_); rintro e w3 ⟨rfl, f3⟩; have F3 : Hid (Fresh w w3) := Lib.hid (F1.out.step f3 (fun _ _ h => h)); clear f3)
    exact ⟨_, results_tmp rfl _ _ _, rfl, Fresh.below_ F3.out (Nat.le_refl _)⟩
  · have O1 : Hid (OwnP c first A1 os.length w y w1) := Lib.hid ⟨o1.r, FF.out.step o1.f (fun _ _ h => h), fun k hk => Nat.le_trans FF.out.size (o1.x k hk)⟩
    have EA := Lib.hid ea
    have HM := Lib.hid hm
    obtain ⟨g1, hg1⟩ : ∃ g1, y.g = g1 := ⟨_, rfl⟩
    have HG1 := Lib.hid hg1
    have HEV : Hid (∀ W, Fresh w1 W → Calls Tryz.prog 41 #[.pointer (some ⟨g1, 0, none⟩)] W (SeqP A1.l W)) := Lib.hid fun W f => by
      obtain ⟨p, hp1, hp2⟩ := (O1.out.fresh f).r
      have := levents_any c y p W hp1 (by rw [hp2.l_all ea.1]; have := hp2.al; omega)
      rw [hg1, hp2.l_all ea.1] at this
      exact this
    have HLL : Hid (A1.l.length ≤ 82) := Lib.hid (by
      obtain ⟨p, hp1, hp2⟩ := O1.out.r
      have := hp2.al
      omega)
    rw [hg1]
    clear o1 ea hm hg1 HE FF
    unfold SeqP seqV at HEV
    go_wp2_with (go_at_call 41; (with_reducible refine (HEV.out _ (by (repeat (first | (with_reducible exact Keep.refl _ _) | (with_reducible assumption) | (with_reducible refine Keep.drew ?_) | (with_reducible refine Keep.drewN ?_ _) | (with_reducible refine Keep.alloc ?_ _) | (with_reducible refine Keep.setCell ?_ ?_ _) | (with_reducible refine fun _ => rfl))))).mono ?_); rintro e w3 ⟨b3, v3, rfl, b3b, o3, f3⟩; have B3 := Lib.hid b3b; have V3 := Lib.hid o3; have F3 : Hid (Fresh w1 w3) := Lib.hid (Keep.step (S := fun _ => False) (((Keep.refl (fun _ => False) w1).alloc (.cells #[.slice none 0 0] 24)) : Fresh w1 _) f3 (fun _ _ h => h)); have X3 := Lib.hid (f3.blk_ (Blk.new w1 24 #[.slice none 0 0])); clear b3b o3 f3)
    have hgb : Hid (Fresh w1 w3) := F3
    have T0 : Hid (GvI c first A1 os.length w y w1.heap.size w3.heap.size [] w3) := Lib.hid ⟨O1.out.fresh F3.out, ⟨.slice none 0 0, X3.out, OwnS.nil _ _ _, fun k hk => by simp [Value.ownBlock] at hk⟩, fun k hk => O1.out.lt k hk, ⟨O1.out.f.size, X3.out.lt⟩, Nat.le_refl _⟩
    obtain ⟨b0, hb0⟩ : ∃ b0, w1.heap.size = b0 := ⟨_, rfl⟩
    have hb3 : b0 < w3.heap.size := by have := X3.out.lt; omega
    have hwb : w.heap.size ≤ b0 := by have := O1.out.f.size; omega
    rw [hb0] at T0 ⊢
    have hbk : bk v3 < w3.heap.size := by
      unfold bk
      cases hv : v3.ownBlock with
      | none => simp; omega
      | some k => simpa using V3.out.lt hv
    have FW := Lib.hid O1.out.f.size
    clear HEV X3 F3 hgb O1 hb0
    obtain ⟨i0, hi9, hz0, hz1, hz2⟩ := info_parts info_ev
    have hl82 := HLL.out
    refine (wpIn_wide (n := 6)).1 ?_
    refine wpIn_rangeFunc_ownH rfl (by omega) (gf := 143) (lb := #[.pointer (some ⟨b3, 0, none⟩)]) rfl trivial (enters_of Tryz.func143 (by kernel_rfl) rfl)
      (vals_stops Fence.wide (6 - 1) trivial rfl (by omega) b3 v3 A1.l (by omega) w3 B3.out V3.out) keepsB_t keepsB_b (Below.refl _ _) (fun _ => rfl)
      (GvI c first A1 os.length w y b0 w3.heap.size) (fun _ _ _ => False) (fun pre X Y row hs hg hr => hs.own (by omega) hg hr) (fun _ _ _ _ _ hs _ _ => hs)
      T0.out
      (fun z a' W => ∃ Bx, Blk W Bx 41 #[.int .i64 z.a, .int .i64 z.s, .int .i64 z.t, .int .i64 z.n, .int .i64 z.d, .int .i64 z.k, .int .i64 z.x] ∧ a' = { tmps := #[.agg #[.int .i64 c.md, .int .i64 c.id, .int .i64 first.s0, .int .i64 first.s1, .int .i64 first.s2, .int .i64 first.s3, .int .i64 c.every, .bool c.lz, .slice A l.length cA], .slice B os.length cB, .int .i64 wh, .pointer (some ⟨w.heap.size, 0, none⟩), undef, undef, .bool false, .pointer (some ⟨g1, 0, none⟩), .pointer (some ⟨b0, 0, none⟩), .func (.func 143) #[] #[.pointer (some ⟨b3, 0, none⟩)], .pointer (some ⟨Bx, 0, none⟩), undef, undef, undef, undef, undef, undef, undef, undef, undef, undef, undef, undef, undef, undef, undef, undef, .agg #[.int .i64 c.md, .int .i64 c.id, .int .i64 first.s0, .int .i64 first.s1, .int .i64 first.s2, .int .i64 first.s3, .int .i64 c.every, .bool c.lz, .slice A l.length cA], .slice B os.length cB, .pointer (some ⟨g1, 0, none⟩), .pointer (some ⟨g1, 0, none⟩), .bool false, undef, .pointer (some ⟨g1, 0, none⟩), .func (.func 143) #[] #[.pointer (some ⟨b3, 0, none⟩)], .func (.func 143) #[] #[.pointer (some ⟨b3, 0, none⟩)], .bool false, .func (.func 143) #[] #[.pointer (some ⟨b3, 0, none⟩)], .agg #[.int .i64 z.a, .int .i64 z.s, .int .i64 z.t, .int .i64 z.n, .int .i64 z.d, .int .i64 z.k, .int .i64 z.x], undef, undef, undef, undef, undef, undef, undef, undef, undef, undef, undef, undef, undef, undef, undef, undef, undef, undef, undef, undef, undef, undef, undef, undef, undef, undef, undef, undef, undef, undef, undef, undef, undef, undef, undef, undef, undef, undef, undef, undef, undef, undef, undef, undef, undef, undef, undef, undef, undef, undef, undef, undef, undef, undef, undef, undef, undef, undef, undef, undef, undef, undef, undef, undef, undef, undef, undef, undef, undef, undef, undef, undef, undef, undef, undef, undef, undef, undef, undef, undef, undef, undef, undef, undef, undef, undef, undef, undef, undef, undef, undef, undef, undef, undef, undef, undef, undef, undef, undef, undef, undef, undef, undef, undef, undef, undef, undef, undef, undef, undef, undef, undef], defers := [] }) ?ax ?assign ?body ?done ?stop
    case ax =>
      rintro x a' u X Y row ⟨Bx, h2, h3⟩ hg hr
      exact ⟨Bx, blk_grown h2 hg (fun r e => (hr r e).2), h3⟩
    case assign =>
      rintro lp pre z W K f hK
      unfold enc Ev.val
      gi_wp2
      refine hK _ _ ((KeepsOthers.alloc _ _).from _) ((KeepsB.refl _ _ _).alloc _) (f.fresh ((Keep.refl _ _).alloc _)) ⟨W.heap.size, Blk.new W _ _, rfl⟩
    case body =>
      rintro lp pre z a' W hlp hrec ⟨of, ⟨v2, b2, o2, n2⟩, lt2, sz2, sw2⟩ ⟨Bx, bx, rfl⟩ hlt
      obtain ⟨A2, cap2, rfl, _, _⟩ := o2.shape
      have c2 := b2.cell
      have r2 := b2.frozen
      have l2 := b2.lt
      have cX := bx.cell
      have ne2 := o2.ne_blk b2 (by decide)
      have HC : Hid (Src (W.alloc (.cells #[.int .i64 z.a, .int .i64 z.s, .int .i64 z.t, .int .i64 z.n, .int .i64 z.d, .int .i64 z.k, .int .i64 z.x] 41)) 7 (.slice (some ⟨W.heap.size, 0, none⟩) 1 1) 1 (cells [z])) := Lib.hid (Src.one_new W 41 7 #[.int .i64 z.a, .int .i64 z.s, .int .i64 z.t, .int .i64 z.n, .int .i64 z.d, .int .i64 z.k, .int .i64 z.x] rfl)
      have h07 : Hid (0 < 7) := Lib.hid (by omega)
      have hL1 := Lib.hid (show pre.length + 1 ≤ maxLen from one_le_maxLen (by omega))
      have hL2 := Lib.hid (show (pre.length + 1) * 56 ≤ 140737488355328 by omega)
      have U1 := Lib.hid b2
      have U2 := Lib.hid o2
      have U3 := Lib.hid n2
      have U4 := Lib.hid of
      have U5 := Lib.hid ne2
      have U6 := Lib.hid lt2
      have U7 := Lib.hid sz2
      have U8 := Lib.hid sw2
      clear b2 o2 n2 of ne2 bx hrec lt2 sz2 sw2
      gi_wp2_with (gi_at_builtin; refine wpListIn_append_OwnS _ rfl _ _ 24 rfl 41 i0 _ 7 56 Tryz.underlying24 hi9 hz0 hz1 hz2 rfl h07.out (.slice A2 pre.length cap2) pre.length (cells pre) rfl (U2.out.alloc _) (.slice (some ⟨W.heap.size, 0, none⟩) 1 1) 1 (cells [z]) rfl HC.out (cells_one _) hL1.out hL2.out ?_; intro v4 w4 o4 k4 n4; obtain ⟨A3, cap3, rfl, _, _⟩ := o4.shape; have b4 := (U1.out.alloc (.cells #[.int .i64 z.a, .int .i64 z.s, .int .i64 z.t, .int .i64 z.n, .int .i64 z.d, .int .i64 z.k, .int .i64 z.x] 41)).keep k4 U5.out; have c3 := b4.cell; have r3 := b4.frozen; have l3 := b4.lt; have W1 := Lib.hid b4; have W2 := Lib.hid o4; have W3 := Lib.hid k4; have W4 := Lib.hid n4; clear b4 o4 k4 n4)
      have K1 : Keep (fun k => k = b0 ∨ (Value.slice A2 pre.length cap2).ownBlock = some k) W (w4.setCell ⟨b0, 0, none⟩ (.slice A3 (pre.length + 1) cap3)) :=
        (((Keep.refl _ W).alloc _).step W3.out (fun _ _ h => .inr h)).setCell (fun _ => .inl rfl) _
      refine ⟨(keepsOthers_of_keep K1 ?_).from _, KeepsB.of_keep' K1 ?_, ⟨U4.out.keepK K1 ?_, ⟨.slice A3 (pre.length + 1) cap3, W1.out.set_ 0 _, ?_, ?_⟩, U6.out, U7.out, Nat.le_trans U8.out K1.size⟩⟩
      · rintro k o (rfl | hk) ho
        · exact blk_isCells U1.out ho
        · exact own_isCells U2.out hk ho
      · rintro cur hcur (h | h)
        · rw [h] at hcur
          have := U1.out
          unfold Blk at this
          rw [this] at hcur
          cases hcur
        · have := U3.out _ h
          omega
      · rintro i (h | h)
        · exact ⟨by omega, fun hf => by have := U6.out i hf; omega⟩
        · have := U3.out _ h
          exact ⟨by omega, fun hf => by have := U6.out i hf; omega⟩
      · have := W2.out.far (p := ⟨b0, 0, none⟩) (W2.out.ne_blk W1.out (by decide)) (.slice A3 (pre.length + 1) cap3)
        rw [List.length_append, cells_append]
        exact this
      · intro k hk
        rcases W4.out k hk with h | h
        · exact U3.out k h
        · have := U8.out
          simp at h
          omega
    case done =>
      rintro D ys W hD rfl ⟨of, ⟨v2, b2, o2, n2⟩, lt2, sz2, sw2⟩ hK
      have O2 := Lib.hid of
      have HK := Lib.hid hK
      have OD : Hid (OffB y D W) := Lib.hid (of.offD hK)
      have hev := o2.evs
      obtain ⟨A2, cap2, rfl, _, _⟩ := o2.shape
      have c2 := b2.cell
      have l2 := b2.lt
      have FA := Lib.hid of.f
      clear of n2 lt2 sz2 sw2 hK T0
      by_cases h0 : A1.l.length = 0
      · have t0 : ((A1.l.length : Int) == 0) = true := by rw [h0]; rfl
        have KF : Hid (∀ W', Fresh W W' → W'.heap[D]? = some (.deferred (some []))) := Lib.hid fun W' f => (f.block D OD.out.2 (fun h => h)).trans HK.out
        clear b2 o2 hev
        go_wp2_with (go_at_call 13; (with_reducible refine (awake_any _).mono ?_); rintro e w9 ⟨rfl, f9⟩; have F9 : Hid (Fresh W w9) := Lib.hid f9; clear f9)
        refine ⟨by simp, .inl ⟨_, _, rfl, run_takeDeferred (KF.out _ F9.out), ?_⟩⟩
        exact ⟨_, results_tmp rfl _ _ _, rfl, Fresh.below_ (ownFrom_fresh (β := Unit) (Nat.le_refl _) () _ _ _ (FA.out.step F9.out (fun _ _ h => h)) (grownBy_putObj' w9 D (.deferred none)) (fun r e => by cases e; exact ⟨by have := FW.out; omega, _, KF.out _ F9.out, rfl⟩)) (Nat.le_refl _)⟩
      · have t0 : ((A1.l.length : Int) == 0) = false := by rw [beq_eq_false_iff_ne]; omega
        obtain ⟨j, hj, ej, bb1, bb2⟩ := pick_at wh A1.l.length (by omega)
        obtain ⟨x, hx⟩ : ∃ x, A1.l[j]? = some x := ⟨_, List.getElem?_eq_getElem hj⟩
        obtain ⟨A', c', hv, hAt⟩ := hev
        obtain ⟨bb, off, hA, ltb, hO⟩ := hAt j x hx
        injection hv with hv1 _ hv2
        rw [hA] at hv1
        subst hv1 hv2
        have HX := Lib.hid (List.mem_of_getElem? hx)
        have t3 : ¬ (A1.l.length : Int) = 0 := by omega
        have t4 : ¬ A1.l = [] := by
          intro h
          rw [h] at h0
          simp at h0
        have j0 : (0 : Int) ≤ (j : Int) := by omega
        have j1 : (j : Int) < (A1.l.length : Int) := by omega
        obtain ⟨TM, hTM⟩ : ∃ TM, wh.tmod (A1.l.length : Int) = TM := ⟨_, rfl⟩
        rw [hTM] at ej bb1 bb2
        have ws : IntKind.i64.wrap (TM + (A1.l.length : Int)) = TM + (A1.l.length : Int) := IntWalk.i64_in _ (by omega)
        have x0 := hO 0 _ rfl
        have x1 := hO 1 _ rfl
        have x2 := hO 2 _ rfl
        have x3 := hO 3 _ rfl
        have x4 := hO 4 _ rfl
        have x5 := hO 5 _ rfl
        have x6 := hO 6 _ rfl
        rw [Nat.add_zero] at x0
        clear hAt hO hx hA b2 o2
        go_wp2_with fail
        go_cut [12] from 27 to 57 (fun u12 wx => u12 = .pointer (some ⟨W.heap.size, 0, none⟩) ∧ Fresh W wx ∧ Blk wx W.heap.size 41 #[.int .i64 x.a, .int .i64 x.s, .int .i64 x.t, .int .i64 x.n, .int .i64 x.d, .int .i64 x.k, .int .i64 x.x])
        case first =>
          go_region
          go_wp2_with fail
          go_meet
          exact ⟨rfl, ((Keep.refl _ W).alloc _).drew, Blk.new W _ _⟩
        case rest =>
          obtain ⟨rfl, hx6, bx5⟩ := hcut
          clear c2 l2 x0 x1 x2 x3 x4 x5 x6 t0 t3 t4 j0 j1 ws ej bb1 bb2
          have O5 := Lib.hid (O2.out.fresh hx6)
          have BX5 := Lib.hid bx5
          have D5 : Hid (OffB y D wc) := Lib.hid (OD.out.fresh hx6)
          have K5 : Hid (wc.heap[D]? = some (.deferred (some []))) := Lib.hid ((hx6.block D OD.out.2 (fun h => h)).trans HK.out)
          have X5 : Hid (OffB y W.heap.size wc) := Lib.hid (O2.out.offG (Nat.le_refl _) bx5.lt)
          obtain ⟨gx, hgx⟩ : ∃ gx, W.heap.size = gx := ⟨_, rfl⟩
          rw [hgx] at BX5 X5 ⊢
          have hn60 := HM.out
          clear hx6 bx5 hgx
          have HCP : Hid (Calls Tryz.prog 33 #[.pointer (some ⟨g1, 0, none⟩)] wc fun e w' => ∃ y', e = .returned (.pointer (some ⟨y'.g, 0, none⟩)) ∧ TwoP c c first A1 os.length A1 os.length w y y' w' ∧ Fresh wc w' ∧ ∀ k, k < wc.heap.size → ¬ lfoot y' k) := Lib.hid (O5.out.copy HG1.out (by omega))
          go_upto_region 18 with (go_at_call 33; (with_reducible refine HCP.out.mono ?_); rintro e w6 ⟨y2, rfl, t6, f6, n6⟩; have T6 := Lib.hid t6; have F6 := Lib.hid f6; have N6 := Lib.hid n6; clear t6 f6 n6)
          obtain ⟨p6, hp6, hr6⟩ := T6.out.p.r
          have GT := give_take (C := cfg c first) hr6.inv HX.out EA.out
          have HSX : Hid (SmE x) := Lib.hid (hr6.inv.ev x HX.out).1
          clear hp6 hr6 p6
          have D6p : Hid (OffB y D w6) := Lib.hid (D5.out.fresh F6.out)
          have D6q : Hid (OffB y2 D w6) := Lib.hid ⟨N6.out D D5.out.2, D6p.out.2⟩
          have K6 : Hid (w6.heap[D]? = some (.deferred (some []))) := Lib.hid ((F6.out.block D D5.out.2 (fun h => h)).trans K5.out)
          have X6q : Hid (OffB y2 gx w6) := Lib.hid ⟨N6.out gx X5.out.2, Nat.lt_of_lt_of_le X5.out.2 F6.out.size⟩
          have BX6 := Lib.hid (F6.out.blk_ BX5.out)
          have cx6 := BX6.out.cell
          have HGV := T6.out.q.give rfl (by omega) x
          obtain ⟨⟨B1, M1, E1, er1⟩, hGA⟩ : ∃ a, givA (cfg c first) A1 x = a := ⟨_, rfl⟩
          rw [hGA] at HGV GT
          simp only at GT
          obtain ⟨g1a, g1b, g1c, g1d, g1e, g1f⟩ := GT
          subst g1a
          have HGV : Hid (Calls Tryz.prog 42 #[.pointer (some ⟨y2.g, 0, none⟩), .agg #[.int .i64 x.a, .int .i64 x.s, .int .i64 x.t, .int .i64 x.n, .int .i64 x.d, .int .i64 x.k, .int .i64 x.x]] w6 (LpP c first y2 ⟨B1, M1, E1, 0⟩ (os.length + 1) w6)) := Lib.hid HGV
          have LB : Hid ((B1.l.length : Int) = (A1.l.length : Int) - 1) := Lib.hid (by omega)
          have FB := Lib.hid g1c
          have TE := Lib.hid g1d
          have TL := Lib.hid g1e
          have TF := Lib.hid g1f
          clear hGA g1b g1c g1d g1e g1f O5 D5 X5 K5 BX5 F6 N6
          go_upto_region 19 with (go_at_call 42; (with_reducible refine HGV.out.mono ?_); rintro e w7 ⟨va7, rfl, m7, y3, p7, s7, t7, r7⟩; have T7 : Hid (TwoP c c first A1 os.length B1 (os.length + 1) w y y3 w7) := Lib.hid (T6.out.turnQ t7 ⟨p7, s7, r7⟩); have L7 := Lib.hid t7; clear m7 s7 t7 r7)
          have G7 : Hid (y3.g = y2.g) := Lib.hid L7.out.g
          have D7p : Hid (OffB y D w7) := Lib.hid (D6p.out.more L7.out.keep.size)
          have D7q : Hid (OffB y3 D w7) := Lib.hid (D6q.out.turn L7.out)
          have K7 : Hid (w7.heap[D]? = some (.deferred (some []))) := Lib.hid ((D6q.out.at_ L7.out).trans K6.out)
          have X7q : Hid (OffB y3 gx w7) := Lib.hid (X6q.out.turn L7.out)
          have BX7 := Lib.hid (X6q.out.blk L7.out BX6.out)
          clear cx6 D6p D6q K6 X6q BX6 T6 L7 HGV
          go_upto_region 20 with (go_at_call 35; (with_reducible refine (T7.out.q.count G7.out (by omega) FB.out).mono ?_); rintro e w8 ⟨⟨n1, n2, n3, n4, n5, n6, rfl⟩, f8⟩; have F8 := Lib.hid f8; clear f8)
          have W8e : Hid (Fresh w7 (w8.alloc (.cells #[.int .i64 B1.l.length, .int .i64 n1, .int .i64 n2, .int .i64 n3, .int .i64 n4, .int .i64 n5, .int .i64 n6] 81))) := Lib.hid (F8.out.alloc _)
          have bc8 : Blk (w8.alloc (.cells #[.int .i64 B1.l.length, .int .i64 n1, .int .i64 n2, .int .i64 n3, .int .i64 n4, .int .i64 n5, .int .i64 n6] 81)) w8.heap.size 81 #[.int .i64 B1.l.length, .int .i64 n1, .int .i64 n2, .int .i64 n3, .int .i64 n4, .int .i64 n5, .int .i64 n6] := Blk.new w8 _ _
          obtain ⟨w9, hw9⟩ : ∃ w9, w8.alloc (.cells #[.int .i64 B1.l.length, .int .i64 n1, .int .i64 n2, .int .i64 n3, .int .i64 n4, .int .i64 n5, .int .i64 n6] 81) = w9 := ⟨_, rfl⟩
          rw [hw9] at W8e bc8 ⊢
          have T9 := Lib.hid (T7.out.fresh W8e.out)
          have D9p : Hid (OffB y D w9) := Lib.hid (D7p.out.fresh W8e.out)
          have D9q : Hid (OffB y3 D w9) := Lib.hid (D7q.out.fresh W8e.out)
          have K9 : Hid (w9.heap[D]? = some (.deferred (some []))) := Lib.hid ((W8e.out.block D D7q.out.2 (fun h => h)).trans K7.out)
          have BX9 := Lib.hid (W8e.out.blk_ BX7.out)
          have C9 : Hid (OffB y3 w8.heap.size w9) := Lib.hid ((T7.out.fresh F8.out).q.offG (Nat.le_refl _) bc8.lt)
          have BC9 := Lib.hid bc8
          have cx9 := BX9.out.cell
          obtain ⟨gc, hgc⟩ : ∃ gc, w8.heap.size = gc := ⟨_, rfl⟩
          rw [hgc] at C9 BC9 ⊢
          clear hw9 bc8 W8e F8 T7 D7p D7q K7 X7q BX7 hgc
          have HTK := T9.out.q.take G7.out (by omega) x false HSX.out
          obtain ⟨⟨B2, M2, E2, er2⟩, hTA⟩ : ∃ a, takA (cfg c first) B1 x false = a := ⟨_, rfl⟩
          rw [hTA] at HTK TE TL TF
          obtain rfl : er2 = 0 := TE.out
          have HTK : Hid (Calls Tryz.prog 36 #[.pointer (some ⟨y2.g, 0, none⟩), .agg #[.int .i64 x.a, .int .i64 x.s, .int .i64 x.t, .int .i64 x.n, .int .i64 x.d, .int .i64 x.k, .int .i64 x.x, .bool false]] w9 (LpP c first y3 ⟨B2, M2, E2, 0⟩ (os.length + 1 + 1) w9)) := Lib.hid HTK
          have TL : Hid (B2.l = A1.l) := Lib.hid TL.out
          have TF : Hid (B2.freed = 0) := Lib.hid TF.out
          clear hTA TE
          go_upto_region 21 with (go_at_call 36; (with_reducible refine HTK.out.mono ?_); rintro e w10 ⟨va10, rfl, m10, y4, p10, s10, t10, r10⟩; have T10 : Hid (TwoP c c first A1 os.length B2 (os.length + 1 + 1) w y y4 w10) := Lib.hid (T9.out.turnQ t10 ⟨p10, s10, r10⟩); have L10 := Lib.hid t10; clear m10 s10 t10 r10)
          have G10 : Hid (y4.g = y2.g) := Lib.hid (L10.out.g.trans G7.out)
          have D10p : Hid (OffB y D w10) := Lib.hid (D9p.out.more L10.out.keep.size)
          have D10q : Hid (OffB y4 D w10) := Lib.hid (D9q.out.turn L10.out)
          have K10 : Hid (w10.heap[D]? = some (.deferred (some []))) := Lib.hid ((D9q.out.at_ L10.out).trans K9.out)
          have bc10 := C9.out.blk L10.out BC9.out
          have cc10 := bc10.cell
          have lc10 := bc10.lt
          have ws1 : IntKind.i64.wrap ((A1.l.length : Int) - 1) = (B1.l.length : Int) := (IntWalk.i64_in _ (by have := LB.out; omega)).trans LB.out.symm
          have HCT := T10.out.q.count G10.out (by omega) TF.out
          rw [TL.out] at HCT
          have HCT := Lib.hid HCT
          clear bc10 cx9 D9p D9q K9 C9 BC9 BX9 T9 L10 HTK
          go_upto_region 23 with (go_at_call 35; (with_reducible refine HCT.out.mono ?_); rintro e w11 ⟨⟨n1', n2', n3', n4', n5', n6', rfl⟩, f11⟩; have F11 := Lib.hid f11; clear f11)
          have T11 := Lib.hid (T10.out.fresh F11.out)
          have D11p := Lib.hid (D10p.out.fresh F11.out)
          have D11q := Lib.hid (D10q.out.fresh F11.out)
          have K11 : Hid (w11.heap[D]? = some (.deferred (some []))) := Lib.hid ((F11.out.block D D10q.out.2 (fun h => h)).trans K10.out)
          clear cc10 lc10 ws1 T10 D10p D10q K10 F11 HCT
          obtain ⟨pa, hpa, hra⟩ := T11.out.p.r
          obtain ⟨pb, hpb, hrb⟩ := T11.out.q.r
          have ES := end_same hra.laws hra.okf hra.inv hrb.inv TL.out (TF.out.trans EA.out.1.symm)
          have QA := (end_inv hra.laws hra.okf hra.inv).2.2
          have QL := end_qlen hra.laws hra.okf hra.inv
          have HEA := T11.out.p.ends HG1.out (by omega)
          obtain ⟨⟨Z1, MA⟩, hZ1⟩ : ∃ a, endA (cfg c first) A1 = a := ⟨_, rfl⟩
          obtain ⟨⟨Z2, MB⟩, hZ2⟩ : ∃ a, endA (cfg c first) B2 = a := ⟨_, rfl⟩
          rw [hZ1] at ES QA QL HEA
          rw [hZ2] at ES
          have HZ2 := Lib.hid hZ2
          have HEA := Lib.hid HEA
          have ES := Lib.hid ES
          have QA := Lib.hid QA
          have QL := Lib.hid QL
          clear hpa hra hpb hrb pa pb hZ1 hZ2
          go_upto_region 24 with (go_at_call 31; (with_reducible refine HEA.out.mono ?_); rintro e w12 ⟨va12, rfl, m12, y5, p12, s12, t12, r12⟩; have T12 : Hid (TwoP c c first Z1 os.length B2 (os.length + 1 + 1) w y5 y4 w12) := Lib.hid (T11.out.turnP t12 ⟨p12, s12, r12⟩); have L12 := Lib.hid t12; clear m12 s12 t12 r12)
          have G12 : Hid (y5.g = g1) := Lib.hid (L12.out.g.trans HG1.out)
          have D12p : Hid (OffB y5 D w12) := Lib.hid (D11p.out.turn L12.out)
          have D12q : Hid (OffB y4 D w12) := Lib.hid (D11q.out.more L12.out.keep.size)
          have K12 : Hid (w12.heap[D]? = some (.deferred (some []))) := Lib.hid ((D11p.out.at_ L12.out).trans K11.out)
          have HEB := T12.out.q.ends G10.out (by omega)
          rw [HZ2.out] at HEB
          have HEB := Lib.hid HEB
          clear D11p D11q K11 T11 L12 HEA HZ2
          go_upto_region 25 with (go_at_call 31; (with_reducible refine HEB.out.mono ?_); rintro e w13 ⟨va13, rfl, m13, y6, p13, s13, t13, r13⟩; have T13 : Hid (TwoP c c first Z1 os.length Z2 (os.length + 1 + 1) w y5 y6 w13) := Lib.hid (T12.out.turnQ t13 ⟨p13, s13, r13⟩); have L13 := Lib.hid t13; clear m13 s13 t13 r13)
          have G13 : Hid (y6.g = y2.g) := Lib.hid (L13.out.g.trans G10.out)
          have D13 : Hid (OffB y6 D w13) := Lib.hid (D12q.out.turn L13.out)
          have K13 : Hid (w13.heap[D]? = some (.deferred (some []))) := Lib.hid ((D12q.out.at_ L13.out).trans K12.out)
          have SU := Lib.hid (sureL_end QA.out)
          have HRA : Hid (∀ W', Fresh w13 W' → Calls Tryz.prog 24 #[.pointer (some ⟨g1, 0, none⟩)] W' (RecQ Z1.q W')) := Lib.hid fun W' f => (T13.out.fresh f).p.recs G12.out (by have := QL.out; have := HLL.out; omega)
          have HRB : Hid (∀ W', Fresh w13 W' → Calls Tryz.prog 24 #[.pointer (some ⟨y2.g, 0, none⟩)] W' (RecQ Z1.q W')) := Lib.hid fun W' f => by
            have := (T13.out.fresh f).q.recs G13.out (by rw [ES.out.2.2]; have := QL.out; have := HLL.out; omega)
            rw [ES.out.2.2] at this
            exact this
          have HSL : Hid ((evs Z1.q).length ≤ 1000000) := Lib.hid (by
            have h1 := QL.out
            have h2 := HLL.out
            have h3 : (evs Z1.q).length = Z1.q.length := by simp [evs]
            omega)
          unfold RecQ at HRA HRB
          rw [SU.out.1, SU.out.2] at HRA HRB
          have F13 : Hid (Fresh w13 w13) := Lib.hid (Keep.refl _ _)
          clear D12p D12q K12 T12 L13 HEB
          go_upto_region 27 with (first
            | (go_at_call 24; (with_reducible refine (HRA.out _ F13.out).mono ?_); rintro e w14 ⟨vr1, vr2, rfl, o14, o14b, f14, n14, n14b, d14⟩; have F13 : Hid (Fresh w13 w14) := Lib.hid (F13.out.step f14 (fun _ _ h => h)); have V14 := Lib.hid o14; have V14b := Lib.hid o14b; clear o14 o14b f14 n14 n14b d14)
            | (go_at_call 24; (with_reducible refine (HRB.out _ F13.out).mono ?_); rintro e w15 ⟨vr3, vr4, rfl, o15, o15b, f15, n15, n15b, d15⟩; have F15 : Hid (Fresh w14 w15) := Lib.hid f15; have F13 : Hid (Fresh w13 w15) := Lib.hid (F13.out.step f15 (fun _ _ h => h)); have V15 := Lib.hid o15; have V15b := Lib.hid o15b; clear o15 o15b f15 n15 n15b d15))
          have V14e : Hid (EvAt w15 vr1 (evs Z1.q)) := Lib.hid ((V14.out.fresh F15.out).evs)
          have V15e : Hid (EvAt w15 vr3 (evs Z1.q)) := Lib.hid V15.out.evs
          obtain ⟨Ab, cb, rfl, _, _⟩ := V14b.out.shape
          obtain ⟨Ac, cc, rfl, _, _⟩ := V15b.out.shape
          have T15 := Lib.hid (T13.out.fresh F13.out)
          have D15 : Hid (OffB y6 D w15) := Lib.hid (D13.out.fresh F13.out)
          have K15 : Hid (w15.heap[D]? = some (.deferred (some []))) := Lib.hid ((F13.out.block D D13.out.2 (fun h => h)).trans K13.out)
          have HS1 : Hid (∀ W', Fresh w15 W' → Calls Tryz.prog 18 #[.pointer (some ⟨g1, 0, none⟩)] W' fun e w' => e = .returned (Z1.fold (cfg c first)).2.1.val ∧ Fresh w15 w') := Lib.hid fun W' f => ((T15.out.fresh f).p.state G12.out).mono fun e w' hh => ⟨hh.1, f.step hh.2 (fun _ _ h => h)⟩
          have HS2 : Hid (∀ W', Fresh w15 W' → Calls Tryz.prog 18 #[.pointer (some ⟨y2.g, 0, none⟩)] W' fun e w' => e = .returned (Z1.fold (cfg c first)).2.1.val ∧ Fresh w15 w') := Lib.hid fun W' f => ((T15.out.fresh f).q.state G13.out).mono fun e w' hh => ⟨by rw [← ES.out.1]; exact hh.1, f.step hh.2 (fun _ _ h => h)⟩
          have HN1 : Hid (∀ W', Fresh w15 W' → Calls Tryz.prog 19 #[.pointer (some ⟨g1, 0, none⟩)] W' fun e w' => e = .returned (.int .i64 Z1.now) ∧ Fresh w15 w') := Lib.hid fun W' f => ((T15.out.fresh f).p.now G12.out).mono fun e w' hh => ⟨hh.1, f.step hh.2 (fun _ _ h => h)⟩
          have HN2 : Hid (∀ W', Fresh w15 W' → Calls Tryz.prog 19 #[.pointer (some ⟨y2.g, 0, none⟩)] W' fun e w' => e = .returned (.int .i64 Z1.now) ∧ Fresh w15 w') := Lib.hid fun W' f => ((T15.out.fresh f).q.now G13.out).mono fun e w' hh => ⟨by rw [← ES.out.2.1]; exact hh.1, f.step hh.2 (fun _ _ h => h)⟩
          have HV : Hid (∀ W', Fresh w15 W' → Calls Tryz.prog 17 #[vr1, vr3] W' fun e w' => e = .returned (.bool true) ∧ Fresh w15 w') := Lib.hid fun W' f => by
            refine (events_any vr1 vr3 (evs Z1.q) (evs Z1.q) W' (V14e.out.fresh f) (V15e.out.fresh f) HSL.out HSL.out).mono fun e w' hh => ⟨?_, f.step hh.2 (fun _ _ h => h)⟩
            rw [hh.1, decide_eq_true rfl]
          have HAW : Hid (∀ W', Fresh w15 W' → Calls Tryz.prog 13 #[] W' fun e w' => e = .returned (.bool true) ∧ Fresh w15 w') := Lib.hid fun W' f => (awake_any W').mono fun e w' hh => ⟨hh.1, f.step hh.2 (fun _ _ h => h)⟩
          obtain ⟨⟨s0, s1, s2, s3⟩, hst⟩ : ∃ st, (Z1.fold (cfg c first)).2.1 = st := ⟨_, rfl⟩
          rw [hst] at HS1 HS2
          unfold St.val at HS1 HS2
          simp only at HS1 HS2
          have KF : Hid (Fresh w15 w15) := Lib.hid (Keep.refl _ _)
          clear hst
          go_wp2_with (first
            | (go_at_call 18; (with_reducible refine (HS1.out _ KF.out).mono ?_); rintro e z ⟨rfl, gz⟩; have KF := Lib.hid gz; clear gz)
            | (go_at_call 18; (with_reducible refine (HS2.out _ KF.out).mono ?_); rintro e z ⟨rfl, gz⟩; have KF := Lib.hid gz; clear gz)
            | (go_at_call 19; (with_reducible refine (HN1.out _ KF.out).mono ?_); rintro e z ⟨rfl, gz⟩; have KF := Lib.hid gz; clear gz)
            | (go_at_call 19; (with_reducible refine (HN2.out _ KF.out).mono ?_); rintro e z ⟨rfl, gz⟩; have KF := Lib.hid gz; clear gz)
            | (go_at_call 17; (with_reducible refine (HV.out _ KF.out).mono ?_); rintro e z ⟨rfl, gz⟩; have KF := Lib.hid gz; clear gz)
            | (go_at_call 13; (with_reducible refine (HAW.out _ KF.out).mono ?_); rintro e z ⟨rfl, gz⟩; have KF := Lib.hid gz; clear gz))
          have KZ : z.heap[D]? = some (.deferred (some [])) := (KF.out.block D D15.out.2 (fun h => h)).trans K15.out
          refine ⟨by simp, .inl ⟨_, _, rfl, run_takeDeferred KZ, ?_⟩⟩
          exact ⟨_, results_tmp rfl _ _ _, rfl, Fresh.below_ (ownFrom_fresh (β := Unit) (Nat.le_refl _) () _ _ _ (T15.out.p.f.step KF.out (fun _ _ h => h)) (grownBy_putObj' z D (.deferred none)) (fun r e => by cases e; exact ⟨by omega, _, KZ, rfl⟩)) (Nat.le_refl _)⟩
    case stop =>
      rintro D c pre W _ _ h _
      exact h.elim
open Go.ChangeShapes Go.WideShapes Go.ChangeAt
set_option maxRecDepth 100000 in
theorem lpGives_lifted (os : Os) (started : os.Started) (H : Type) (enc : TypeId × Value → H) :
    ReturnsInHanded {} Tryz.checked os 10 .any (Rows.lpGivesSpec.pre6 enc Tryz.prog Tryz.f10 Rows.lpGivesRow.domain false) (Rows.lpGivesSpec.post enc Tryz.prog Tryz.f10 false true false false) := by
  refine law_lifted (C := Tryz.checked) (tb := 4) (by kernel_rfl) (by kernel_rfl) started (by kernel_rfl) Tryz.func10 rfl ?_ rfl Tryz.underlying4 (by kernel_rfl)
    (ChangeSpec.witness6 (enc := enc) (C := Tryz.checked) false ⟨#[], #[.agg #[.int .i64 0, .int .i64 0, .int .i64 0, .int .i64 0, .int .i64 0, .int .i64 0, .int .i64 0, .bool false, .slice none 0 0], .slice none 0 0, .int .i64 0], []⟩ 12 (by kernel_rfl) (by kernel_rfl) (by kernel_rfl) (by kernel_rfl)) ?_
  · intro ds hds
    match ds, hds with
    | [e0, e1, e2], _ => rfl
  · intro W base args ds p hval hA hreach
    rw [Tryz.params10] at hA hval hreach
    obtain ⟨v0, vs0, d0, ds0, p0, q0, hargs, rfl, rfl, h0, r0⟩ := trodAll_cons hA
    obtain ⟨v1, vs1, d1, ds1, p1, q1, rfl, rfl, rfl, h1, r1⟩ := trodAll_cons r0
    obtain ⟨v2, vs2, d2, ds2, p2, q2, rfl, rfl, rfl, h2, r2⟩ := trodAll_cons r1
    obtain ⟨rfl, rfl, rfl⟩ := trodAll_nil r2
    obtain rfl : args = #[v0, v1, v2] := by cases args; simp_all
    obtain ⟨l0, rfl, hl0⟩ := arg_struct (n := 6) Tryz.underlying26 (by kernel_rfl) (hval 0 26 v0 rfl rfl) h0
    have hfl : flat Tryz.prog 6 26 = [3, 3, 3, 3, 3, 3, 3, 4, 24] := by kernel_rfl
    rw [hfl] at hl0; clear hfl
    obtain ⟨md, l1, e1, w_md, hl1⟩ := all2_int Tryz.underlying3 hl0
    obtain ⟨id, l2, e2, w_id, hl2⟩ := all2_int Tryz.underlying3 hl1
    obtain ⟨f0, l3, e3, w_f0, hl3⟩ := all2_int Tryz.underlying3 hl2
    obtain ⟨f1, l4, e4, w_f1, hl4⟩ := all2_int Tryz.underlying3 hl3
    obtain ⟨f2, l5, e5, w_f2, hl5⟩ := all2_int Tryz.underlying3 hl4
    obtain ⟨f3, l6, e6, w_f3, hl6⟩ := all2_int Tryz.underlying3 hl5
    obtain ⟨ev, l7, e7, w_ev, hl7⟩ := all2_int Tryz.underlying3 hl6
    obtain ⟨lz, l8, e8, hl8⟩ := all2_bool Tryz.underlying4 hl7
    obtain ⟨u_L, l9, e9, h_L, hl9⟩ := all2_cons hl8
    obtain rfl := all2_nil hl9
    subst e9 e8 e7 e6 e5 e4 e3 e2 e1
    clear hl9 hl8 hl7 hl6 hl5 hl4 hl3 hl2 hl1 hl0
    obtain ⟨A_o, n_o, c_o, rows_o, rfl, len_o, cap_o, max_o, leaf_o, at_o⟩ := arg_slice (n := 6) Tryz.underlying27 (by kernel_rfl) (by kernel_rfl) (by rw [show Tryz.prog.cellsOf 45 = 10 by kernel_rfl]; decide) (hval 1 27 v1 rfl rfl) h1
    rw [show flat Tryz.prog 6 45 = [3, 3, 3, 3, 3, 3, 3, 3, 3, 4] by kernel_rfl] at leaf_o
    rw [show Tryz.prog.cellsOf 45 = 10 by kernel_rfl] at at_o
    obtain ⟨wh, rfl, w_wh⟩ := arg_int Tryz.underlying3 (hval 2 3 v2 rfl rfl) h2
    obtain ⟨A, n, cp, rows, rfl, hlen, hcap, hmax, hleaf, hat⟩ := leaf_slice (n := 6) Tryz.underlying24 (by kernel_rfl) (by kernel_rfl) (by rw [show Tryz.prog.cellsOf 41 = 7 by kernel_rfl]; decide) h_L
    rw [show flat Tryz.prog 6 41 = [3, 3, 3, 3, 3, 3, 3] by kernel_rfl] at hleaf
    rw [show Tryz.prog.cellsOf 41 = 7 by kernel_rfl] at hat
    obtain ⟨es, hes, hev⟩ := evs_arg hleaf hat
    have hn : es.length = n := hes.trans hlen
    subst hn
    obtain ⟨os, hos, ho⟩ := lops_arg leaf_o at_o
    have hm : os.length = n_o := hos.trans len_o
    subst hm
    exact lpgives_any ⟨md, id, ev, lz⟩ ⟨f0, f1, f2, f3⟩ wh A A_o cp c_o es os W ⟨A, cp, rfl, hev⟩ (by unfold maxLen at hmax; omega) ho (by unfold maxLen at max_o; omega)

theorem lpGives_holds : Rows.LpGivesSaid :=
  OpenClaim.holds_of_wide 10 Tryz.f10 rfl rfl rfl rfl rfl rfl rfl ⟨rfl, rfl, rfl, rfl, rfl⟩ rfl rfl rfl rfl rfl (by kernel_rfl) Tryz.func10 (by kernel_rfl)
    (of_decide_eq_true (by kernel_rfl)) (by unfold Func.isWrapper; first | (rw [if_pos (by decide +kernel)]; kernel_rfl) | (rw [if_neg (by decide +kernel)]; exact ⟨rfl, rfl⟩))
    (fun os started H enc _ => lpGives_lifted os started H enc)
end Go.Proofs.YthbcdkeammhakaaGreat
