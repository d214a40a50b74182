/-
  The law's records.
-/
import Derived.Test.YtbplomnoapndnaaAwake
namespace Go.Proofs.Ytbplomnoapndnaa
open Go.RowKit Go.Shelf
attribute [local go_sem] Oper.semAt_some
attribute [local go_sem ↓] Go.wp_at_zero Go.wp_at_succ

theorem run_eql_seq (fn : Fn) (a b : Array Value) (w : World) : (binOp .eql 75 (.func fn a b) .nilFunc).run Try.prog w = .ok (.bool false) w := by
  kernel_rfl
attribute [local go_sem] run_eql_seq
def normOnly (K : Act → World → Prop) : Exit → Act → World → Prop := fun e a w => match e with
  | .normal => K a w
  | _ => False
def evs (l : List Rec) : List Ev := l.map (·.1)
theorem evs_snoc (l : List Rec) (y : Rec) : evs (l ++ [y]) = evs l ++ [y.1] := by simp [evs]
theorem evs_len (l : List Rec) : (evs l).length = l.length := by simp [evs]
def allSure (l : List Rec) : Bool := l.all (·.2)
theorem sure_snoc (l : List Rec) (y : Rec) : allSure (l ++ [y]) = (allSure l && y.2) := by simp [allSure]
structure RInv (w : World) (B : Nat) (pre : List Rec) (W : World) : Prop where
  f : Fresh w W
  sz : B < W.heap.size
  r1 : Blk W w.heap.size 28 #[.slice none 0 0]
  r2 : Blk W (w.heap.size + 1) 4 #[.bool false]
  s : Blk W B 4 #[.bool (allSure pre)]
  o : ∃ v, Blk W (w.heap.size + 2) 28 #[v] ∧ OwnS W 44 7 v (evs pre).length (cells (evs pre)) ∧ ∀ k, v.ownBlock = some k → B ≤ k
theorem RInv.own {w X Y : World} {row : Option Nat} {B B' : Nat} {pre : List Rec} (hB : w.heap.size ≤ B') (h : RInv w B pre X) (hg : X.grownBy Y row) (hr : ∀ r, row = some r → B' ≤ r ∧ ∃ o : Obj, X.heap[r]? = some o ∧ o.isCells = false) : RInv w B pre Y := by
  have hr' : ∀ r, row = some r → ∃ o : Obj, X.heap[r]? = some o ∧ o.isCells = false := fun r e => (hr r e).2
  obtain ⟨v, h1, h2, h3⟩ := h.o
  exact ⟨ownFrom_fresh (β := Unit) hB () X Y row h.f hg hr, Nat.lt_of_lt_of_le h.sz hg.size, blk_grown h.r1 hg hr', blk_grown h.r2 hg hr', blk_grown h.s hg hr', v, blk_grown h1 hg hr', ownS_grown h2 hg hr', h3⟩
theorem RInv.fresh {w X Y : World} {B : Nat} {pre : List Rec} (h : RInv w B pre X) (f : Fresh X Y) : RInv w B pre Y := by
  obtain ⟨v, h1, h2, h3⟩ := h.o
  exact ⟨h.f.step f (fun _ _ h => h), Nat.lt_of_lt_of_le h.sz f.size, f.blk_ h.r1, f.blk_ h.r2, f.blk_ h.s, v, f.blk_ h1, h2.fresh f, h3⟩
/-- what records answers -/
def RecsP (l : List Rec) (w : World) (e : Ending) (w' : World) : Prop :=
  ∃ v, e = .returned (.tuple #[v, .bool (allSure l)]) ∧ OwnS w' 44 7 v (evs l).length (cells (evs l)) ∧ Fresh w w' ∧ ∀ k, v.ownBlock = some k → w.heap.size ≤ k
set_option maxRecDepth 100000 in
set_option maxHeartbeats 2000000 in
theorem records_of (q : Value) (_hq : q = .pointer none ∨ ∃ g, q = .pointer (some ⟨g, 0, none⟩)) (l : List Rec) (w : World) (hl : l.length ≤ 1000) (hA : ∀ W, Fresh w W → Calls Try.prog 35 #[q] W (AllP l W)) :
    Calls Try.prog 16 #[q] w (RecsP l w) := by
  obtain ⟨W0, hW0⟩ : ∃ W0, ((w.alloc (.cells #[.slice none 0 0] 28)).alloc (.cells #[.bool false] 4)).alloc (.cells #[.slice none 0 0] 28) = W0 := ⟨_, rfl⟩
  have F0 : Fresh w W0 := hW0 ▸ (((Keep.refl _ w).alloc _).alloc _).alloc _
  have B0 : Blk W0 w.heap.size 28 #[.slice none 0 0] := hW0 ▸ ((Blk.new w _ _).alloc _).alloc _
  have B1 : Blk W0 (w.heap.size + 1) 4 #[.bool false] := hW0 ▸ (Blk.at_new (by simp) _ _).alloc _
  have B2 : Blk W0 (w.heap.size + 2) 28 #[.slice none 0 0] := hW0 ▸ Blk.at_new (by simp) _ _
  have HA := Lib.hid (hA W0 F0)
  have KF := Lib.hid F0
  have KB0 := Lib.hid B0
  have KB1 := Lib.hid B1
  have KB2 := Lib.hid B2
  obtain ⟨i0, hi, hz0, hz1, hz2⟩ := info_parts info_ev
  clear hA F0 B0 B1 B2
  refine (callsIn_wide (n := 6)).1 ?_
  refine callsIn_of_wp_marks Try.func16 rfl trivial ?_ rfl
  simp only [Try.ntmps16, List.size_toArray, List.length_cons, List.length_nil, Nat.reduceAdd, Nat.reduceSub, Array.replicate_succ, Array.replicate_zero, List.push_toArray, List.append_toArray, List.nil_append, List.cons_append]
  refine wpIn_wide.2 ?_
  go_wp2_with (go_at_call 35; (with_reducible refine HA.out.mono ?_); rintro e w1 ⟨b1, v1, rfl, B1, O1, F1, N1, M1⟩)
  have hbk : bk v1 < w1.heap.size := by
    unfold bk
    cases hv : v1.ownBlock with
    | none => have := B1.lt; simp; omega
    | some k => simpa using O1.lt hv
  have FF : Fresh w w1 := KF.out.step F1 (fun _ _ h => h)
  have fa : Fresh w1 (w1.alloc (.cells #[.bool true] 4)) := (Keep.refl _ w1).alloc _
  have KO := Lib.hid (O1.fresh fa)
  have KB := Lib.hid (fa.blk_ B1)
  have T0 : Hid (RInv w w1.heap.size [] (w1.alloc (.cells #[.bool true] 4))) := Lib.hid ⟨FF.step fa (fun _ _ h => h), by simp, fa.blk_ (F1.blk_ KB0.out), fa.blk_ (F1.blk_ KB1.out), Blk.new w1 _ _, _, fa.blk_ (F1.blk_ KB2.out), OwnS.nil _ _ _, by simp [Value.ownBlock]⟩
  have szF := FF.size
  have sz3 : w.heap.size + 3 ≤ w1.heap.size := by
    have h1 := F1.size
    have h2 : W0.heap.size = w.heap.size + 3 := by rw [← hW0]; simp
    omega
  clear O1 B1 F1 N1 M1 KF KB0 KB1 KB2 HA hW0 FF fa
  obtain ⟨w2, hw2⟩ : ∃ w2, w1.alloc (.cells #[.bool true] 4) = w2 := ⟨_, rfl⟩
  have sz2 : w2.heap.size = w1.heap.size + 1 := by rw [← hw2]; simp
  rw [hw2] at KO KB T0 ⊢
  clear hw2
  refine (wpIn_wide (n := 6)).1 ?_
  refine wpIn_rangeFunc_ownH rfl (by omega) (gf := 54) (lb := #[.pointer (some ⟨b1, 0, none⟩)]) rfl trivial (enters_of Try.func54 (by kernel_rfl) rfl)
    (all_stops Fence.wide (6 - 1) trivial rfl (by omega) b1 v1 l (by omega) w2 KB.out KO.out) keepsB_t keepsB_b (Below.refl _ _) (fun _ => rfl)
    (RInv w w1.heap.size) (fun _ _ _ => False) (fun pre X Y row hs hg hr => hs.own (by omega) hg hr) (fun _ _ _ _ _ hs _ _ => hs)
    T0.out
    (fun y a' W => ∃ Bx, Blk W Bx 44 #[.int .i64 y.1.a, .int .i64 y.1.s, .int .i64 y.1.t, .int .i64 y.1.n, .int .i64 y.1.d, .int .i64 y.1.k, .int .i64 y.1.x] ∧ a' = { tmps := #[q, undef, .pointer (some ⟨w.heap.size, 0, none⟩), .pointer (some ⟨w.heap.size + 1, 0, none⟩), .pointer (some ⟨w.heap.size + 1 + 1, 0, none⟩), .func (.func 54) #[] #[.pointer (some ⟨b1, 0, none⟩)], .pointer (some ⟨w1.heap.size, 0, none⟩), .pointer (some ⟨Bx, 0, none⟩), .bool y.2, q, .func (.func 54) #[] #[.pointer (some ⟨b1, 0, none⟩)], .func (.func 54) #[] #[.pointer (some ⟨b1, 0, none⟩)], .bool false, .func (.func 54) #[] #[.pointer (some ⟨b1, 0, none⟩)], .agg #[.int .i64 y.1.a, .int .i64 y.1.s, .int .i64 y.1.t, .int .i64 y.1.n, .int .i64 y.1.d, .int .i64 y.1.k, .int .i64 y.1.x], .bool y.2, undef, undef, undef, undef, undef, undef, undef, undef, undef, undef, undef, undef, undef], defers := [] }) ?ax ?assign ?body ?done ?stop
  case ax =>
    rintro x a' u X Y row ⟨Bx, h2, h3⟩ hg hr
    exact ⟨Bx, blk_grown h2 hg (fun r e => (hr r e).2), h3⟩
  case assign =>
    rintro lp pre y W K f hK
    unfold enc Ev.val
    gi_wp2
    exact hK _ _ ((KeepsOthers.alloc _ _).from _) ((KeepsB.refl _ _ _).alloc _) (f.fresh ((Keep.refl _ _).alloc _)) ⟨W.heap.size, Blk.new W _ _, rfl⟩
  case body =>
    rintro lp pre y a' W hlp hrec ⟨f2, sz, r1, r2, bs, ⟨va, ba, oa, na⟩⟩ ⟨Bx, bx, rfl⟩ hlt
    obtain ⟨A2, cap2, rfl, _, _⟩ := oa.shape
    have al : (evs pre).length ≤ 1000 := by rw [evs_len]; omega
    have hL1 := Lib.hid (show (evs pre).length + 1 ≤ maxLen from one_le_maxLen (by omega))
    have hL2 := Lib.hid (show ((evs pre).length + 1) * 56 ≤ 140737488355328 by omega)
    have HFA := Lib.hid (evs_snoc pre y)
    have HSU := Lib.hid (sure_snoc pre y)
    obtain ⟨P, hP⟩ : ∃ P, evs pre = P := ⟨_, rfl⟩
    obtain ⟨S, hS⟩ : ∃ S, allSure pre = S := ⟨_, rfl⟩
    rw [hP] at ba oa na hL1 hL2 HFA al
    rw [hS] at bs HSU
    clear hP hS
    have t1 : decide ((1000 : Int) < (P.length : Int)) = false := decide_eq_false (by omega)
    have h07 : Hid (0 < 7) := Lib.hid (by omega)
    have cX := bx.cell
    have lX := bx.lt
    have cS := bs.cell
    have c2 := ba.cell
    have HC : Hid (Src (W.alloc (.cells #[.int .i64 y.1.a, .int .i64 y.1.s, .int .i64 y.1.t, .int .i64 y.1.n, .int .i64 y.1.d, .int .i64 y.1.k, .int .i64 y.1.x] 44)) 7 (.slice (some ⟨W.heap.size, 0, none⟩) 1 1) 1 (cells [y.1])) := Lib.hid (Src.one_new W 44 7 #[.int .i64 y.1.a, .int .i64 y.1.s, .int .i64 y.1.t, .int .i64 y.1.n, .int .i64 y.1.d, .int .i64 y.1.k, .int .i64 y.1.x] rfl)
    have UA := Lib.hid ba
    have UB := Lib.hid oa
    have UC := Lib.hid na
    have UR := Lib.hid r1
    have UQ := Lib.hid r2
    have US := Lib.hid bs
    have UG := Lib.hid f2
    have SZ := Lib.hid sz
    clear bx ba oa na r1 r2 bs f2 hrec hlt sz
    have hne1 : ¬ (w1.heap.size = w.heap.size + 1 + 1) := by omega
    have hne2 : ¬ (w.heap.size + 1 + 1 = w1.heap.size) := by omega
    have FIN : Hid (∀ (a : Act) (w4 : World) (A4 : Option Addr) (cap4 : Nat), Keep (fun k => (Value.slice A2 P.length cap2).ownBlock = some k) W w4 → Blk w4 (w.heap.size + 2) 28 #[.slice A2 P.length cap2] → OwnS w4 44 7 (.slice A4 (P.length + 1) cap4) (P.length + 1) (cells P ++ cells [y.1]) → (∀ k, (Value.slice A4 (P.length + 1) cap4).ownBlock = some k → (Value.slice A2 P.length cap2).ownBlock = some k ∨ W.heap.size + 1 ≤ k) → Blk w4 w1.heap.size 4 #[.bool S] →
        ownPostG w2.heap.size (KeepsB (bk v1) 79) (RInv w w1.heap.size) (fun _ _ _ => False) (pre ++ [y]) W .normal a ((w4.setCell ⟨w.heap.size + 1 + 1, 0, none⟩ (.slice A4 (P.length + 1) cap4)).setCell ⟨w1.heap.size, 0, none⟩ (.bool (S && y.2)))) := Lib.hid fun a w4 A4 cap4 kw b4 o4 n4 s4 => by
      have hX : Keep (fun k => k = w.heap.size + 2 ∨ k = w1.heap.size ∨ (Value.slice A2 P.length cap2).ownBlock = some k) W ((w4.setCell ⟨w.heap.size + 1 + 1, 0, none⟩ (.slice A4 (P.length + 1) cap4)).setCell ⟨w1.heap.size, 0, none⟩ (.bool (S && y.2))) :=
        ((kw.more (fun _ _ h => .inr (.inr h))).setCell (p := ⟨w.heap.size + 1 + 1, 0, none⟩) (fun _ => .inl rfl) _).setCell (p := ⟨w1.heap.size, 0, none⟩) (fun _ => .inr (.inl rfl)) _
      refine ⟨(keepsOthers_of_keep hX ?_).from _, KeepsB.of_keep' hX ?_, ⟨UG.out.step hX ?_, Nat.lt_of_lt_of_le SZ.out hX.size, UR.out.keep hX ?_, UQ.out.keep hX ?_, ?_, .slice A4 (P.length + 1) cap4, ?_, ?_, ?_⟩⟩
      · rintro k o (rfl | rfl | hk) ho
        · exact blk_isCells UA.out ho
        · exact blk_isCells US.out ho
        · exact own_isCells UB.out hk ho
      · rintro cur hcur (h | h | h)
        · have := UA.out
          unfold Blk at this
          rw [h, this] at hcur
          cases hcur
        · have := US.out
          unfold Blk at this
          rw [h, this] at hcur
          cases hcur
        · have := UC.out _ h
          omega
      · rintro k hk (h | h | h)
        · omega
        · omega
        · have := UC.out k h
          omega
      · rintro (h | h | h)
        · omega
        · omega
        · exact UB.out.ne_blk UR.out (by decide) h
      · rintro (h | h | h)
        · omega
        · omega
        · exact UB.out.ne_blk UQ.out (by decide) h
      · rw [HSU.out]
        have := (s4.far (p := ⟨w.heap.size + 1 + 1, 0, none⟩) (show w1.heap.size ≠ w.heap.size + 1 + 1 from hne1) (.slice A4 (P.length + 1) cap4)).set_ 0 (.bool (S && y.2))
        simpa using this
      · have := (b4.set_ 0 (.slice A4 (P.length + 1) cap4)).far (p := ⟨w1.heap.size, 0, none⟩) (show w.heap.size + 2 ≠ w1.heap.size from hne2) (.bool (S && y.2))
        simpa using this
      · have h1 := o4.far (p := ⟨w.heap.size + 1 + 1, 0, none⟩) (o4.ne_blk b4 (by decide)) (.slice A4 (P.length + 1) cap4)
        have h2 := h1.far (p := ⟨w1.heap.size, 0, none⟩) (o4.ne_blk s4 (by decide)) (.bool (S && y.2))
        rw [HFA.out, List.length_append, cells_append]
        exact h2
      · intro k hk
        rcases n4 k hk with h | h
        · exact UC.out k h
        · have := SZ.out
          omega
    cases hb : y.2
    · rw [hb] at FIN
      cases S
      · gi_wp2_with (gi_at_builtin; go_loud (refine wpListIn_append_OwnS _ rfl _ _ 28 rfl 44 i0 _ 7 56 Try.underlying28 hi hz0 hz1 hz2 rfl h07.out (.slice A2 P.length cap2) P.length (cells P) rfl (UB.out.alloc _) (.slice (some ⟨W.heap.size, 0, none⟩) 1 1) 1 (cells [y.1]) rfl HC.out (cells_one _) hL1.out hL2.out ?_; intro v4 w4 o4 k4 n4; obtain ⟨A4, cap4, rfl, _, _⟩ := o4.shape; have KW : Hid (Keep (fun k => (Value.slice A2 P.length cap2).ownBlock = some k) W w4) := Lib.hid (((Keep.refl _ W).alloc _).step k4 (fun _ _ h => h)); have b4 := UA.out.keep KW.out (UB.out.ne_blk UA.out (by decide)); have s4 := US.out.keep KW.out (UB.out.ne_blk US.out (by decide)); have c4 := b4.cell; have r4 := b4.frozen; have l4 := b4.lt; have d4 := s4.cell; have e4 := s4.frozen; have m4 := s4.lt; have V1 := Lib.hid b4; have V2 := Lib.hid o4; have V4 := Lib.hid n4; have V6 := Lib.hid s4; clear b4 s4 o4 k4 n4))
        exact FIN.out _ _ _ _ KW.out V1.out V2.out (fun k hk => by simpa using V4.out k hk) V6.out
      · gi_wp2_with (gi_at_builtin; go_loud (refine wpListIn_append_OwnS _ rfl _ _ 28 rfl 44 i0 _ 7 56 Try.underlying28 hi hz0 hz1 hz2 rfl h07.out (.slice A2 P.length cap2) P.length (cells P) rfl (UB.out.alloc _) (.slice (some ⟨W.heap.size, 0, none⟩) 1 1) 1 (cells [y.1]) rfl HC.out (cells_one _) hL1.out hL2.out ?_; intro v4 w4 o4 k4 n4; obtain ⟨A4, cap4, rfl, _, _⟩ := o4.shape; have KW : Hid (Keep (fun k => (Value.slice A2 P.length cap2).ownBlock = some k) W w4) := Lib.hid (((Keep.refl _ W).alloc _).step k4 (fun _ _ h => h)); have b4 := UA.out.keep KW.out (UB.out.ne_blk UA.out (by decide)); have s4 := US.out.keep KW.out (UB.out.ne_blk US.out (by decide)); have c4 := b4.cell; have r4 := b4.frozen; have l4 := b4.lt; have d4 := s4.cell; have e4 := s4.frozen; have m4 := s4.lt; have V1 := Lib.hid b4; have V2 := Lib.hid o4; have V4 := Lib.hid n4; have V6 := Lib.hid s4; clear b4 s4 o4 k4 n4))
        exact FIN.out _ _ _ _ KW.out V1.out V2.out (fun k hk => by simpa using V4.out k hk) V6.out
    · rw [hb] at FIN
      cases S
      · gi_wp2_with (gi_at_builtin; go_loud (refine wpListIn_append_OwnS _ rfl _ _ 28 rfl 44 i0 _ 7 56 Try.underlying28 hi hz0 hz1 hz2 rfl h07.out (.slice A2 P.length cap2) P.length (cells P) rfl (UB.out.alloc _) (.slice (some ⟨W.heap.size, 0, none⟩) 1 1) 1 (cells [y.1]) rfl HC.out (cells_one _) hL1.out hL2.out ?_; intro v4 w4 o4 k4 n4; obtain ⟨A4, cap4, rfl, _, _⟩ := o4.shape; have KW : Hid (Keep (fun k => (Value.slice A2 P.length cap2).ownBlock = some k) W w4) := Lib.hid (((Keep.refl _ W).alloc _).step k4 (fun _ _ h => h)); have b4 := UA.out.keep KW.out (UB.out.ne_blk UA.out (by decide)); have s4 := US.out.keep KW.out (UB.out.ne_blk US.out (by decide)); have c4 := b4.cell; have r4 := b4.frozen; have l4 := b4.lt; have d4 := s4.cell; have e4 := s4.frozen; have m4 := s4.lt; have V1 := Lib.hid b4; have V2 := Lib.hid o4; have V4 := Lib.hid n4; have V6 := Lib.hid s4; clear b4 s4 o4 k4 n4))
        exact FIN.out _ _ _ _ KW.out V1.out V2.out (fun k hk => by simpa using V4.out k hk) V6.out
      · gi_wp2_with (gi_at_builtin; go_loud (refine wpListIn_append_OwnS _ rfl _ _ 28 rfl 44 i0 _ 7 56 Try.underlying28 hi hz0 hz1 hz2 rfl h07.out (.slice A2 P.length cap2) P.length (cells P) rfl (UB.out.alloc _) (.slice (some ⟨W.heap.size, 0, none⟩) 1 1) 1 (cells [y.1]) rfl HC.out (cells_one _) hL1.out hL2.out ?_; intro v4 w4 o4 k4 n4; obtain ⟨A4, cap4, rfl, _, _⟩ := o4.shape; have KW : Hid (Keep (fun k => (Value.slice A2 P.length cap2).ownBlock = some k) W w4) := Lib.hid (((Keep.refl _ W).alloc _).step k4 (fun _ _ h => h)); have b4 := UA.out.keep KW.out (UB.out.ne_blk UA.out (by decide)); have s4 := US.out.keep KW.out (UB.out.ne_blk US.out (by decide)); have c4 := b4.cell; have r4 := b4.frozen; have l4 := b4.lt; have d4 := s4.cell; have e4 := s4.frozen; have m4 := s4.lt; have V1 := Lib.hid b4; have V2 := Lib.hid o4; have V4 := Lib.hid n4; have V6 := Lib.hid s4; clear b4 s4 o4 k4 n4))
        exact FIN.out _ _ _ _ KW.out V1.out V2.out (fun k hk => by simpa using V4.out k hk) V6.out
  case done =>
    rintro D ys W hD rfl ⟨f2, sz, r1, r2, bs, ⟨va, ba, oa, na⟩⟩ hK
    obtain ⟨A2, cap2, rfl, _, _⟩ := oa.shape
    have hDl := (Array.getElem?_eq_some_iff.1 hK).1
    obtain ⟨M, hM⟩ : ∃ M, (evs ys).length = M := ⟨_, rfl⟩
    obtain ⟨S, hS⟩ : ∃ S, allSure ys = S := ⟨_, rfl⟩
    rw [hM] at ba oa na
    rw [hS] at bs
    have HM := Lib.hid hM
    have HS := Lib.hid hS
    have cA := ba.cell
    have cS := bs.cell
    have c1 := r1.cell
    have d1 := r1.frozen
    have e1 := r1.lt
    have c2 := r2.cell
    have d2 := r2.frozen
    have e2 := r2.lt
    have n1 : ¬ (w.heap.size + 1 + 1 = w.heap.size) := by omega
    have n2 : ¬ (w1.heap.size = w.heap.size) := by omega
    have n3 : ¬ (w1.heap.size = w.heap.size + 1) := by omega
    have KX : Keep (fun k => k = w.heap.size ∨ k = w.heap.size + 1) W (((W.setCell ⟨w.heap.size, 0, none⟩ (.slice A2 M cap2)).setCell ⟨w.heap.size + 1, 0, none⟩ (.bool S)).drew) :=
      (((Keep.refl _ W).setCell (p := ⟨w.heap.size, 0, none⟩) (fun _ => .inl rfl) _).setCell (p := ⟨w.heap.size + 1, 0, none⟩) (fun _ => .inr rfl) _).drew
    have P1 := Lib.hid (f2.step KX (by rintro k hk (h | h) <;> omega))
    have P2 : Hid (Blk (((W.setCell ⟨w.heap.size, 0, none⟩ (.slice A2 M cap2)).setCell ⟨w.heap.size + 1, 0, none⟩ (.bool S)).drew) w.heap.size 28 #[.slice A2 M cap2]) := Lib.hid (by
      have := (r1.set_ 0 (.slice A2 M cap2)).far (p := ⟨w.heap.size + 1, 0, none⟩) (show w.heap.size ≠ w.heap.size + 1 by omega) (.bool S)
      exact this.drew)
    have P3 : Hid (Blk (((W.setCell ⟨w.heap.size, 0, none⟩ (.slice A2 M cap2)).setCell ⟨w.heap.size + 1, 0, none⟩ (.bool S)).drew) (w.heap.size + 1) 4 #[.bool S]) := Lib.hid (by
      have := (r2.far (p := ⟨w.heap.size, 0, none⟩) (show w.heap.size + 1 ≠ w.heap.size by omega) (.slice A2 M cap2)).set_ 0 (.bool S)
      exact this.drew)
    have P4 := Lib.hid (oa.kept KX (fun k hk h => by
      rcases h with rfl | rfl
      · exact oa.ne_blk r1 (by decide) hk
      · exact oa.ne_blk r2 (by decide) hk))
    have HK2 : Hid ((((W.setCell ⟨w.heap.size, 0, none⟩ (.slice A2 M cap2)).setCell ⟨w.heap.size + 1, 0, none⟩ (.bool S)).drew).heap[D]? = some (.deferred (some []))) := Lib.hid ((KX.block D hDl (by omega)).trans hK)
    have NA := Lib.hid na
    clear ba oa na r1 r2 bs f2 hM hS hK KX
    go_wp2_with fail
    rename_i K0 hK0
    refine Code.wp_mono (Q := normOnly K0) (fun e a w h => by cases e <;> first | exact h | exact h.elim) ?_
    go_region_law (fail)
    all_goals
      refine hK0 _ _ ?_
      obtain ⟨W5, hW5⟩ : ∃ W5, ((W.setCell ⟨w.heap.size, 0, none⟩ (.slice A2 M cap2)).setCell ⟨w.heap.size + 1, 0, none⟩ (.bool S)).drew = W5 := ⟨_, rfl⟩
      rw [hW5] at P1 P2 P3 P4 HK2
      rw [hW5]
      clear hK0 hW5 c1 d1 e1 c2 d2 e2 cA cS
      go_wp2_with fail
      refine ⟨by simp, .inl ⟨_, _, rfl, run_takeDeferred HK2.out, ?_⟩⟩
      have hr : ∀ r, some D = some r → ∃ o : Obj, W5.heap[r]? = some o ∧ o.isCells = false := fun r e => by cases e; exact ⟨_, HK2.out, rfl⟩
      have hg := grownBy_putObj' W5 D (.deferred none)
      have c5 := (blk_grown P2.out hg hr).cell
      have c6 := (blk_grown P3.out hg hr).cell
      have f5 := ownFrom_fresh (β := Unit) (Nat.le_refl w.heap.size) () _ _ _ P1.out hg (fun r e => by cases e; exact ⟨by omega, _, HK2.out, rfl⟩)
      have hm := HM.out
      have hs := HS.out
      subst hm hs
      exact ⟨.tuple #[.slice A2 (evs ys).length cap2, .bool (allSure ys)], by simp [results, Try.results16, go_sem, c5, c6]; try rfl, _, rfl, ownS_grown P4.out hg hr, f5, fun k hk => by have := NA.out k hk; omega⟩
  case stop =>
    rintro D c pre W _ _ h _
    exact h.elim
end Go.Proofs.Ytbplomnoapndnaa
