/- LpNil returns true at every input: without rules there is no process, and a nil one has nothing. No conditions. -/
import Derived.Test.YthbcdkeammhakaaGreatM23
import Derived.Test.YthbcdkeammhakaaGreatM06
import Derived.Test.YthbcdkeammhakaaGreatM07
namespace Go.Proofs.YthbcdkeammhakaaGreat
open Go.RowKit Go.Shelf
attribute [local go_sem] Oper.semAt_some
attribute [local go_sem ↓] Go.wp_at_zero Go.wp_at_succ
theorem run_eql_seqE (fn : Fn) (a b : Array Value) (w : World) : (binOp .eql 92 (.func fn a b) .nilFunc).run Tryz.prog w = .ok (.bool false) w := by
  kernel_rfl
theorem run_eql_seqR (fn : Fn) (a b : Array Value) (w : World) : (binOp .eql 115 (.func fn a b) .nilFunc).run Tryz.prog w = .ok (.bool false) w := by
  kernel_rfl
attribute [local go_sem] run_eql_seqE run_eql_seqR
theorem run_eql_ct0 (w : World) : (binOp .eql 81 (.agg #[.int .i64 0, .int .i64 0, .int .i64 0, .int .i64 0, .int .i64 0, .int .i64 0, .int .i64 0]) (.agg #[.int .i64 0, .int .i64 0, .int .i64 0, .int .i64 0, .int .i64 0, .int .i64 0, .int .i64 0])).run Tryz.prog w = .ok (.bool true) w := by
  kernel_rfl
attribute [local go_sem] eq4w run_eql_ct0
set_option maxRecDepth 100000 in
set_option maxHeartbeats 4000000 in
theorem nrecords (w : World) : Calls Tryz.prog 24 #[.pointer none] w fun e w' => e = .returned (.tuple #[.slice none 0 0, .slice none 0 0]) ∧ Fresh w w' := by
  refine (callsIn_wide (n := 6)).1 ?_
  refine callsIn_of_wp_marks Tryz.func24 rfl trivial ?_ rfl
  simp only [Tryz.ntmps24, List.size_toArray, List.length_cons, List.length_nil, Nat.reduceAdd, Nat.reduceSub, Array.replicate_succ, Array.replicate_zero, List.push_toArray, List.append_toArray, List.nil_append, List.cons_append]
  refine wpIn_wide.2 ?_
  go_wp2_with (go_at_call 50; (with_reducible refine (nrecs _).mono ?_); rintro e w1 ⟨rfl, f1⟩; have F1 := Lib.hid f1; clear f1)
  have B0 := F1.out.blk_ ((Blk.new w 24 #[.slice none 0 0]).alloc (.cells #[.slice none 0 0] 24))
  have B1 : Blk w1 (w.heap.size + 1) 24 #[.slice none 0 0] := F1.out.blk_ (show Blk ((w.alloc (.cells #[.slice none 0 0] 24)).alloc (.cells #[.slice none 0 0] 24)) (w.heap.size + 1) 24 #[.slice none 0 0] from Blk.at_new (by simp) _ _)
  have G1 : Fresh w w1 := (((Keep.refl _ w).alloc _).alloc _).step F1.out (fun _ _ h => h)
  have sz := G1.size
  have Q1 := Lib.hid B0
  have Q2 := Lib.hid B1
  have Q3 := Lib.hid G1
  clear B0 B1 G1 F1
  refine (wpIn_wide (n := 6)).1 ?_
  refine wpIn_rangeFunc_ownG rfl (by omega) (gf := 86) (lb := #[]) rfl trivial (enters_of Tryz.func86 (by kernel_rfl) rfl)
    (nRecords_stops Fence.wide (6 - 1) trivial rfl w1 (KeepsB 0 0)) keepsB_t keepsB_b (Below.refl _ _) (fun x => nomatch x)
    (fun _ W => Fresh w W ∧ Blk W w.heap.size 24 #[.slice none 0 0] ∧ Blk W (w.heap.size + 1) 24 #[.slice none 0 0]) (fun _ _ _ => False) ?own (fun _ _ _ _ _ hs _ _ => hs)
    ⟨Q3.out, Q1.out, Q2.out⟩
    (fun x => nomatch x) (fun _ x => nomatch x) (fun _ _ x => nomatch x) ?done (fun _ _ _ _ _ hs => hs.elim)
  case own =>
    intro pre X Y row hs hg hr
    have hr' : ∀ r, row = some r → ∃ o : Obj, X.heap[r]? = some o ∧ o.isCells = false := fun r e => (hr r e).2
    exact ⟨ownFrom_fresh (β := Unit) (by omega) () X Y row hs.1 hg hr, blk_grown hs.2.1 hg hr', blk_grown hs.2.2 hg hr'⟩
  case done =>
    rintro D ys W hD rfl ⟨f2, b2, b3⟩ hK
    have f3 := ownFrom_fresh (β := Unit) (show w.heap.size ≤ w1.heap.size by omega) () W _ _ f2 (grownBy_putObj' W D (.deferred none)) (fun r e => by cases e; exact ⟨hD, _, hK, rfl⟩)
    have c2 := b2.cell
    have l2 := b2.lt
    have c3 := b3.cell
    have l3 := b3.lt
    have U1 := Lib.hid f2
    have U3 := Lib.hid hK
    clear f2 f3 b2 b3 hK
    go_wp2_with fail
    go_quiet (fail)
    rename Nat => n9
    go_wp2_with fail
    have f4 := ownFrom_fresh (β := Unit) (show w.heap.size ≤ w1.heap.size by omega) () _ _ _ (U1.out.drewN n9) (grownBy_putObj' (W.drewN n9) D (.deferred none)) (fun r e => by cases e; exact ⟨hD, _, U3.out, rfl⟩)
    refine ⟨by simp, .inl ⟨_, _, rfl, run_takeDeferred U3.out, ?_⟩⟩
    exact ⟨.tuple #[.slice none 0 0, .slice none 0 0], by simp [results, Tryz.results24, go_sem]; try rfl, rfl, f4⟩
set_option maxRecDepth 100000 in
set_option maxHeartbeats 8000000 in
theorem lpnil_any (o : LOp) (w : World) : Law Tryz.prog 9 #[.agg o.arr] w := by
  unfold Law
  have HC := Lib.hid (fun W => ncalls o W)
  have HBX : Hid (Blk (w.alloc (.cells o.arr 45)) w.heap.size 45 o.arr) := Lib.hid (Blk.new w _ _)
  obtain ⟨k, b, ⟨a, s, t, n', d, kk, x⟩, an⟩ := o
  unfold LOp.arr at HC HBX ⊢
  simp only at HC HBX ⊢
  obtain ⟨er, her⟩ : ∃ er : Int, (if k = 2 then 0 else 2) = er := ⟨_, rfl⟩
  have HER : Hid ((k = 2 ∧ er = 0) ∨ (k ≠ 2 ∧ er = 2)) := Lib.hid (by rw [← her]; by_cases h : k = 2 <;> simp [h])
  rw [her] at HC
  clear her
  refine (callsIn_wide (n := 6)).1 ?_
  refine callsIn_of_wp_marks Tryz.func9 rfl trivial ?_ rfl
  simp only [Tryz.ntmps9, List.size_toArray, List.length_cons, List.length_nil, Nat.reduceAdd, Nat.reduceSub, Array.replicate_succ, Array.replicate_zero, List.push_toArray, List.append_toArray, List.nil_append, List.cons_append]
  refine wpIn_wide.2 ?_
  go_wp2_with (first
    | (go_at_call 39; (with_reducible refine (nnew _).mono ?_); rintro e w1 ⟨rfl, f1⟩; have B1 := Lib.hid (f1.blk_ HBX.out); have F1 : Hid (Fresh w w1) := Lib.hid (((Keep.refl _ w).alloc _).step f1 (fun _ _ h => h)); clear f1)
    | (go_at_call 40; (with_reducible refine (nnext _).mono ?_); rintro e w2 ⟨rfl, f2⟩; have B2 := Lib.hid (f2.blk_ B1.out); have F2 : Hid (Fresh w w2) := Lib.hid (F1.out.step f2 (fun _ _ h => h)); have c2 := B2.out.cell; have l2 := B2.out.lt; clear f2)
    | (go_at_call 15; (with_reducible refine (HC.out _).mono ?_); rintro e w3 ⟨rfl, f3⟩; have B3 := Lib.hid (f3.blk_ B2.out); have F3 : Hid (Fresh w w3) := Lib.hid (F2.out.step f3 (fun _ _ h => h)); clear f3 c2 l2)
    | (go_at_call 24; (with_reducible refine (nrecords _).mono ?_); rintro e w4 ⟨rfl, f4⟩; have B4 := Lib.hid (f4.blk_ B3.out); have F4 : Hid (Fresh w w4) := Lib.hid (F3.out.step f4 (fun _ _ h => h)); clear f4)
    | (go_at_call 41; (with_reducible refine (nevents _).mono ?_); rintro e w5 ⟨rfl, f5⟩; have B5 := Lib.hid (f5.blk_ B4.out); have F5 : Hid (Fresh w w5) := Lib.hid (F4.out.step f5 (fun _ _ h => h)); clear f5))
  obtain ⟨gn, hgn⟩ : ∃ gn, w5.heap.size = gn := ⟨_, rfl⟩
  have hgw : w.heap.size < gn := by have := B5.out.lt; omega
  have I6 : Hid (Fresh w (w5.alloc (.cells #[.int .i64 0] 3)) ∧ Blk (w5.alloc (.cells #[.int .i64 0] 3)) w.heap.size 45 #[.int .i64 k, .int .i64 b, .int .i64 a, .int .i64 s, .int .i64 t, .int .i64 n', .int .i64 d, .int .i64 kk, .int .i64 x, .bool an] ∧ Blk (w5.alloc (.cells #[.int .i64 0] 3)) gn 3 #[.int .i64 0]) := Lib.hid ⟨F5.out.alloc _, B5.out.alloc _, hgn ▸ Blk.new w5 _ _⟩
  rw [hgn]
  obtain ⟨w6, hw6⟩ : ∃ w6, w5.alloc (.cells #[.int .i64 0] 3) = w6 := ⟨_, rfl⟩
  rw [hw6] at I6 ⊢
  have hs6 : w.heap.size ≤ w6.heap.size := I6.out.1.size
  clear hgn hw6 B1 B2 B3 B4 B5 F1 F2 F3 F4 F5 HC HBX
  refine (wpIn_wide (n := 6)).1 ?_
  refine wpIn_rangeFunc_ownG rfl (by omega) (gf := 83) (lb := #[]) rfl trivial (enters_of Tryz.func83 (by kernel_rfl) rfl)
    (nEvents_stops Fence.wide (6 - 1) trivial rfl w6 (KeepsB 0 0)) keepsB_t keepsB_b (Below.refl _ _) (fun x => nomatch x)
    (fun _ W => Fresh w W ∧ Blk W w.heap.size 45 #[.int .i64 k, .int .i64 b, .int .i64 a, .int .i64 s, .int .i64 t, .int .i64 n', .int .i64 d, .int .i64 kk, .int .i64 x, .bool an] ∧ Blk W gn 3 #[.int .i64 0]) (fun _ _ _ => False) ?own (fun _ _ _ _ _ hs _ _ => hs)
    I6.out
    (fun x => nomatch x) (fun _ x => nomatch x) (fun _ _ x => nomatch x) ?done (fun _ _ _ _ _ hs => hs.elim)
  case own =>
    intro pre X Y row hs hg hr
    have hr' : ∀ r, row = some r → ∃ o : Obj, X.heap[r]? = some o ∧ o.isCells = false := fun r e => (hr r e).2
    exact ⟨ownFrom_fresh (β := Unit) (by omega) () X Y row hs.1 hg hr, blk_grown hs.2.1 hg hr', blk_grown hs.2.2 hg hr'⟩
  case done =>
    rintro D ys W hD rfl ⟨f2, b2, b3⟩ hK
    have hDl := (Array.getElem?_eq_some_iff.1 hK).1
    have U1 := Lib.hid f2
    have U2 := Lib.hid b2
    have U3 := Lib.hid b3
    have U4 := Lib.hid hK
    have KF : Hid (∀ W', Fresh W W' → W'.heap[D]? = some (.deferred (some []))) := Lib.hid fun W' f => (f.block D hDl (fun h => h)).trans hK
    have d0 := fun (W' : World) (f : Fresh W W') (i : Nat) => (Fresh.blk_ f U2.out).cell i
    have d1 := fun (W' : World) (f : Fresh W W') (i : Nat) => (Fresh.blk_ f U3.out).cell i
    have d2 := fun (W' : World) (f : Fresh W W') => (Fresh.blk_ f U2.out).lt
    have d3 := fun (W' : World) (f : Fresh W W') => (Fresh.blk_ f U3.out).lt
    have f0 : Fresh W W := Keep.refl _ _
    clear f2 b2 b3 hK I6
    have ENDR : Hid (∀ W', Fresh W W' → Fresh w (W'.putObj D (.deferred none)) ∧ W'.heap[D]? = some (.deferred (some []))) := Lib.hid fun W' f => by
      have hk := KF.out W' f
      exact ⟨ownFrom_fresh (β := Unit) (Nat.le_refl _) () _ _ _ (U1.out.step f (fun _ _ h => h)) (grownBy_putObj' W' D (.deferred none)) (fun r e => by cases e; exact ⟨by omega, _, hk, rfl⟩), hk⟩
    have c0 := U2.out.cell
    have l0 := U2.out.lt
    have c1 := U3.out.cell
    have l1 := U3.out.lt
    clear d0 d1 d2 d3 f0
    rcases HER.out with ⟨rfl, rfl⟩ | ⟨hk2, rfl⟩
    · clear HER
      go_wp2_with (first
      | (go_at_call 20; (with_reducible refine (nleast _).mono ?_); rintro en0 z0 ⟨rfl, g0⟩; have G1 : Hid (Fresh W z0) := Lib.hid (g0); clear g0)
      | (go_at_call 19; (with_reducible refine (nnow _).mono ?_); rintro en1 z1 ⟨rfl, g1⟩; have G2 : Hid (Fresh W z1) := Lib.hid ((Keep.step (S := fun _ => False) G1.out g1 (fun _ _ h => h))); clear g1)
      | (go_at_call 18; (with_reducible refine (nstate _).mono ?_); rintro en2 z2 ⟨rfl, g2⟩; have G3 : Hid (Fresh W z2) := Lib.hid ((Keep.step (S := fun _ => False) G2.out g2 (fun _ _ h => h))); clear g2)
      | (go_at_call 35; (with_reducible refine (ncount _).mono ?_); rintro en3 z3 ⟨rfl, g3⟩; have G4 : Hid (Fresh W z3) := Lib.hid ((Keep.step (S := fun _ => False) G3.out g3 (fun _ _ h => h))); clear g3)
      | (go_at_call 33; (with_reducible refine (ncopy _).mono ?_); rintro en4 z4 ⟨rfl, g4⟩; have G5 : Hid (Fresh W z4) := Lib.hid ((Keep.step (S := fun _ => False) G4.out g4 (fun _ _ h => h))); clear g4)
      | (go_at_call 13; (with_reducible refine (awake_any _).mono ?_); rintro en5 z5 ⟨rfl, g5⟩; have G6 : Hid (Fresh W z5) := Lib.hid ((Keep.step (S := fun _ => False) G5.out g5 (fun _ _ h => h))); clear g5))
      obtain ⟨e1, e2⟩ := ENDR.out _ G6.out
      refine ⟨by simp, .inl ⟨_, _, rfl, run_takeDeferred e2, ?_⟩⟩
      exact ⟨_, results_tmp rfl _ _ _, rfl, Fresh.below_ e1 (Nat.le_refl _)⟩
    · have u2 : (k == 2) = false := by simpa using hk2
      clear HER hk2
      go_wp2_with (first
      | (go_at_call 20; (with_reducible refine (nleast _).mono ?_); rintro en0 z0 ⟨rfl, g0⟩; have G1 : Hid (Fresh W z0) := Lib.hid (g0); clear g0)
      | (go_at_call 19; (with_reducible refine (nnow _).mono ?_); rintro en1 z1 ⟨rfl, g1⟩; have G2 : Hid (Fresh W z1) := Lib.hid ((Keep.step (S := fun _ => False) G1.out g1 (fun _ _ h => h))); clear g1)
      | (go_at_call 18; (with_reducible refine (nstate _).mono ?_); rintro en2 z2 ⟨rfl, g2⟩; have G3 : Hid (Fresh W z2) := Lib.hid ((Keep.step (S := fun _ => False) G2.out g2 (fun _ _ h => h))); clear g2)
      | (go_at_call 35; (with_reducible refine (ncount _).mono ?_); rintro en3 z3 ⟨rfl, g3⟩; have G4 : Hid (Fresh W z3) := Lib.hid ((Keep.step (S := fun _ => False) G3.out g3 (fun _ _ h => h))); clear g3)
      | (go_at_call 33; (with_reducible refine (ncopy _).mono ?_); rintro en4 z4 ⟨rfl, g4⟩; have G5 : Hid (Fresh W z4) := Lib.hid ((Keep.step (S := fun _ => False) G4.out g4 (fun _ _ h => h))); clear g4)
      | (go_at_call 13; (with_reducible refine (awake_any _).mono ?_); rintro en5 z5 ⟨rfl, g5⟩; have G6 : Hid (Fresh W z5) := Lib.hid ((Keep.step (S := fun _ => False) G5.out g5 (fun _ _ h => h))); clear g5))
      obtain ⟨e1, e2⟩ := ENDR.out _ G6.out
      refine ⟨by simp, .inl ⟨_, _, rfl, run_takeDeferred e2, ?_⟩⟩
      exact ⟨_, results_tmp rfl _ _ _, rfl, Fresh.below_ e1 (Nat.le_refl _)⟩
open Go.ChangeShapes Go.WideShapes Go.ChangeAt
set_option maxRecDepth 100000 in
theorem lpNil_lifted (os : Os) (started : os.Started) (H : Type) (enc : TypeId × Value → H) :
    ReturnsInHanded {} Tryz.checked os 9 .any (Rows.lpNilSpec.pre6 enc Tryz.prog Tryz.f9 Rows.lpNilRow.domain false) (Rows.lpNilSpec.post enc Tryz.prog Tryz.f9 false true false false) := by
  refine law_lifted (C := Tryz.checked) (tb := 4) (by kernel_rfl) (by kernel_rfl) started (by kernel_rfl) Tryz.func9 rfl ?_ rfl Tryz.underlying4 (by kernel_rfl)
    (ChangeSpec.witness6 (enc := enc) (C := Tryz.checked) false ⟨#[], #[.agg #[.int .i64 0, .int .i64 0, .int .i64 0, .int .i64 0, .int .i64 0, .int .i64 0, .int .i64 0, .int .i64 0, .int .i64 0, .bool false]], []⟩ 12 (by kernel_rfl) (by kernel_rfl) (by kernel_rfl) (by kernel_rfl)) ?_
  · intro ds hds
    match ds, hds with
    | [e0], _ => rfl
  · intro W base args ds p hval hA hreach
    rw [Tryz.params9] at hA hval hreach
    obtain ⟨v0, vs0, d0, ds0, p0, q0, hargs, rfl, rfl, h0, r0⟩ := trodAll_cons hA
    obtain ⟨rfl, rfl, rfl⟩ := trodAll_nil r0
    obtain rfl : args = #[v0] := by cases args; simp_all
    obtain ⟨l0, rfl, hl0⟩ := arg_struct (n := 6) Tryz.underlying45 (by kernel_rfl) (hval 0 45 v0 rfl rfl) h0
    have hfl : flat Tryz.prog 6 45 = [3, 3, 3, 3, 3, 3, 3, 3, 3, 4] := by kernel_rfl
    rw [hfl] at hl0; clear hfl
    obtain ⟨k, l1, e1, w_k, hl1⟩ := all2_int Tryz.underlying3 hl0
    obtain ⟨b, l2, e2, w_b, hl2⟩ := all2_int Tryz.underlying3 hl1
    obtain ⟨a, l3, e3, w_a, hl3⟩ := all2_int Tryz.underlying3 hl2
    obtain ⟨s, l4, e4, w_s, hl4⟩ := all2_int Tryz.underlying3 hl3
    obtain ⟨t, l5, e5, w_t, hl5⟩ := all2_int Tryz.underlying3 hl4
    obtain ⟨n, l6, e6, w_n, hl6⟩ := all2_int Tryz.underlying3 hl5
    obtain ⟨d, l7, e7, w_d, hl7⟩ := all2_int Tryz.underlying3 hl6
    obtain ⟨kk, l8, e8, w_kk, hl8⟩ := all2_int Tryz.underlying3 hl7
    obtain ⟨x, l9, e9, w_x, hl9⟩ := all2_int Tryz.underlying3 hl8
    obtain ⟨an, l10, e10, hl10⟩ := all2_bool Tryz.underlying4 hl9
    obtain rfl := all2_nil hl10
    subst e10 e9 e8 e7 e6 e5 e4 e3 e2 e1
    clear hl10 hl9 hl8 hl7 hl6 hl5 hl4 hl3 hl2 hl1 hl0
    exact lpnil_any ⟨k, b, ⟨a, s, t, n, d, kk, x⟩, an⟩ W

theorem lpNil_holds : Rows.LpNilSaid :=
  OpenClaim.holds_of_wide 9 Tryz.f9 rfl rfl rfl rfl rfl rfl rfl ⟨rfl, rfl, rfl, rfl, rfl⟩ rfl rfl rfl rfl rfl (by kernel_rfl) Tryz.func9 (by kernel_rfl)
    (of_decide_eq_true (by kernel_rfl)) (by unfold Func.isWrapper; first | (rw [if_pos (by decide +kernel)]; kernel_rfl) | (rw [if_neg (by decide +kernel)]; exact ⟨rfl, rfl⟩))
    (fun os started H enc _ => lpNil_lifted os started H enc)
end Go.Proofs.YthbcdkeammhakaaGreat
