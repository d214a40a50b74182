/-
  The law's 'same': a row and the reference's, when both hold the same list.
-/
import Derived.Test.YtehiakdagmocjaaCutsP
import Derived.Test.YtehiakdagmocjaaRoundQuiet
namespace Go.Proofs.Ytehiakdagmocjaa
open Go.RowKit Go.Shelf R_int
attribute [local go_sem] Oper.semAt_some
theorem run_eql_func' (fn : Fn) (a b : Array Value) (w : World) : (binOp .eql 37 (.func fn a b) .nilFunc).run Try.prog w = .ok (.bool false) w := by
  first | rfl | (kernel_rfl)
attribute [local go_sem] run_eql_func'

set_option maxRecDepth 100000 in
set_option maxHeartbeats 4000000 in
theorem same_any (g : Nat) (v : Value) (g' : Nat) (va vx : Value) (l : List (Int × Int)) (w : World) (h : SRow w g v l) (h' : SRef w g' va vx l) (h1 : 0 < l.length) (hl : l.length ≤ 1000) :
    Calls Try.prog 18 #[.pointer (some ⟨g, 0, none⟩), .pointer (some ⟨g', 0, none⟩)] w fun e w' => e = .returned (.bool true) ∧ Fresh w w' := by
  refine (callsIn_wide (n := 6)).1 ?_
  refine callsIn_of_wp_marks Try.func18 rfl trivial ?_ rfl
  simp only [Try.ntmps18, List.size_toArray, List.length_cons, List.length_nil, Nat.reduceAdd, Nat.reduceSub, Array.replicate_succ, Array.replicate_zero, List.push_toArray, List.append_toArray, List.nil_append, List.cons_append]
  obtain ⟨ga, offa, capa, rfl, lta, nca, mca, ca⟩ := h'.oa.form h1
  obtain ⟨gx, offx, capx, rfl, ltx, ncx, mcx, cx⟩ := h'.ox.form h1
  have F0 : Fresh w ((w.alloc (.cells #[.pointer (some ⟨g', 0, none⟩)] 28)).alloc (.cells #[.bool false] 4)) := ((Keep.refl _ w).alloc _).alloc _
  have H0 := Lib.hid h'
  have HS := Lib.hid (h.fresh F0)
  have HR := Lib.hid (h'.fresh F0)
  have HF := Lib.hid F0
  have BS := Lib.hid ((Blk.new w 28 #[.pointer (some ⟨g', 0, none⟩)]).alloc (.cells #[.bool false] 4))
  have BR : Hid (Blk ((w.alloc (.cells #[.pointer (some ⟨g', 0, none⟩)] 28)).alloc (.cells #[.bool false] 4)) (w.heap.size + 1) 4 #[.bool false]) := Blk.at_new (by simp) _ _
  clear h h' ca cx F0
  gi_wp2_with fail
  refine ⟨trivial, ?_⟩
  refine (callsIn_wide.2 (all_any g v l _ HS.out h1 (by omega))).mono ?_
  rintro e w1 ⟨v1, rfl, b1, o1, f1, n1⟩
  have e0 : ((w.alloc (.cells #[.pointer (some ⟨g', 0, none⟩)] 28)).alloc (.cells #[.bool false] 4)).heap.size = w.heap.size + 1 + 1 := by simp
  rw [e0] at b1 n1 ⊢
  obtain ⟨gl, off, cap, rfl, _, _, _, _⟩ := o1.form h1
  have rb := (HR.out.fresh f1).blk.cell
  have rl := (HR.out.fresh f1).blk.lt
  have hsz := b1.lt
  have bs := (f1.blk_ BS.out).cell
  have br := (f1.blk_ BR.out).cell
  have fr := (f1.blk_ BR.out).frozen
  have lr := (f1.blk_ BR.out).lt
  have Q1 := Lib.hid b1
  have Q2 := Lib.hid o1
  have Q3 := Lib.hid f1
  have Q4 := Lib.hid (HR.out.fresh f1)
  have Q5 := Lib.hid (HS.out.fresh f1)
  have Q6 := Lib.hid n1
  have te : ((l.length : Int) != (l.length : Int)) = false := by simp
  clear b1 o1 f1 HS HR n1
  gi_wp2_with fail
  refine wpIn_wide.2 ?_
  have kS := fun (W : World) (h : Blk W w.heap.size 28 #[.pointer (some ⟨g', 0, none⟩)]) (i : Nat) => h.cell i
  have kR := fun (W : World) (h : Blk W g' 65 #[.slice (some ⟨ga, offa, none⟩) l.length capa, .slice (some ⟨gx, offx, none⟩) l.length capx]) (i : Nat) => h.cell i
  have KK : Hid (∀ W, Fresh w1 W → Blk W w.heap.size 28 #[.pointer (some ⟨g', 0, none⟩)] ∧ Blk W g' 65 #[.slice (some ⟨ga, offa, none⟩) l.length capa, .slice (some ⟨gx, offx, none⟩) l.length capx]) :=
    fun W f => ⟨f.blk_ (Q3.out.blk_ BS.out), f.blk_ Q4.out.blk⟩
  have KA : Hid (∀ W, Fresh w1 W → ∀ j u, (ints (l.map (·.1)))[j]? = some u → W.cell? ⟨ga, offa + j, none⟩ = some u) := fun W f => by
    obtain ⟨_, _, _, e, _, _, _, c⟩ := (Q4.out.oa.fresh f).form h1
    cases e
    exact c
  have FD : Hid (Fresh w1 w1.drew) := (Keep.refl _ _).drew
  have FS : Hid (∀ W, Fresh w1.drew W → Fresh w1 W) := fun W f => FD.out.step f (fun _ _ h => h)
  clear bs rb br fr
  go_region_held3 (fun W => Blk W w.heap.size 28 #[.pointer (some ⟨g', 0, none⟩)] ∧ Blk W g' 65 #[.slice (some ⟨ga, offa, none⟩) l.length capa, .slice (some ⟨gx, offx, none⟩) l.length capx])
    (first
      | exact KK.out _ FD.out
      | exact KK.out _ (f2'.step f3 (fun _ _ h => h))
      | exact KK.out _ f2')
    (first
      | (go_at_call 20; refine (len_any g v l _ (Q5.out.fresh FD.out)).mono ?_; rintro e wq ⟨rfl, rfl⟩)
      | (go_at_call 15; refine (times_any g v l _ (Q5.out.fresh FD.out) h1 (by omega)).mono ?_; rintro e w2 ⟨vt, rfl, ot, f2, nt⟩; obtain ⟨gt, offt, capt, rfl, lt, nct, mct, cct⟩ := ot.form h1; have f2' := FS.out _ f2)
      | (go_at_call 16; refine (ints_same gt offt capt ga offa capa l.length (l.map (·.1)) _ (by simp) nct nca mct mca cct (KA.out _ f2')).mono ?_; rintro e w3 ⟨rfl, f3⟩))
  go_split_ands
  clear kS kR ot f2 cct nt
  have f3 := f2'.step f3 (fun _ _ h => h)
  have FF := (HF.out.step Q3.out (fun _ _ h => h)).step f3 (fun _ _ h => h)
  have T1 := Lib.hid (Q1.out.keep f3 (fun h => h))
  have T2 := Lib.hid (Q2.out.fresh f3)
  have T3 := Lib.hid FF
  have TS := Lib.hid ((Fresh.blk_ f3 (Q3.out.blk_ BS.out)))
  have TR := Lib.hid ((Fresh.blk_ f3 (Q3.out.blk_ BR.out)))
  have sz := FF.size
  have sz3 := TR.out.lt
  have hgl : gl < w3.heap.size := T2.out.lt (k := gl) (by simp [Value.ownBlock])
  clear f3 FF f2' KK KA FS FD Q1 Q2 Q3 Q4 Q5 Q6 HF BS BR
  gi_wp2_with fail
  refine wpIn_rangeFunc_ownG rfl (by omega) (gf := 35) (lb := #[.pointer (some ⟨w.heap.size + 1 + 1, 0, none⟩)]) rfl trivial (enters_of Try.func35 (by kernel_rfl) rfl)
    (all_stops Fence.wide (6 - 1) trivial rfl (by omega) (w.heap.size + 1 + 1) gl off cap l (by omega) _ (T1.out.alloc _) (T2.out.alloc _)) keepsB_t keepsB_b (Below.refl _ _) (fun _ => rfl)
    (fun pre W => (Fresh w W ∧ Blk W w3.heap.size 3 #[.int .i64 (pre.length : Nat)]) ∧ Blk W w.heap.size 28 #[.pointer (some ⟨g', 0, none⟩)] ∧ Blk W (w.heap.size + 1) 4 #[.bool false]) (fun _ pre _ => ¬ pre <+: l) ?own (fun _ _ _ _ _ hs _ _ => hs)
    ⟨⟨T3.out.alloc _, Blk.new w3 3 _⟩, TS.out.alloc _, TR.out.alloc _⟩
    (fun x => { tmps := #[.pointer (some ⟨g, 0, none⟩), .pointer (some ⟨g', 0, none⟩), undef, .pointer (some ⟨w.heap.size, 0, none⟩), .pointer (some ⟨w.heap.size + 1, 0, none⟩), .func (.func 35) #[] #[.pointer (some ⟨w.heap.size + 1 + 1, 0, none⟩)], .pointer (some ⟨w3.heap.size, 0, none⟩), .int .i64 x.1, .int .i64 x.2, .pointer (some ⟨g, 0, none⟩), .func (.func 35) #[] #[.pointer (some ⟨w.heap.size + 1 + 1, 0, none⟩)], .func (.func 35) #[] #[.pointer (some ⟨w.heap.size + 1 + 1, 0, none⟩)], .bool false, .bool false, .pointer (some ⟨g, 0, none⟩), .int .i64 ↑l.length, .pointer (some ⟨g', 0, none⟩), .pointer (some ⟨g', 0, none⟩), .pointer (some ⟨g', 0, none⟩), .slice (some ⟨ga, offa, none⟩) l.length capa, .int .i64 ↑l.length, .bool false, .bool false, .bool false, .pointer (some ⟨g, 0, none⟩), .slice (some ⟨gt, offt, none⟩) l.length capt, .pointer (some ⟨g', 0, none⟩), .pointer (some ⟨g', 0, none⟩), .pointer (some ⟨g', 0, none⟩), .slice (some ⟨ga, offa, none⟩) l.length capa, .bool true, .bool false, .bool false, .func (.func 35) #[] #[.pointer (some ⟨w.heap.size + 1 + 1, 0, none⟩)], .int .i64 x.1, .int .i64 x.2, undef, undef, undef, undef, undef, undef, undef, undef, undef, undef, undef, undef, undef, undef, undef, undef, undef, undef, undef, undef, undef, undef, undef, undef, undef, undef, undef, undef, undef, undef, undef, undef, undef, undef, undef, undef, undef, undef], defers := [] }) ?assign ?body ?done ?stop
  case own =>
    intro pre X Y row hs hg hr
    have hr' : ∀ r, row = some r → ∃ o : Obj, X.heap[r]? = some o ∧ o.isCells = false := fun r e => (hr r e).2
    exact ⟨⟨ownFrom_fresh (β := Unit) (by simp; omega) () X Y row hs.1.1 hg hr, blk_grown hs.1.2 hg hr'⟩, blk_grown hs.2.1 hg hr', blk_grown hs.2.2 hg hr'⟩
  case assign =>
    intro lp x W K hK
    gi_wp2
    exact hK
  case body =>
    rintro lp pre x W ⟨⟨f2, bn⟩, bs, br⟩ hlt
    obtain ⟨s, hs⟩ : ∃ s, l[pre.length]? = some s := ⟨_, List.getElem?_eq_getElem hlt⟩
    have s2 := H0.out.fresh f2
    obtain ⟨_, _, _, e1, _, _, _, ca⟩ := s2.oa.form h1
    cases e1
    obtain ⟨_, _, _, e2, _, _, _, cx⟩ := s2.ox.form h1
    cases e2
    have ca := ca _ _ (ints_at l (·.1) _ s hs)
    have cx := cx _ _ (ints_at l (·.2) _ s hs)
    have cn := bn.cell
    have fn := bn.frozen
    have ln := bn.lt
    have cs := bs.cell
    have cr := br.cell
    have fr := br.frozen
    have lr := br.lt
    have cg := s2.blk.cell
    have U1 := Lib.hid f2
    have U2 := Lib.hid bn
    have U3 := Lib.hid bs
    have U4 := Lib.hid br
    have t1 : decide ((l.length : Int) ≤ (pre.length : Int)) = false := by simp; omega
    have t1' : decide (l.length ≤ pre.length) = false := by simp; omega
    have hs1 : pre <+: l → x = s → pre ++ [x] <+: l := fun hp he => by
      obtain ⟨m, rfl⟩ := hp
      rw [List.getElem?_append_right (Nat.le_refl _), Nat.sub_self] at hs
      cases m with
      | nil => simp at hs
      | cons a m => simp at hs; subst hs he; exact ⟨m, by simp⟩
    have hs2 : x ≠ s → ¬ pre ++ [x] <+: l := fun hne ⟨m, hm⟩ => by
      subst hm
      rw [List.append_assoc, List.getElem?_append_right (Nat.le_refl _), Nat.sub_self] at hs
      simp at hs
      exact hne hs
    have HS1 := Lib.hid hs1
    have HS2 := Lib.hid hs2
    clear f2 bn bs br hs hs1 hs2 s2
    obtain ⟨x1, x2⟩ := x
    obtain ⟨s1, s2⟩ := s
    simp only at ca cx ⊢
    by_cases d1 : x1 = s1
    rotate_left
    · have t2 : (x1 != s1) = true := by simpa using d1
      have HD : Hid ((x1, x2) ≠ (s1, s2)) := fun e => d1 (by injection e)
      clear d1
      gi_wp2_with fail
      (refine wpIn_region_round (by kernel_rfl) (by kernel_rfl) (by kernel_rfl) ?_; (repeat (gi_big_quiet_step (fail))); refine wpQuietIn_nil ?_; rintro _ ⟨nq, rfl⟩)
      gi_wp2_with fail
      have K1 : Keep (fun k => k = w.heap.size + 1) W ((W.drewN nq).setCell ⟨w.heap.size + 1, 0, none⟩ (.bool false)) := Keep.setCell (S := fun k => k = w.heap.size + 1) ((Keep.refl _ W).drewN nq) (fun _ => rfl) _
      exact ⟨(keepsOthers_of_keep K1 (by rintro k o rfl ho; exact blk_isCells U4.out ho)).from _, HS2.out HD.out⟩
    subst d1
    by_cases d2 : x2 = s2
    rotate_left
    · have t2 : (x2 != s2) = true := by simpa using d2
      have HD : Hid ((x1, x2) ≠ (x1, s2)) := fun e => d2 (by injection e)
      clear d2
      gi_wp2_with fail
      (refine wpIn_region_round (by kernel_rfl) (by kernel_rfl) (by kernel_rfl) ?_; (repeat (gi_big_quiet_step (fail))); refine wpQuietIn_nil ?_; rintro _ ⟨nq, rfl⟩)
      gi_wp2_with fail
      have K1 : Keep (fun k => k = w.heap.size + 1) W ((W.drewN nq).setCell ⟨w.heap.size + 1, 0, none⟩ (.bool false)) := Keep.setCell (S := fun k => k = w.heap.size + 1) ((Keep.refl _ W).drewN nq) (fun _ => rfl) _
      exact ⟨(keepsOthers_of_keep K1 (by rintro k o rfl ho; exact blk_isCells U4.out ho)).from _, HS2.out HD.out⟩
    subst d2
    gi_wp2_with fail
    (refine wpIn_region_round (by kernel_rfl) (by kernel_rfl) (by kernel_rfl) ?_; (repeat (gi_big_quiet_step (fail))); refine wpQuietIn_nil ?_; rintro _ ⟨nq, rfl⟩)
    gi_wp2_with fail
    have K1 : Keep (fun k => k = w3.heap.size) W ((W.drewN nq).setCell ⟨w3.heap.size, 0, none⟩ (.int .i64 (pre.length + 1))) := Keep.setCell (S := fun k => k = w3.heap.size) ((Keep.refl _ W).drewN nq) (fun _ => rfl) _
    refine ⟨(keepsOthers_of_keep K1 (by rintro k o rfl ho; exact blk_isCells U2.out ho)).from _, KeepsB.of_keep K1 (by omega), ⟨U1.out.step K1 (by rintro k hk rfl; omega), ?_⟩, ?_, ?_⟩
    · have := (U2.out.drewN nq).set_ 0 (.int .i64 ((pre.length : Int) + 1))
      simpa using this
    · exact (U3.out.drewN nq).far (by simp; omega) _
    · exact (U4.out.drewN nq).far (by simp; omega) _
  case done =>
    rintro D ys W hD rfl ⟨⟨f2, bn⟩, bs, br⟩ hK
    have s2 := H0.out.fresh f2
    have cn := bn.cell
    have cs := bs.cell
    have cg := s2.blk.cell
    have fr := br.frozen
    have lr := br.lt
    have cr := br.cell
    have te2 : ((ys.length : Int) == (ys.length : Int)) = true := by simp
    have U1 := Lib.hid f2
    have U4 := Lib.hid br
    have HK := Lib.hid hK
    have hDl := (Array.getElem?_eq_some_iff.1 hK).1
    clear f2 bn bs br hK s2
    gi_wp2_with fail
    refine wpIn_wide.2 ?_
    go_region
    have b4 : Blk (W.setCell ⟨w.heap.size + 1, 0, none⟩ (.bool true)).drew (w.heap.size + 1) 4 #[.bool true] := (U4.out.set_ 0 (.bool true)).drew
    have f4 : Fresh w (W.setCell ⟨w.heap.size + 1, 0, none⟩ (.bool true)).drew := (Keep.setCell U1.out (p := ⟨w.heap.size + 1, 0, none⟩) (fun h => by simp at h; omega) _).drew
    have k4 : (W.setCell ⟨w.heap.size + 1, 0, none⟩ (.bool true)).drew.heap[D]? = some (.deferred (some [])) := (Below.heap_setCell W _ _ D (by simp at hD ⊢; omega)).trans HK.out
    have c4 := b4.cell
    have F4 := Lib.hid f4
    have K4 := Lib.hid k4
    have B4 := Lib.hid b4
    clear b4 f4 k4 cr cn cs cg fr
    gi_wp2_with fail
    refine ⟨by simp, .inl ⟨_, _, rfl, run_takeDeferred K4.out, ?_⟩⟩
    have hr : ∀ r, some D = some r → ∃ o : Obj, (W.setCell ⟨w.heap.size + 1, 0, none⟩ (.bool true)).drew.heap[r]? = some o ∧ o.isCells = false := fun r e => by cases e; exact ⟨_, K4.out, rfl⟩
    have c5 := (blk_grown B4.out (grownBy_putObj' _ D (.deferred none)) hr).cell
    have f5 := ownFrom_fresh (β := Unit) (Nat.le_refl w.heap.size) () _ _ _ F4.out (grownBy_putObj' _ D (.deferred none)) (fun r e => by cases e; exact ⟨by simp at hD; omega, _, K4.out, rfl⟩)
    clear c4
    exact ⟨.bool true, by simp [results, Try.results18, go_sem, c5]; try rfl, rfl, f5⟩
  case stop =>
    rintro D c pre W _ hp hn _
    exact (hn hp).elim
end Go.Proofs.Ytehiakdagmocjaa
