/-
  The law's packets, of the same list twice.
-/
import Derived.Test.YtgakggkffapnlaaDoes
import Derived.Test.YtgakggkffapnlaaRest
import Derived.Test.YtgakggkffapnlaaRoundGrow
namespace Go.Proofs.Ytgakggkffapnlaa
open Go.RowKit Go.Shelf R_int Go.Sort
attribute [local go_sem] Oper.semAt_some
theorem run_eql_func' (fn : Fn) (a b : Array Value) (w : World) : (binOp .eql 37 (.func fn a b) .nilFunc).run Try.prog w = .ok (.bool false) w := by
  first | rfl | (kernel_rfl)
attribute [local go_sem] run_eql_func'

theorem packet_grow (p q : Pk) (W : World) (z : GZ) : Calls Try.prog 28 #[.agg #[.int .i64 p.no, .int .i64 p.fr, .int .i64 p.to, .int .i64 p.x], .agg #[.int .i64 q.no, .int .i64 q.fr, .int .i64 q.to, .int .i64 q.x]] (gz W z) fun e w' => e = .returned (.bool (pkB p q)) ∧ ∃ z' : GZ, w' = gz W z' := by
  obtain ⟨a, b, c, x⟩ := p
  obtain ⟨a', b', c', x'⟩ := q
  unfold pkB
  simp only
  have FIN : Hid (∀ A B : Obj, ∃ z' : GZ, ((gz W z).alloc A).alloc B = gz W z') := fun A B => ⟨_, by rw [gz_alloc, gz_alloc]⟩
  obtain ⟨Wg, hW⟩ : ∃ Wg, gz W z = Wg := ⟨_, rfl⟩
  rw [hW] at FIN ⊢
  clear hW
  cases h1 : (a == a')
  · simp only [Bool.false_and]
    go_enter Try.func28, Try.ntmps28
    go_wp2
    go_ret
    exact ⟨rfl, FIN.out _ _⟩
  cases h2 : (b == b')
  · simp only [Bool.false_and, Bool.true_and]
    go_enter Try.func28, Try.ntmps28
    go_wp2
    go_ret
    exact ⟨rfl, FIN.out _ _⟩
  cases h3 : (c == c')
  · simp only [Bool.false_and, Bool.true_and]
    go_enter Try.func28, Try.ntmps28
    go_wp2
    go_ret
    exact ⟨rfl, FIN.out _ _⟩
  simp only [Bool.true_and]
  cases h4 : (x == x')
  all_goals
    go_enter Try.func28, Try.ntmps28
    go_wp2
    go_ret
    exact ⟨rfl, FIN.out _ _⟩
theorem pkB_eq {p q : Pk} (h : pkB p q = true) : p = q := by
  obtain ⟨a, b, c, x⟩ := p
  obtain ⟨a', b', c', x'⟩ := q
  simp [pkB] at h
  simp [h]
theorem pkB_self (p : Pk) : pkB p p = true := by simp [pkB]

set_option maxRecDepth 100000 in
set_option maxHeartbeats 4000000 in
theorem packets_same (ib : Nat) (v' vr : Value) (l : List Pk) (w : World) (hb : Blk w ib 58 #[v']) (ho : OwnS w 41 4 v' l.length (cells l)) (hr : OwnS w 71 4 vr l.length (cells l)) (hl : l.length ≤ 100000) :
    Calls Try.prog 20 #[.func (.func 45) #[] #[.pointer (some ⟨ib, 0, none⟩)], vr] w fun e w' => e = .returned (.bool true) ∧ Fresh w w' := by
  obtain ⟨A, capr, rfl, hnc, hmc⟩ := hr.shape
  have hmc : capr ≤ 9223372036854775807 := by unfold maxLen at hmc; omega
  have F0 : Fresh w (((w.alloc (.cells #[.slice A l.length capr] 30)).alloc (.cells #[.bool false] 4)).alloc (.cells #[.int .i64 0] 3)) := (((Keep.refl _ w).alloc _).alloc _).alloc _
  have BS := ((Blk.new w 30 #[.slice A l.length capr]).alloc (.cells #[.bool false] 4)).alloc (.cells #[.int .i64 0] 3)
  have BR : Blk (((w.alloc (.cells #[.slice A l.length capr] 30)).alloc (.cells #[.bool false] 4)).alloc (.cells #[.int .i64 0] 3)) (w.heap.size + 1) 4 #[.bool false] := (Blk.at_new (by simp) _ _).alloc _
  have BN : Blk (((w.alloc (.cells #[.slice A l.length capr] 30)).alloc (.cells #[.bool false] 4)).alloc (.cells #[.int .i64 0] 3)) (w.heap.size + 1 + 1) 3 #[.int .i64 0] := Blk.at_new (by simp) _ _
  have HB := Lib.hid hb
  have HO := Lib.hid ho
  have HR := Lib.hid hr
  clear hb ho hr
  refine (callsIn_wide (n := 6)).1 ?_
  refine callsIn_of_wp_marks Try.func20 rfl trivial ?_ rfl
  simp only [Try.ntmps20, List.size_toArray, List.length_cons, List.length_nil, Nat.reduceAdd, Nat.reduceSub, Array.replicate_succ, Array.replicate_zero, List.push_toArray, List.append_toArray, List.nil_append, List.cons_append]
  gi_wp2_with fail
  obtain ⟨w1, hw1⟩ : ∃ w1, (((w.alloc (.cells #[.slice A l.length capr] 30)).alloc (.cells #[.bool false] 4)).alloc (.cells #[.int .i64 0] 3)) = w1 := ⟨_, rfl⟩
  rw [hw1] at F0 BS BR BN ⊢
  have HF := Lib.hid F0
  have KS := Lib.hid BS
  have KR := Lib.hid BR
  have KN := Lib.hid BN
  have szF := F0.size
  have szN := BN.lt
  clear hw1 F0 BS BR BN
  refine wpIn_rangeFunc_ownH rfl (by omega) (gf := 45) (lb := #[.pointer (some ⟨ib, 0, none⟩)]) rfl trivial (enters_of Try.func45 (by kernel_rfl) rfl)
    (those_stops Fence.wide (6 - 1) trivial rfl (by omega) ib v' l (by omega) w1 (HF.out.blk_ HB.out) (HO.out.fresh HF.out)) keepsB_t keepsB_b (Below.refl _ _) (fun _ => rfl)
    (fun pre W => (Fresh w W ∧ Blk W w.heap.size 30 #[.slice A l.length capr]) ∧ (Blk W (w.heap.size + 1) 4 #[.bool false] ∧ Blk W (w.heap.size + 1 + 1) 3 #[.int .i64 (pre.length : Nat)]))
    (fun _ pre _ => ¬ pre <+: l) ?own (fun _ _ _ _ _ hs _ _ => hs)
    ⟨⟨HF.out, KS.out⟩, KR.out, KN.out⟩
    (fun x a' W => ∃ Bx, Blk W Bx 41 #[.int .i64 x.no, .int .i64 x.fr, .int .i64 x.to, .int .i64 x.x] ∧ a' = { tmps := #[.func (.func 45) #[] #[.pointer (some ⟨ib, 0, none⟩)], .slice A l.length capr, undef, .pointer (some ⟨w.heap.size, 0, none⟩), .pointer (some ⟨w.heap.size + 1, 0, none⟩), .pointer (some ⟨w.heap.size + 1 + 1, 0, none⟩), .pointer (some ⟨Bx, 0, none⟩), .func (.func 45) #[] #[.pointer (some ⟨ib, 0, none⟩)], .bool false, .func (.func 45) #[] #[.pointer (some ⟨ib, 0, none⟩)], .agg #[.int .i64 x.no, .int .i64 x.fr, .int .i64 x.to, .int .i64 x.x], undef, undef, undef, undef, undef, undef, undef, undef, undef, undef, undef, undef, undef, undef, undef, undef, undef, undef, undef], defers := [] }) ?ax ?assign ?body ?done ?stop
  case own =>
    intro pre X Y row hs hg hr
    have hr' : ∀ r, row = some r → ∃ o : Obj, X.heap[r]? = some o ∧ o.isCells = false := fun r e => (hr r e).2
    obtain ⟨⟨f, s⟩, r, n⟩ := hs
    exact ⟨⟨ownFrom_fresh (β := Unit) (by omega) () X Y row f hg hr, blk_grown s hg hr'⟩, blk_grown r hg hr', blk_grown n hg hr'⟩
  case ax =>
    rintro x a' u X Y row ⟨Bx, h2, h3⟩ hg hr
    exact ⟨Bx, blk_grown h2 hg (fun r e => (hr r e).2), h3⟩
  case assign =>
    rintro lp pre x W K ⟨⟨f, s⟩, r, n⟩ hK
    unfold enc
    gi_wp2
    exact hK _ _ ((KeepsOthers.alloc _ _).from _) ((KeepsB.refl _ _ _).alloc _) ⟨⟨f.alloc _, s.alloc _⟩, r.alloc _, n.alloc _⟩ ⟨W.heap.size, Blk.new W _ _, rfl⟩
  case body =>
    rintro lp pre x a' W hlp hrec ⟨⟨f, s⟩, r, n⟩ ⟨Bx, bx, rfl⟩ hlt
    obtain ⟨q, hq⟩ : ∃ q, l[pre.length]? = some q := ⟨_, List.getElem?_eq_getElem hlt⟩
    obtain ⟨ga, offa, capa, hv, _, _, _, cc⟩ := (HR.out.fresh f).form (by omega)
    injection hv with e1 _ e3
    subst e1 e3
    have hgo : ∀ (z : GZ), (∀ j u, (cells l)[j]? = some u → (gz W z).cell? ⟨ga, offa + j, none⟩ = some u) := fun z j u hu => (gz_fresh W z).cell_ (cc j u hu)
    have hs1 : pre <+: l → x = q → pre ++ [x] <+: l := fun hp he => by
      obtain ⟨m, rfl⟩ := hp
      rw [List.getElem?_append_right (Nat.le_refl _), Nat.sub_self] at hq
      cases m with
      | nil => simp at hq
      | cons a m => simp at hq; subst hq he; exact ⟨m, by simp⟩
    have hs2 : x ≠ q → ¬ pre ++ [x] <+: l := fun hne ⟨m, hm⟩ => by
      subst hm
      rw [List.append_assoc, List.getElem?_append_right (Nat.le_refl _), Nat.sub_self] at hq
      simp at hq
      exact hne hq
    obtain ⟨q0, q1, q2, q3⟩ := cells_at l pre.length q hq
    have k0 := fun (z : GZ) => hgo z _ _ q0
    have k1 := fun (z : GZ) => hgo z _ _ q1
    have k2 := fun (z : GZ) => hgo z _ _ q2
    have k3 := fun (z : GZ) => hgo z _ _ q3
    simp only [← Nat.add_assoc] at k1 k2 k3
    have kX := fun (z : GZ) (i : Nat) => bx.gz_ z i
    have kN := fun (z : GZ) (i : Nat) => n.gz_ z i
    have kS := fun (z : GZ) (i : Nat) => s.gz_ z i
    have t1 : decide ((l.length : Int) ≤ (pre.length : Int)) = false := by simp; omega
    have t1' : decide (l.length ≤ pre.length) = false := by simp; omega
    have HS2 := Lib.hid hs2
    have U1 := Lib.hid f
    have U2 := Lib.hid s
    have U3 := Lib.hid r
    have U4 := Lib.hid n
    have PK := Lib.hid (fun (z : GZ) => packet_grow x q W z)
    clear hs1 hs2 hgo cc hq q0 q1 q2 q3 f s r n bx hrec
    have hfw : Fence.wide.fn 28 := trivial
    cases hpk : pkB x q
    · rw [hpk] at PK
      have HNE : Hid (x ≠ q) := Lib.hid (by rintro rfl; rw [pkB_self] at hpk; cases hpk)
      clear hpk
      gi_wp2_with fail
      refine wpIn_region_grow (by kernel_rfl) (by kernel_rfl) (by kernel_rfl) ?_
      repeat (gi_big_quiet_step ((gi_at_call 28; exact CallsIn.inRound lp (callsIn_wide.2 (PK.out _)))))
      refine wpQuietIn_nil ?_
      rintro W2 ⟨zq, hW2⟩
      have f2 : Fresh W W2 := hW2 ▸ gz_fresh W zq
      have r2 := f2.blk_ U3.out
      have cr := r2.cell
      have fr := r2.frozen
      have lr := r2.lt
      have K1 : Keep (fun k => k = w.heap.size + 1) W (W2.setCell ⟨w.heap.size + 1, 0, none⟩ (.bool false)) := Keep.setCell (S := fun k => k = w.heap.size + 1) (f2.more (fun _ _ h => h.elim)) (fun _ => rfl) _
      have HK1 := Lib.hid K1
      clear hW2 f2 r2 K1 k0 k1 k2 k3 kX kN kS
      gi_wp2_with fail
      exact ⟨(keepsOthers_of_keep HK1.out (by rintro k o rfl ho; exact blk_isCells U3.out ho)).from _, HS2.out HNE.out⟩
    · rw [hpk] at PK
      clear hpk
      gi_wp2_with fail
      refine wpIn_region_grow (by kernel_rfl) (by kernel_rfl) (by kernel_rfl) ?_
      repeat (gi_big_quiet_step ((gi_at_call 28; exact CallsIn.inRound lp (callsIn_wide.2 (PK.out _)))))
      refine wpQuietIn_nil ?_
      rintro W2 ⟨zq, hW2⟩
      have f2 : Fresh W W2 := hW2 ▸ gz_fresh W zq
      have n2 := f2.blk_ U4.out
      have cn := n2.cell
      have fn := n2.frozen
      have ln := n2.lt
      have hwn : IntKind.i64.wrap ((pre.length : Int) + 1) = (pre.length : Int) + 1 := IntWalk.i64_in _ (by omega)
      have F2 := Lib.hid f2
      have N2 := Lib.hid n2
      clear hW2 f2 n2 k0 k1 k2 k3 kX kN kS
      gi_wp2_with fail
      have K1 : Keep (fun k => k = w.heap.size + 1 + 1) W (W2.setCell ⟨w.heap.size + 1 + 1, 0, none⟩ (.int .i64 ((pre.length : Int) + 1))) := Keep.setCell (S := fun k => k = w.heap.size + 1 + 1) (F2.out.more (fun _ _ h => h.elim)) (fun _ => rfl) _
      refine ⟨(keepsOthers_of_keep K1 (by rintro k o rfl ho; exact blk_isCells U4.out ho)).from _, KeepsB.of_keep' K1 ?_, ⟨U1.out.step K1 (by rintro k hk rfl; omega), U2.out.keep K1 (by omega)⟩, U3.out.keep K1 (by omega), ?_⟩
      · rintro cur hcur h
        rw [h] at hcur
        have := U4.out
        unfold Blk at this
        rw [this] at hcur
        cases hcur
      · have := N2.out.set_ 0 (.int .i64 ((pre.length : Int) + 1))
        simpa using this
  case done =>
    rintro D ys W hD rfl ⟨⟨f, s⟩, r, n⟩ hK
    have hDl := (Array.getElem?_eq_some_iff.1 hK).1
    have cs := s.cell
    have cn := n.cell
    have cr := r.cell
    have fr := r.frozen
    have lr := r.lt
    have te : ((ys.length : Int) == (ys.length : Int)) = true := by simp
    have V1 := Lib.hid f
    have V2 := Lib.hid r
    have VK := Lib.hid hK
    clear f s r n hK
    gi_wp2_with fail
    have b4 := V2.out.set_ 0 (.bool true)
    have k1 : Keep (fun k => k = w.heap.size + 1) W (W.setCell ⟨w.heap.size + 1, 0, none⟩ (.bool true)) := Keep.setCell (S := fun k => k = w.heap.size + 1) (Keep.refl _ _) (fun _ => rfl) _
    have kD := (k1.block D hDl (by omega)).trans VK.out
    have f4 : Fresh w (W.setCell ⟨w.heap.size + 1, 0, none⟩ (.bool true)) := V1.out.step k1 (fun i hi e => by omega)
    refine ⟨by simp, .inl ⟨_, _, rfl, run_takeDeferred kD, ?_⟩⟩
    have hr : ∀ r, some D = some r → ∃ o : Obj, (W.setCell ⟨w.heap.size + 1, 0, none⟩ (.bool true)).heap[r]? = some o ∧ o.isCells = false := fun r e => by cases e; exact ⟨_, kD, rfl⟩
    have c5 := (blk_grown b4 (grownBy_putObj' _ D (.deferred none)) hr).cell
    have f5 := ownFrom_fresh (β := Unit) (Nat.le_refl w.heap.size) () _ _ _ f4 (grownBy_putObj' _ D (.deferred none)) (fun r e => by cases e; exact ⟨by omega, _, kD, rfl⟩)
    clear cr
    exact ⟨.bool true, by simp [results, Try.results20, go_sem, c5]; try rfl, rfl, f5⟩
  case stop =>
    rintro D c pre W _ hp hn _
    exact (hn hp).elim
end Go.Proofs.Ytgakggkffapnlaa
