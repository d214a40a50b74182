/-
  saves.Row[int].Times.
-/
import Derived.Test.YtehiakdagmocjaaIter
namespace Go.Proofs.Ytehiakdagmocjaa
open Go.RowKit Go.Shelf R_int
attribute [local go_sem] Oper.semAt_some

def TimesPost (l : List (Int × Int)) (w : World) (e : Ending) (w' : World) : Prop :=
  ∃ v', e = .returned v' ∧ OwnS w' 3 1 v' l.length (ints (l.map (·.1))) ∧ Fresh w w' ∧ ∀ k, v'.ownBlock = some k → w.heap.size ≤ k

/-- what the loop's own cells hold when pre has come -/
def TimesInv (w : World) (pre : List (Int × Int)) (W : World) : Prop :=
  (∃ v, Blk W w.heap.size 33 #[v] ∧ OwnS W 3 1 v pre.length (ints (pre.map (·.1))) ∧ ∀ k, v.ownBlock = some k → w.heap.size ≤ k) ∧ Fresh w W

theorem timesInv_own (w : World) (B : Nat) (hB : w.heap.size ≤ B) : OwnFrom B (TimesInv w) := by
  intro pre X Y row hs hg hr
  obtain ⟨⟨v, h1, h2, h3⟩, h4⟩ := hs
  have hr' : ∀ r, row = some r → ∃ o : Obj, X.heap[r]? = some o ∧ o.isCells = false := fun r e => (hr r e).2
  exact ⟨⟨v, blk_grown h1 hg hr', ownS_grown h2 hg hr', h3⟩, ownFrom_fresh (β := Unit) hB () X Y row h4 hg hr⟩

set_option maxRecDepth 100000 in
set_option maxHeartbeats 2000000 in
theorem times_any (g : Nat) (v : Value) (l : List (Int × Int)) (w : World) (h : SRow w g v l) (h1 : 0 < l.length) (hl : l.length ≤ 100000) :
    Calls Try.prog 15 #[.pointer (some ⟨g, 0, none⟩)] w (TimesPost l w) := by
  refine (callsIn_wide (n := 6)).1 ?_
  refine callsIn_of_wp_marks Try.func15 rfl trivial ?_ rfl
  simp only [Try.ntmps15, List.size_toArray, List.length_cons, List.length_nil, Nat.reduceAdd, Nat.reduceSub, Array.replicate_succ, Array.replicate_zero, List.push_toArray, List.append_toArray, List.nil_append, List.cons_append]
  have HS := Lib.hid h
  clear h
  have hsF : SRow (w.alloc (.cells #[.slice none 0 0] 33)) g v l := HS.out.fresh ((Keep.refl _ w).alloc _)
  have HS2 := Lib.hid hsF
  clear hsF HS
  obtain ⟨i0, hi, hz0, hz1, hz2⟩ := info_parts info_int
  gi_wp2_with fail
  refine ⟨trivial, ?_⟩
  refine (callsIn_wide.2 (all_any g v l _ HS2.out h1 hl)).mono ?_
  rintro e w1 ⟨v1, rfl, b1, o1, f1, n1⟩
  obtain ⟨g', off, cap, rfl, _, _, _, _⟩ := o1.form h1
  rw [World.size_alloc] at b1
  have F1 : Fresh w w1 := ((Keep.refl _ w).alloc _).step f1 (fun _ _ h => h)
  have B0 : Blk w1 w.heap.size 33 #[.slice none 0 0] := f1.blk_ (Blk.new w 33 #[.slice none 0 0])
  have hg' : w.heap.size + 1 ≤ g' := by simpa using n1 g' rfl
  have hsz := b1.lt
  have Q1 := Lib.hid b1
  have Q2 := Lib.hid o1
  have Q3 := Lib.hid F1
  have Q4 := Lib.hid B0
  clear b1 o1 F1 B0 f1 n1 HS2
  gi_wp2_with fail
  refine wpIn_rangeFunc_ownG rfl (by omega) (gf := 35) (lb := #[.pointer (some ⟨w.heap.size + 1, 0, none⟩)]) rfl trivial (enters_of Try.func35 (by kernel_rfl) rfl)
    (all_stops Fence.wide (6 - 1) trivial rfl (by omega) (w.heap.size + 1) g' off cap l hl w1 Q1.out Q2.out) keepsB_t keepsB_b (Below.refl _ _) (fun _ => rfl)
    (TimesInv w) (fun _ _ _ => False) (timesInv_own w _ (by omega)) (fun _ _ _ _ _ hs _ _ => hs)
    ⟨⟨.slice none 0 0, Q4.out, OwnS.nil _ _ _, fun k hk => by simp [Value.ownBlock] at hk⟩, Q3.out⟩
    (fun x => { tmps := #[.pointer (some ⟨g, 0, none⟩), undef, .slice none 0 0, .pointer (some ⟨w.heap.size, 0, none⟩), .int .i64 x.1, .pointer (some ⟨g, 0, none⟩), .func (.func 35) #[] #[.pointer (some ⟨w.heap.size + 1, 0, none⟩)], .int .i64 x.1, .int .i64 x.2, undef, undef, undef, undef, undef], defers := [] }) ?assign ?body ?done ?stop
  case assign =>
    intro lp x W K hK
    gi_wp2
    exact hK
  case body =>
    rintro lp pre x W ⟨⟨v2, b2, o2, n2⟩, f2⟩ hlt
    obtain ⟨A2, cap2, rfl, _, _⟩ := o2.shape
    have c2 := b2.cell
    have r2 := b2.frozen
    have l2 := b2.lt
    have ne2 := o2.ne_blk b2 (by decide)
    have HC : Hid (Src (W.alloc (.cells #[.int .i64 x.1] 3)) 1 (.slice (some ⟨W.heap.size, 0, none⟩) 1 1) 1 (ints [x.1])) := Src.one_new W 3 1 #[.int .i64 x.1] rfl
    have h01 : 0 < 1 := by omega
    have hL1 : pre.length + 1 ≤ maxLen := one_le_maxLen (by omega)
    have hL2 : (pre.length + 1) * 8 ≤ 140737488355328 := by omega
    have U1 := Lib.hid b2
    have U2 := Lib.hid o2
    have U3 := Lib.hid n2
    have U4 := Lib.hid f2
    have U5 := Lib.hid ne2
    clear b2 o2 n2 f2 ne2
    gi_wp2_with (gi_at_builtin; refine wpListIn_append_OwnS _ rfl _ _ 33 rfl 3 i0 (.int .i64 0) 1 8 Try.underlying33 hi hz0 hz1 hz2 rfl h01 (.slice A2 pre.length cap2) pre.length (ints (pre.map (·.1))) rfl (U2.out.alloc _) (.slice (some ⟨W.heap.size, 0, none⟩) 1 1) 1 (ints [x.1]) rfl HC.out (ints_one _) hL1 hL2 ?_; intro v3 w3 o3 k3 n3; obtain ⟨A3, cap3, rfl, _, _⟩ := o3.shape; have b3 := (U1.out.alloc (.cells #[.int .i64 x.1] 3)).keep k3 U5.out; have c3 := b3.cell; have r3 := b3.frozen; have l3 := b3.lt; have V1 := Lib.hid b3; have V2 := Lib.hid o3; have V3 := Lib.hid k3; have V4 := Lib.hid n3; clear b3 o3 k3 n3)
    have K1 : Keep (fun k => k = w.heap.size ∨ (Value.slice A2 pre.length cap2).ownBlock = some k) W (w3.setCell ⟨w.heap.size, 0, none⟩ (.slice A3 (pre.length + 1) cap3)) :=
      (((Keep.refl _ W).alloc _).step V3.out (fun _ _ h => .inr h)).setCell (fun _ => .inl rfl) _
    refine ⟨(keepsOthers_of_keep K1 ?_).from _, KeepsB.of_keep' K1 ?_, ⟨.slice A3 (pre.length + 1) cap3, V1.out.set_ 0 _, ?_, ?_⟩, ?_⟩
    · rintro k o (rfl | hk) ho
      · exact blk_isCells U1.out ho
      · exact own_isCells U2.out hk ho
    · rintro cur hcur (h | h)
      · omega
      · exact own_ne_type U2.out (by decide) hcur h
    · have := V2.out.far (p := ⟨w.heap.size, 0, none⟩) (V2.out.ne_blk V1.out (by decide)) (.slice A3 (pre.length + 1) cap3)
      simpa [ints] using this
    · intro k hk
      rcases V4.out k hk with h | h
      · exact U3.out k h
      · have := U4.out.size
        simp at h
        omega
    · exact U4.out.step K1 (by
        rintro k hk (h | h)
        · omega
        · have := U3.out k h; omega)
  case done =>
    rintro D ys W hD rfl hI hK
    obtain ⟨⟨v2, b2, o2, n2⟩, f2⟩ := hI
    have hr : ∀ r, some D = some r → ∃ o : Obj, W.heap[r]? = some o ∧ o.isCells = false := fun r e => by cases e; exact ⟨_, hK, rfl⟩
    have o3 := ownS_grown o2 (grownBy_putObj' W D (.deferred none)) hr
    have f3 := ownFrom_fresh (β := Unit) (show w.heap.size ≤ w1.heap.size by omega) () W _ _ f2 (grownBy_putObj' W D (.deferred none)) (fun r e => by cases e; exact ⟨hD, _, hK, rfl⟩)
    have c2 := b2.cell
    obtain ⟨A2, cap2, rfl, _, _⟩ := o2.shape
    have l2 := b2.lt
    have U1 := Lib.hid o3
    have U2 := Lib.hid f3
    have U3 := Lib.hid n2
    clear b2 o2 n2 f2 o3 f3
    gi_wp2
    refine ⟨by simp, .inl ⟨_, _, rfl, run_takeDeferred hK, ?_⟩⟩
    exact ⟨_, results_tmp rfl _ _ _, .slice A2 ys.length cap2, rfl, U1.out, U2.out, U3.out⟩
  case stop =>
    rintro D c pre W _ _ h _
    exact h.elim
end Go.Proofs.Ytehiakdagmocjaa
