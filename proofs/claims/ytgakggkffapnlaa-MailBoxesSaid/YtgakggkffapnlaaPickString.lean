/-
  mail.Net[string].Pick.
-/
import Derived.Test.YtgakggkffapnlaaToString
namespace Go.Proofs.Ytgakggkffapnlaa.R_str
open Go.RowKit Go.Shelf
attribute [local go_sem] Oper.semAt_some

def ints (l : List Int) : List Value := l.map fun x => .int .i64 x
theorem ints_one (l : List Int) : ∀ u ∈ ints l, u.oneCell' = true := by
  intro u hu
  simp only [ints, List.mem_map] at hu
  obtain ⟨x, _, rfl⟩ := hu
  rfl
theorem info_int : (Try.prog.info? 3).map (fun i => (i.zero, i.size, i.bytes)) = some (some (.int .i64 0), 1, 8) := by kernel_rfl
/-- which one Pick takes -/
def idxW (which : Int) (n : Nat) : Int := if which.tmod n < 0 then which.tmod n + n else which.tmod n
theorem idxW_in (which : Int) (n : Nat) (hn : 0 < n) : 0 ≤ idxW which n ∧ idxW which n < n := by
  unfold idxW
  have h1 := Int.tmod_lt_of_pos which (show (0 : Int) < n by omega)
  have h2 := Int.tmod_lt_of_pos (-which) (show (0 : Int) < n by omega)
  rw [Int.neg_tmod] at h2
  split <;> omega
/-- what Pick leaves -/
def PickP (g : Nat) (v : Value) (bx nx : Int) (l : List Pk) (to which : Int) (w : World) (e : Ending) (w' : World) : Prop :=
  (toL l to = [] ∧ e = .returned (.tuple #[.agg #[.int .i64 0, .int .i64 0, .int .i64 0, .string ByteArray.empty], .int .i64 14]) ∧ Fresh w w') ∨
  ∃ (i : Nat) (p : Pk), (i : Int) = idxW which (toL l to).length ∧ (toL l to)[i]? = some p ∧ TakeP g v bx nx l p.no w e w'
theorem pick_nil (to which : Int) (w : World) :
    Calls Try.prog 24 #[.pointer none, .int .i64 to, .int .i64 which] w fun e w' => e = .returned (.tuple #[.agg #[.int .i64 0, .int .i64 0, .int .i64 0, .string ByteArray.empty], .int .i64 2]) ∧ Fresh w w' := by
  go_enter Try.func24, Try.ntmps24
  go_wp2
  refine bodyPost_ret (v := .tuple #[.agg #[.int .i64 0, .int .i64 0, .int .i64 0, .string ByteArray.empty], .int .i64 2]) (by simp [results, Try.results24, go_sem]; try rfl) rfl ?_
  refine ⟨rfl, ?_⟩
  repeat (first | exact Keep.refl _ _ | refine Keep.setCell ?_ (fun h => by simp at h; try omega) _ | refine Keep.alloc ?_ _)
theorem pick_bad (g : Nat) (v : Value) (bx nx to which : Int) (l : List Pk) (w : World) (h : SNet w g v bx nx l) (hb : boxB bx to = false) :
    Calls Try.prog 24 #[.pointer (some ⟨g, 0, none⟩), .int .i64 to, .int .i64 which] w fun e w' => e = .returned (.tuple #[.agg #[.int .i64 0, .int .i64 0, .int .i64 0, .string ByteArray.empty], .int .i64 1]) ∧ Fresh w w' := by
  have F0 : Fresh w (w.alloc (.cells #[.int .i64 0, .int .i64 0, .int .i64 0, .string ByteArray.empty] 66)) := (Keep.refl _ _).alloc _
  have BX := box_any g v bx nx to l _ (h.fresh F0)
  rw [hb] at BX
  have HX := Lib.hid BX
  clear BX hb h F0
  go_enter Try.func24, Try.ntmps24
  go_wp2_with fail
  refine HX.out.mono ?_
  rintro e w1 ⟨rfl, rfl⟩
  go_wp2_with fail
  refine bodyPost_ret (v := .tuple #[.agg #[.int .i64 0, .int .i64 0, .int .i64 0, .string ByteArray.empty], .int .i64 1]) (by simp [results, Try.results24, go_sem]; try rfl) rfl ?_
  refine ⟨rfl, ?_⟩
  repeat (first | exact Keep.refl _ _ | refine Keep.setCell ?_ (fun h => by simp at h; try omega) _ | refine Keep.alloc ?_ _)
theorem Blk.set4 {w : World} {g : Nat} {t : TypeId} {a0 a1 a2 a3 : Value} (h : Blk w g t #[a0, a1, a2, a3]) (b0 b1 b2 b3 : Value) :
    Blk ((((w.setCell ⟨g, 0, none⟩ b0).setCell ⟨g, 1, none⟩ b1).setCell ⟨g, 2, none⟩ b2).setCell ⟨g, 3, none⟩ b3) g t #[b0, b1, b2, b3] := by
  have := (((h.set_ 0 b0).set_ 1 b1).set_ 2 b2).set_ 3 b3
  simpa using this
theorem keep4 (w : World) (g : Nat) (b0 b1 b2 b3 : Value) : Keep (fun k => k = g) w ((((w.setCell ⟨g, 0, none⟩ b0).setCell ⟨g, 1, none⟩ b1).setCell ⟨g, 2, none⟩ b2).setCell ⟨g, 3, none⟩ b3) := by
  repeat (first | exact Keep.refl _ _ | refine Keep.setCell ?_ ?_ _ | exact fun _ => rfl)
theorem TakeP.from {g : Nat} {v : Value} {bx nx : Int} {l : List Pk} {no : Int} {w w2 : World} {e : Ending} {w' : World} (f : Fresh w w2) (h : TakeP g v bx nx l no w2 e w') : TakeP g v bx nx l no w e w' := by
  rcases h with ⟨i, p, h1, h2, h3, h4, v', h5, h6, h7⟩ | ⟨h1, h2, h3⟩
  · refine .inl ⟨i, p, h1, h2, h3, h4, v', h5, ?_, fun k hk => (h7 k hk).imp id (fun h => Nat.le_trans f.size h)⟩
    exact (f.more (fun _ _ h => h.elim)).step h6 (fun _ _ h => h)
  · exact .inr ⟨h1, h2, f.step h3 (fun _ _ h => h)⟩
theorem TakeP.both {g : Nat} {v : Value} {bx nx : Int} {l : List Pk} {no : Int} {w W w2 : World} {e : Ending} {X : World} {S : Nat → Prop} (f : Fresh w W) (h : TakeP g v bx nx l no W e w2) (k : Keep S w2 X) (hS : ∀ i, S i → w.heap.size ≤ i ∧ i < W.heap.size) (hf : ∀ i, foot g v i → i < w.heap.size) : TakeP g v bx nx l no w e X := by
  rcases h with ⟨i, p, h1, h2, h3, h4, v', h5, h6, h7⟩ | ⟨h1, h2, h3⟩
  · refine .inl ⟨i, p, h1, h2, h3, h4, v', h5.kept k (fun hs => ?_) (fun j hj hs => ?_), ?_, fun k hk => (h7 k hk).imp id (fun h => Nat.le_trans f.size h)⟩
    · have := (hS g hs).1
      have := hf g (.inl rfl)
      omega
    · have a := hS j hs
      rcases h7 j hj with h | h
      · have := hf j (.inr h)
        omega
      · omega
    · exact ((f.more (fun _ _ h => h.elim)).step h6 (fun _ _ h => h)).step k (fun j hj hs => by have := (hS j hs).1; omega)
  · exact .inr ⟨h1, h2, (f.step h3 (fun _ _ h => h)).step k (fun j hj hs => by have := (hS j hs).1; omega)⟩
theorem TakeP.keeps {g : Nat} {v : Value} {bx nx : Int} {l : List Pk} {no : Int} {w w2 : World} {e : Ending} (h : TakeP g v bx nx l no w e w2) : Keep (foot g v) w w2 := by
  rcases h with ⟨i, p, h1, h2, h3, h4, v', h5, h6, h7⟩ | ⟨h1, h2, h3⟩
  · exact h6
  · exact h3.more (fun _ _ h => h.elim)
theorem TakeP.ends {g : Nat} {v : Value} {bx nx : Int} {l : List Pk} {no : Int} {w w2 : World} {e : Ending} (h : TakeP g v bx nx l no w e w2) : ∃ (a b c : Int) (x : ByteArray) (r : Int), e = .returned (.tuple #[.agg #[.int .i64 a, .int .i64 b, .int .i64 c, Value.string x], .int .i64 r]) := by
  rcases h with ⟨i, p, h1, h2, h3, h4, v', h5, h6, h7⟩ | ⟨h1, h2, h3⟩
  · exact ⟨_, _, _, _, _, h4⟩
  · exact ⟨_, _, _, _, _, h2⟩
set_option maxRecDepth 100000 in
set_option maxHeartbeats 4000000 in
theorem pick_ok (g : Nat) (v : Value) (bx nx to which : Int) (l : List Pk) (w : World) (h : SNet w g v bx nx l) (hb : boxB bx to = true) (hl : l.length ≤ 100000) :
    Calls Try.prog 24 #[.pointer (some ⟨g, 0, none⟩), .int .i64 to, .int .i64 which] w (PickP g v bx nx l to which w) := by
  have F0 : Fresh w (w.alloc (.cells #[.int .i64 0, .int .i64 0, .int .i64 0, .string ByteArray.empty] 66)) := (Keep.refl _ _).alloc _
  have BR := Blk.new w 66 #[.int .i64 0, .int .i64 0, .int .i64 0, .string ByteArray.empty]
  have BX := box_any g v bx nx to l _ (h.fresh F0)
  rw [hb] at BX
  have HX := Lib.hid BX
  have H0 := Lib.hid h
  have HR := Lib.hid BR
  have HF := Lib.hid F0
  clear BX hb h BR F0
  refine (callsIn_wide (n := 6)).1 ?_
  refine callsIn_of_wp_marks Try.func24 rfl trivial ?_ rfl
  simp only [Try.ntmps24, List.size_toArray, List.length_cons, List.length_nil, Nat.reduceAdd, Nat.reduceSub, Array.replicate_succ, Array.replicate_zero, List.push_toArray, List.append_toArray, List.nil_append, List.cons_append]
  gi_wp2_with fail
  refine ⟨trivial, ?_⟩
  refine (callsIn_wide.2 HX.out).mono ?_
  rintro e w1 ⟨rfl, rfl⟩
  gi_wp2_with fail
  refine ⟨trivial, ?_⟩
  have FL : Fresh w ((w.alloc (.cells #[.int .i64 0, .int .i64 0, .int .i64 0, .string ByteArray.empty] 66)).alloc (.cells #[.slice none 0 0] 34)) := HF.out.alloc _
  have BL : Blk ((w.alloc (.cells #[.int .i64 0, .int .i64 0, .int .i64 0, .string ByteArray.empty] 66)).alloc (.cells #[.slice none 0 0] 34)) (w.heap.size + 1) 34 #[.slice none 0 0] := Blk.at_new (by simp) _ _
  have BRL := HR.out.alloc (.cells #[.slice none 0 0] 34)
  refine (callsIn_wide.2 (to_any g v bx nx to l _ (H0.out.fresh FL) hl)).mono ?_
  rintro e w1 ⟨ib, v', rfl, hib, b1, o1, f1, n1⟩
  have U1 := Lib.hid b1
  have U2 := Lib.hid o1
  have U3 := Lib.hid f1
  have U4 := Lib.hid n1
  clear b1 o1 f1 n1
  gi_wp2_with fail
  have T0 := Lib.hid (FL.step U3.out (fun _ _ h => h))
  have TL := Lib.hid (U3.out.blk_ BL)
  have TR := Lib.hid (U3.out.blk_ BRL)
  have szL : w.heap.size + 1 < w1.heap.size := TL.out.lt
  have szr : w.heap.size + 2 ≤ ib := by simpa using hib
  have sz4 : ∀ k, v'.ownBlock = some k → w.heap.size + 2 ≤ k := fun k hk => by have := U4.out k hk; simpa using this
  have N4 := Lib.hid sz4
  have hkl : (toL l to).length ≤ l.length := List.length_filter_le _ _
  obtain ⟨L, hL⟩ : ∃ L, toL l to = L := ⟨_, rfl⟩
  rw [hL] at U2 hkl
  have HL := Lib.hid hL
  obtain ⟨i0, hi, hz0, hz1, hz2⟩ := info_parts info_int
  have h01 : 0 < 1 := by omega
  have szF := T0.out.size
  clear hib hL sz4 BL BRL FL
  refine wpIn_rangeFunc_ownH rfl (by omega) (gf := 48) (lb := #[.pointer (some ⟨ib, 0, none⟩)]) rfl trivial (enters_of Try.func48 (by kernel_rfl) rfl)
    (those_stops Fence.wide (6 - 1) trivial rfl (by omega) ib v' L (by omega) w1 U1.out U2.out) keepsB_t keepsB_b (Below.refl _ _) (fun _ => rfl)
    (fun pre W => (Fresh w W ∧ Blk W w.heap.size 66 #[.int .i64 0, .int .i64 0, .int .i64 0, .string ByteArray.empty]) ∧ ∃ vl, (Blk W (w.heap.size + 1) 34 #[vl] ∧ OwnS W 3 1 vl pre.length (ints (pre.map (·.no)))) ∧ ∀ k, vl.ownBlock = some k → w.heap.size ≤ k)
    (fun _ _ _ => False) ?own (fun _ _ _ _ _ hs _ _ => hs)
    ⟨⟨T0.out, TR.out⟩, .slice none 0 0, ⟨TL.out, OwnS.nil _ _ _⟩, by simp [Value.ownBlock]⟩
    (fun x a' W => ∃ Bx, Blk W Bx 66 #[.int .i64 x.no, .int .i64 x.fr, .int .i64 x.to, Value.string x.x] ∧ a' = { tmps := #[.pointer (some ⟨g, 0, none⟩), .int .i64 to, .int .i64 which, undef, undef, undef, .pointer (some ⟨w.heap.size, 0, none⟩), .int .i64 0, .pointer (some ⟨w.heap.size + 1, 0, none⟩), .pointer (some ⟨Bx, 0, none⟩), undef, .pointer (some ⟨g, 0, none⟩), .bool false, undef, .pointer (some ⟨g, 0, none⟩), .int .i64 to, .bool true, .bool false, undef, .pointer (some ⟨g, 0, none⟩), .int .i64 to, .func (.func 48) #[] #[.pointer (some ⟨ib, 0, none⟩)], .agg #[.int .i64 x.no, .int .i64 x.fr, .int .i64 x.to, Value.string x.x], undef, undef, undef, undef, undef, undef, undef, undef, undef, undef, undef, undef, undef, undef, undef, undef, undef, undef, undef, undef, undef, undef, undef, undef, undef, undef, undef], defers := [] }) ?ax ?assign ?body ?done ?stop
  case own =>
    intro pre X Y row hs hg hr
    have hr' : ∀ r, row = some r → ∃ o : Obj, X.heap[r]? = some o ∧ o.isCells = false := fun r e => (hr r e).2
    obtain ⟨⟨f, r⟩, vl, ⟨b, o⟩, n⟩ := hs
    exact ⟨⟨ownFrom_fresh (β := Unit) (by omega) () X Y row f hg hr, blk_grown r hg hr'⟩, vl, ⟨blk_grown b hg hr', ownS_grown o hg hr'⟩, n⟩
  case ax =>
    rintro x a' u X Y row ⟨Bx, h2, h3⟩ hg hr
    exact ⟨Bx, blk_grown h2 hg (fun r e => (hr r e).2), h3⟩
  case assign =>
    rintro lp pre x W K ⟨⟨f, r⟩, vl, ⟨b, o⟩, n⟩ hK
    unfold enc
    gi_wp2
    exact hK _ _ ((KeepsOthers.alloc _ _).from _) ((KeepsB.refl _ _ _).alloc _) ⟨⟨f.alloc _, r.alloc _⟩, vl, ⟨b.alloc _, o.alloc _⟩, n⟩ ⟨W.heap.size, Blk.new W _ _, rfl⟩
  case body =>
    rintro lp pre x a' W hlp hrec ⟨⟨f, r⟩, vl, ⟨b, o⟩, n⟩ ⟨Bx, bx, rfl⟩ hlt
    obtain ⟨A2, cap2, rfl, _, _⟩ := o.shape
    have cb := b.cell
    have fb := b.frozen
    have lb := b.lt
    have cx := bx.cell
    have ne2 := o.ne_blk b (by decide)
    have HC : Hid (Src (W.alloc (.cells #[.int .i64 x.no] 3)) 1 (.slice (some ⟨W.heap.size, 0, none⟩) 1 1) 1 (ints [x.no])) := Src.one_new W 3 1 #[.int .i64 x.no] rfl
    have hL1 : pre.length + 1 ≤ maxLen := one_le_maxLen (by omega)
    have hL2 : (pre.length + 1) * 8 ≤ 140737488355328 := by omega
    have V1 := Lib.hid b
    have V2 := Lib.hid o
    have V3 := Lib.hid n
    have V4 := Lib.hid f
    have V5 := Lib.hid ne2
    have V6 := Lib.hid r
    clear b o n f ne2 r bx hrec
    gi_wp2_with (gi_at_builtin; refine wpListIn_append_OwnS _ rfl _ _ 34 rfl 3 i0 (.int .i64 0) 1 8 Try.underlying34 hi hz0 hz1 hz2 rfl h01 (.slice A2 pre.length cap2) pre.length (ints (pre.map (·.no))) rfl (V2.out.alloc _) (.slice (some ⟨W.heap.size, 0, none⟩) 1 1) 1 (ints [x.no]) rfl HC.out (ints_one _) hL1 hL2 ?_; intro v3 w3 o3 k3 n3; obtain ⟨A3, cap3, rfl, _, _⟩ := o3.shape; have b3 := (V1.out.alloc (.cells #[.int .i64 x.no] 3)).keep k3 V5.out; have c3 := b3.cell; have r3 := b3.frozen; have l3 := b3.lt; have X1 := Lib.hid b3; have X2 := Lib.hid o3; have X3 := Lib.hid k3; have X4 := Lib.hid n3; clear b3 o3 k3 n3)
    have K1 : Keep (fun k => k = w.heap.size + 1 ∨ (Value.slice A2 pre.length cap2).ownBlock = some k) W (w3.setCell ⟨w.heap.size + 1, 0, none⟩ (.slice A3 (pre.length + 1) cap3)) :=
      (((Keep.refl _ W).alloc _).step X3.out (fun _ _ h => .inr h)).setCell (fun _ => .inl rfl) _
    refine ⟨(keepsOthers_of_keep K1 ?_).from _, KeepsB.of_keep' K1 ?_, ⟨V4.out.step K1 ?_, V6.out.keep K1 ?_⟩, .slice A3 (pre.length + 1) cap3, ⟨?_, ?_⟩, ?_⟩
    · rintro k o (rfl | hk) ho
      · exact blk_isCells V1.out ho
      · exact own_isCells V2.out hk ho
    · rintro cur hcur (h | h)
      · rw [h] at hcur
        have := V1.out
        unfold Blk at this
        rw [this] at hcur
        cases hcur
      · exact own_ne_type V2.out (by decide) hcur h
    · rintro k hk (h | h)
      · omega
      · have := V3.out k h; omega
    · rintro (h | h)
      · omega
      · exact V2.out.ne_blk V6.out (by decide) h
    · have := X1.out.set_ 0 (.slice A3 (pre.length + 1) cap3)
      simpa using this
    · have := X2.out.far (p := ⟨w.heap.size + 1, 0, none⟩) (X2.out.ne_blk X1.out (by decide)) (.slice A3 (pre.length + 1) cap3)
      simpa [ints] using this
    · intro k hk
      rcases X4.out k hk with h | h
      · exact V3.out k h
      · have := V4.out.size
        simp at h
        omega
  case done =>
    rintro D ys W hD rfl ⟨⟨f, r⟩, vl, ⟨b, o⟩, n⟩ hK
    obtain ⟨A2, cap2, rfl, hnc, hmc⟩ := o.shape
    have hmc : cap2 ≤ 9223372036854775807 := by unfold maxLen at hmc; omega
    have cb := b.cell
    have cr := r.cell
    have fr := r.frozen
    have lr := r.lt
    have V1 := Lib.hid b
    have V2 := Lib.hid o
    have V3 := Lib.hid n
    have V4 := Lib.hid f
    have V6 := Lib.hid r
    have VK := Lib.hid hK
    clear b o n f r hK
    by_cases h0 : ys.length = 0
    · have t0 : ((ys.length : Int) == 0) = true := by simp [h0]
      have hDl := (Array.getElem?_eq_some_iff.1 VK.out).1
      have hnil : ys = [] := List.eq_nil_of_length_eq_zero h0
      have HNil := Lib.hid hnil
      clear h0 hnil
      gi_wp2_with fail
      have B4 := Blk.set4 V6.out (.int .i64 0) (.int .i64 0) (.int .i64 0) (.string ⟨#[]⟩)
      have K4 := keep4 W w.heap.size (.int .i64 0) (.int .i64 0) (.int .i64 0) (.string ⟨#[]⟩)
      obtain ⟨X, hX⟩ : ∃ X, (((W.setCell ⟨w.heap.size, 0, none⟩ (.int .i64 0)).setCell ⟨w.heap.size, 1, none⟩ (.int .i64 0)).setCell ⟨w.heap.size, 2, none⟩ (.int .i64 0)).setCell ⟨w.heap.size, 3, none⟩ (.string ⟨#[]⟩) = X := ⟨_, rfl⟩
      rw [hX] at B4 K4 ⊢
      have kD := (K4.block D hDl (by omega)).trans VK.out
      have F4 : Fresh w X := V4.out.step K4 (fun i hi e => by omega)
      refine ⟨by simp, .inl ⟨_, _, rfl, run_takeDeferred kD, ?_⟩⟩
      have hr : ∀ r, some D = some r → ∃ o : Obj, X.heap[r]? = some o ∧ o.isCells = false := fun r e => by cases e; exact ⟨_, kD, rfl⟩
      have c5 := (blk_grown B4 (grownBy_putObj' _ D (.deferred none)) hr).cell
      have f5 := ownFrom_fresh (β := Unit) (Nat.le_refl w.heap.size) () _ _ _ F4 (grownBy_putObj' _ D (.deferred none)) (fun r e => by cases e; exact ⟨by omega, _, kD, rfl⟩)
      clear cr
      exact ⟨.tuple #[.agg #[.int .i64 0, .int .i64 0, .int .i64 0, .string ByteArray.empty], .int .i64 14], by simp [results, Try.results24, go_sem, c5]; try rfl, .inl ⟨by rw [HL.out]; exact HNil.out, rfl, f5⟩⟩
    · have hDl := (Array.getElem?_eq_some_iff.1 VK.out).1
      have hpos : 0 < ys.length := by omega
      have t0 : ((ys.length : Int) == 0) = false := by rw [beq_eq_false_iff_ne]; omega
      have t1 : ¬ (ys.length : Int) = 0 := by omega
      have hin := idxW_in which ys.length hpos
      obtain ⟨i, hiW⟩ := Int.eq_ofNat_of_zero_le hin.1
      have hil : i < ys.length := by omega
      obtain ⟨p, hp⟩ : ∃ p, ys[i]? = some p := ⟨_, List.getElem?_eq_getElem hil⟩
      obtain ⟨g2, off2, cap3, hv, _, _, _, hcc⟩ := V2.out.form hpos
      injection hv with e1 e2 e3
      subst e1 e3
      have cp : W.cell? ⟨g2, off2 + i, none⟩ = some (.int .i64 p.no) := hcc _ _ (by simp [ints, hp])
      have TK := Lib.hid (take_any g v bx nx p.no l W (H0.out.fresh V4.out) hl)
      have HI := Lib.hid (show (i : Int) = idxW which ys.length ∧ ys[i]? = some p from ⟨hiW.symm, hp⟩)
      have hiW' := hiW
      unfold idxW at hiW'
      have j0 : (0 : Int) ≤ (i : Int) := by omega
      have j1 : (i : Int) < (ys.length : Int) := by omega
      obtain ⟨r, hrr⟩ : ∃ r, which.tmod (ys.length : Int) = r := ⟨_, rfl⟩
      rw [hrr] at hiW'
      have FIN : Hid (∀ (e : Ending) (w2 : World), TakeP g v bx nx l p.no W e w2 → ∃ (a b c : Int) (x : ByteArray) (r : Int), e = .returned (.tuple #[.agg #[.int .i64 a, .int .i64 b, .int .i64 c, Value.string x], .int .i64 r]) ∧ Blk w2 w.heap.size 66 #[.int .i64 0, .int .i64 0, .int .i64 0, .string ByteArray.empty] ∧
          ∀ X, (((w2.setCell ⟨w.heap.size, 0, none⟩ (.int .i64 a)).setCell ⟨w.heap.size, 1, none⟩ (.int .i64 b)).setCell ⟨w.heap.size, 2, none⟩ (.int .i64 c)).setCell ⟨w.heap.size, 3, none⟩ (Value.string x) = X →
          ∃ w3, X.heap[D]? = some (.deferred (some [])) ∧ w3 = X.putObj D (.deferred none) ∧ (∀ i, w3.cell? ⟨w.heap.size, i, none⟩ = #[.int .i64 a, .int .i64 b, .int .i64 c, Value.string x][i]?) ∧ PickP g v bx nx l to which w e w3) := fun e w2 hT => by
        obtain ⟨a, b, c, x, r, he⟩ := hT.ends
        have K2 := hT.keeps
        have hf := H0.out.lt
        have B2 := V6.out.keep K2 (fun h => by have := hf _ h; omega)
        have hD2 : w2.heap[D]? = some (.deferred (some [])) := (K2.block D hDl (fun h => by have := hf _ h; omega)).trans VK.out
        refine ⟨a, b, c, x, r, he, B2, fun X hX => ?_⟩
        have B4 := Blk.set4 B2 (.int .i64 a) (.int .i64 b) (.int .i64 c) (Value.string x)
        have K4 := keep4 w2 w.heap.size (.int .i64 a) (.int .i64 b) (.int .i64 c) (Value.string x)
        rw [hX] at B4 K4
        have hDl2 := (Array.getElem?_eq_some_iff.1 hD2).1
        have kD := (K4.block D hDl2 (by omega)).trans hD2
        have hr : ∀ r, some D = some r → ∃ o : Obj, X.heap[r]? = some o ∧ o.isCells = false := fun r e => by cases e; exact ⟨_, kD, rfl⟩
        have K5 : Keep (fun k => k = w.heap.size ∨ k = D) w2 (X.putObj D (.deferred none)) := (K4.more (fun _ _ h => .inl h)).trans (Keep.of_grown (grownBy_putObj' X D (.deferred none)) (fun k hk _ => .inr (by injection hk with hk; exact hk.symm)))
        exact ⟨_, kD, rfl, (blk_grown B4 (grownBy_putObj' _ D (.deferred none)) hr).cell, .inr ⟨i, p, by rw [HL.out]; exact HI.out.1, by rw [HL.out]; exact HI.out.2, TakeP.both V4.out hT K5 (by rintro k (rfl | rfl) <;> omega) hf⟩⟩
      clear hiW hin hp hcc
      by_cases hneg : r < 0
      · rw [if_pos hneg] at hiW'
        have tn : decide (r < 0) = true := by simpa using hneg
        have hw : IntKind.i64.wrap (r + (ys.length : Int)) = (i : Int) := by rw [hiW']; exact IntWalk.i64_in _ (by omega)
        clear hiW' hneg
        gi_wp2_with fail
        refine ⟨trivial, ?_⟩
        refine (callsIn_wide.2 TK.out).mono ?_
        intro e w2 hT
        obtain ⟨a, b, c, x, r0, rfl, B2, HX2⟩ := FIN.out e w2 hT
        have HXX := Lib.hid HX2
        have cr2 := B2.cell
        have fr2 := B2.frozen
        have lr2 := B2.lt
        clear hT HX2 B2 cr fr cb
        gi_wp2_with fail
        obtain ⟨w3, kD, hw3, c3, hP⟩ := HXX.out _ rfl
        subst hw3
        clear cr2 fr2
        refine ⟨by simp, .inl ⟨_, _, rfl, run_takeDeferred kD, ?_⟩⟩
        exact ⟨.tuple #[.agg #[.int .i64 a, .int .i64 b, .int .i64 c, Value.string x], .int .i64 r0], by simp [results, Try.results24, go_sem, c3]; try rfl, hP⟩
      · rw [if_neg hneg] at hiW'
        subst hiW'
        have tn : decide ((i : Int) < 0) = false := by simp
        clear hneg
        gi_wp2_with fail
        refine ⟨trivial, ?_⟩
        refine (callsIn_wide.2 TK.out).mono ?_
        intro e w2 hT
        obtain ⟨a, b, c, x, r0, rfl, B2, HX2⟩ := FIN.out e w2 hT
        have HXX := Lib.hid HX2
        have cr2 := B2.cell
        have fr2 := B2.frozen
        have lr2 := B2.lt
        clear hT HX2 B2 cr fr cb
        gi_wp2_with fail
        obtain ⟨w3, kD, hw3, c3, hP⟩ := HXX.out _ rfl
        subst hw3
        clear cr2 fr2
        refine ⟨by simp, .inl ⟨_, _, rfl, run_takeDeferred kD, ?_⟩⟩
        exact ⟨.tuple #[.agg #[.int .i64 a, .int .i64 b, .int .i64 c, Value.string x], .int .i64 r0], by simp [results, Try.results24, go_sem, c3]; try rfl, hP⟩
  case stop =>
    rintro D c pre W _ _ h _
    exact h.elim
end Go.Proofs.Ytgakggkffapnlaa.R_str
