/- Chapter 13: PRSort, PRTake, PRPut. -/
import Derived.Test.YthbcdkeammhakaaGreatP08
set_option maxRecDepth 100000
set_option maxHeartbeats 16000000
namespace Go.Proofs.YthbcdkeammhakaaGreat
open Go.RowKit
attribute [local go_sem ↓] Go.wp_at_zero Go.wp_at_succ
theorem src_cap {w : World} {size n c c' m : Nat} {A : Option Addr} {news : List Value} (h : Src w size (.slice A n c) m news) : Src w size (.slice A n c') m news := by
 obtain ⟨h1, h2⟩ := h
 refine ⟨h1, ?_⟩
 rcases h2 with ⟨c0, e, e2⟩ | ⟨a, c0, e, e2⟩
 ·injection e with e3 e4 _
  subst e3 e4
  exact .inl ⟨_, rfl, e2⟩
 ·injection e with e3 e4 _
  subst e3 e4
  exact .inr ⟨_, _, rfl, e2⟩
def putAt (l : List Ev) (x : Ev) (k : Nat) : List Ev := l.take k ++ [x] ++ l.drop k
theorem putAt_perm (l : List Ev) (x : Ev) (k : Nat) : (putAt l x k).Perm (l ++ [x]) := by
 unfold putAt
 have h1 : (l.take k ++ [x] ++ l.drop k).Perm (x :: (l.take k ++ l.drop k)) := by
  rw [List.append_assoc]
  exact List.perm_middle
 rw [List.take_append_drop] at h1
 exact h1.trans (List.perm_append_singleton x l).symm
theorem putAt_length (l : List Ev) (x : Ev) (k : Nat) (hk : k ≤ l.length) : (putAt l x k).length = l.length + 1 := by
 unfold putAt
 simp
 omega
theorem Srt.putAt_ {l : List Ev} (h : Srt l) {x : Ev} {k : Nat} (h1 : ∀ j y, j < k → l[j]? = some y → evLt x y = false) (h2 : k < l.length → ∀ y, l[k]? = some y → evLt x y = true) : Srt (putAt l x k) := by
 unfold putAt
 rw [List.append_assoc, List.singleton_append]
 have hs : Srt (l.take k ++ l.drop k) := by rwa [List.take_append_drop]
 obtain ⟨s1, s2, s3⟩ := List.pairwise_append.1 hs
 refine List.pairwise_append.2 ⟨s1, List.pairwise_cons.2 ⟨fun q hq => ?_, s2⟩, fun p hp q hq => ?_⟩
 ·obtain ⟨t, ht⟩ := List.mem_iff_getElem?.1 hq
  rw [List.getElem?_drop] at ht
  have htl := (List.getElem?_eq_some_iff.1 ht).1
  obtain ⟨y, hy⟩ : ∃ y, l[k]? = some y := ⟨_, List.getElem?_eq_getElem (by omega)⟩
  have h3 := h2 (by omega) y hy
  have h4 : evLt q y = false := by
   by_cases h0 : t = 0
   ·subst h0
    rw [Nat.add_zero, hy] at ht
    injection ht with ht
    rw [← ht]
    exact evLt_irrefl _
   ·obtain ⟨e1, e2⟩ := List.getElem?_eq_some_iff.1 hy
    obtain ⟨e3, e4⟩ := List.getElem?_eq_some_iff.1 ht
    have := List.pairwise_iff_getElem.1 h k (k + t) e1 e3 (by omega)
    rwa [e2, e4] at this
  cases h5 : evLt q x
  ·rfl
  ·rw [evLt_trans h5 h3] at h4
   cases h4
 ·rcases List.mem_cons.1 hq with rfl | hq
  ·obtain ⟨t, ht⟩ := List.mem_iff_getElem?.1 hp
   rw [List.getElem?_take] at ht
   split at ht
   ·exact h1 t p ‹_› ht
   ·cases ht
  ·exact s3 p hp q hq
structure SortI (w : World) (l : List Ev) (i : Nat) (out : List Ev) (v : Value) (wr : World) : Prop where
 f : Fresh w wr
 s : Srt out
 p : out.Perm (l.take i)
 o : OwnS wr 41 7 v out.length (cells out)
 z : out = [] → v = .slice none 0 0
 n : ∀ k, v.ownBlock = some k → w.heap.size ≤ k
def SortP (l : List Ev) (w : World) (e : Ending) (w' : World) : Prop :=
 ∃ v out, e = .returned v ∧ Srt out ∧ out.Perm l ∧ OwnS w' 41 7 v out.length (cells out) ∧ Fresh w w' ∧ ∀ k, v.ownBlock = some k → w.heap.size ≤ k
theorem fresh_nil {W W' : World} (kk : Keep (fun k => (Value.slice none 0 0).ownBlock = some k) W W') : Fresh W W' := kk.more (fun i _ hi => by simp [Value.ownBlock] at hi)
theorem sort_any (v : Value) (l : List Ev) (w : World) (hv : EvAt w v l) (hl : l.length ≤ 100000) :
  Calls Tryz.prog 27 #[v] w (SortP l w) := by
 obtain ⟨A, c, rfl, hv⟩ := hv
 have HV := Lib.hid hv
 clear hv
 obtain ⟨i0, hi, hz0, hz1, hz2⟩ := info_parts info_ev
 have h07 : Hid (0 < 7) := Lib.hid (by omega)
 go_enter Tryz.func27, Tryz.ntmps27
 go_wp2_with fail
 go_loopg [3, 4] l.length (fun gk u3 u4 wr => ∃ (i : Nat) (out : List Ev) (v : Value), i ≤ l.length ∧ gk = l.length - i ∧ u3 = v ∧ u4 = .int .i64 i ∧ SortI w l i out v wr)
 case atStart => exact ⟨0, [], _, by omega, rfl, rfl, rfl, ⟨Keep.refl _ _, List.Pairwise.nil, by simp, OwnS.nil _ _ _, fun _ => rfl, by simp [Value.ownBlock]⟩⟩
 case round =>
  obtain ⟨i, out, v, hi', rfl, rfl, rfl, hI⟩ := hrel
  have HI := Lib.hid hI
  have hol : out.length ≤ l.length := by have := hI.p.length_eq; rw [List.length_take] at this; omega
  have holi : out.length = i := by have := hI.p.length_eq; rw [List.length_take] at this; omega
  obtain ⟨A3, c3, rfl, hc3, hm3⟩ := hI.o.shape
  have hm3 : c3 ≤ 9223372036854775807 := by unfold maxLen at hm3; omega
  clear hI
  by_cases hlt : i < l.length
  ·obtain ⟨x, hx⟩ : ∃ x, l[i]? = some x := ⟨_, List.getElem?_eq_getElem hlt⟩
   have HX := Lib.hid hx
   obtain ⟨b0, off, rfl, lt0, hO⟩ := HV.out i x hx
   obtain ⟨wA, hwA⟩ : ∃ wA, wA = wr := ⟨_, rfl⟩
   subst hwA
   have CX : Hid (∀ W, Fresh w W → ∀ j u, x.enc[j]? = some u → W.cell? ⟨b0, off + i * 7 + j, none⟩ = some u) := Lib.hid fun W f j u hu => f.cell_ (hO j u hu)
   have LB := Lib.hid lt0
   have HLI := Lib.hid holi
   clear hO hx lt0 holi
   go_wp2_with fail
   go_loopg [5] out.length (fun gk u5 wr => ∃ k : Nat, k ≤ out.length ∧ gk = out.length - k ∧ u5 = .int .i64 k ∧ (∀ j y, j < k → out[j]? = some y → evLt x y = false) ∧ Fresh wA wr)
   case atStart => exact ⟨0, by omega, rfl, rfl, fun j y h => absurd h (by omega), Keep.refl _ _⟩
   case round =>
    obtain ⟨k, hk, rfl, rfl, hb, hF⟩ := hrel
    have HB := Lib.hid hb
    have HF := Lib.hid hF
    have FW := Lib.hid (HI.out.f.step hF (fun _ _ h => h))
    clear hb hF
    have lb0 : b0 < wr.heap.size := Nat.lt_of_lt_of_le LB.out FW.out.size
    have x0 := CX.out _ FW.out 0 (.int .i64 x.a) rfl
    have x1 := CX.out _ FW.out 1 (.int .i64 x.s) rfl
    have x2 := CX.out _ FW.out 2 (.int .i64 x.t) rfl
    have x3 := CX.out _ FW.out 3 (.int .i64 x.n) rfl
    have x4 := CX.out _ FW.out 4 (.int .i64 x.d) rfl
    have x5 := CX.out _ FW.out 5 (.int .i64 x.k) rfl
    have x6 := CX.out _ FW.out 6 (.int .i64 x.x) rfl
    rw [Nat.add_zero] at x0
    have FIN : Hid ((k < out.length → ∀ y, out[k]? = some y → evLt x y = true) → ∀ v6 w6, OwnS w6 41 7 v6 (k + 1 + (out.length - k)) (cells (putAt out x k)) → Fresh wr w6 → (∀ q, v6.ownBlock = some q → wr.heap.size ≤ q) → SortI w l (i + 1) (putAt out x k) v6 w6) := Lib.hid (fun hin v6 w6 o6 f6 n6 => ⟨FW.out.step f6 (fun _ _ h => h), HI.out.s.putAt_ HB.out hin, by
      rw [List.take_add_one, HX.out]
      exact (putAt_perm out x k).trans (List.Perm.append_right _ HI.out.p), by rw [putAt_length _ _ _ hk]; rw [show k + 1 + (out.length - k) = out.length + 1 by omega] at o6; exact o6, fun he => by have := putAt_length out x k hk; rw [he] at this; simp at this, fun q hq => by have := n6 q hq; have := FW.out.size; omega⟩)
    have g1 : 0 + k ≤ maxLen := one_le_maxLen (by omega)
    have g2 : (0 + k) * 56 ≤ 140737488355328 := by omega
    have g3' : k + 1 ≤ maxLen := one_le_maxLen (by omega)
    have g4' : (k + 1) * 56 ≤ 140737488355328 := by omega
    have g5 : k + 1 + (out.length - k) ≤ maxLen := one_le_maxLen (by omega)
    have g6 : (k + 1 + (out.length - k)) * 56 ≤ 140737488355328 := by omega
    have S2 : Hid (∀ W : World, Src (W.alloc (.cells #[.int .i64 x.a, .int .i64 x.s, .int .i64 x.t, .int .i64 x.n, .int .i64 x.d, .int .i64 x.k, .int .i64 x.x] 41)) 7 (.slice (some ⟨W.heap.size, 0, none⟩) 1 1) 1 (cells [x])) := Lib.hid fun W => Src.one_new W 41 7 #[.int .i64 x.a, .int .i64 x.s, .int .i64 x.t, .int .i64 x.n, .int .i64 x.d, .int .i64 x.k, .int .i64 x.x] rfl
    by_cases hko : k < out.length
    ·obtain ⟨y, hy⟩ : ∃ y, out[k]? = some y := ⟨_, List.getElem?_eq_getElem hko⟩
     obtain ⟨g3, off3, _, hv3, hg3, _, _, hc⟩ := (HI.out.o.fresh HF.out).form (by omega)
     injection hv3 with e1 e2 e3
     subst e1 e3
     obtain ⟨y0, y1, y2, y3, y4, y5, y6⟩ := cells_at out k y hy
     have y0 := hc _ _ y0
     have y1 := hc _ _ y1
     have y2 := hc _ _ y2
     have y3 := hc _ _ y3
     have y4 := hc _ _ y4
     have y5 := hc _ _ y5
     have y6 := hc _ _ y6
     rw [← Nat.add_assoc] at y1 y2 y3 y4 y5 y6
     have HY := Lib.hid hy
     have HC := Lib.hid (fun W => ahead_any x y W)
     unfold Ev.val at HC
     clear hc hy
     have hck : c3 ≠ k := by omega
     cases hq : evLt x y
     ·rw [hq] at HC
      have HQ := Lib.hid hq
      clear hq
      have d0 := fun (W : World) (f : Fresh wr W) => f.cell_ x0
      have d1 := fun (W : World) (f : Fresh wr W) => f.cell_ x1
      have d2 := fun (W : World) (f : Fresh wr W) => f.cell_ x2
      have d3 := fun (W : World) (f : Fresh wr W) => f.cell_ x3
      have d4 := fun (W : World) (f : Fresh wr W) => f.cell_ x4
      have d5 := fun (W : World) (f : Fresh wr W) => f.cell_ x5
      have d6 := fun (W : World) (f : Fresh wr W) => f.cell_ x6
      have e0 := fun (W : World) (f : Fresh wr W) => f.cell_ y0
      have e1 := fun (W : World) (f : Fresh wr W) => f.cell_ y1
      have e2 := fun (W : World) (f : Fresh wr W) => f.cell_ y2
      have e3 := fun (W : World) (f : Fresh wr W) => f.cell_ y3
      have e4 := fun (W : World) (f : Fresh wr W) => f.cell_ y4
      have e5 := fun (W : World) (f : Fresh wr W) => f.cell_ y5
      have e6 := fun (W : World) (f : Fresh wr W) => f.cell_ y6
      go_wp2_with fail
      go_region_held3 (fun W' => Fresh wr W') (exact (fun (f : Fresh wr _) => f) (by (repeat (first | (with_reducible exact Keep.refl _ _) | (with_reducible assumption) | (with_reducible refine Keep.drew ?_) | (with_reducible refine Keep.drewN ?_ _) | (with_reducible refine Keep.alloc ?_ _) | (with_reducible refine Keep.setCell ?_ ?_ _) | (with_reducible refine fun _ => rfl))))) ((go_at_call 52; (with_reducible refine (HC.out _).mono ?_); rintro en1 w1 ⟨rfl, f1⟩; have f2 := Keep.step (S := fun _ => False) (by assumption : Fresh wr _) f1 (fun _ _ h => h)))
      clear d0 d1 d2 d3 d4 d5 d6 e0 e1 e2 e3 e4 e5 e6
      go_wp2_with fail
      go_roundg (out.length - (k + 1))
      case measure => omega
      case rel => exact ⟨k + 1, by omega, rfl, by go_num, fun j z hj hz => by
       by_cases hjk : j = k
       ·subst hjk
        rw [HY.out] at hz
        injection hz with hz
        rw [← hz]
        exact HQ.out
       ·exact HB.out j z (by omega) hz, HF.out.step f2 (fun _ _ h => h)⟩
     ·rw [hq] at HC
      have HIN : k < out.length → ∀ z, out[k]? = some z → evLt x z = true := fun _ z hz => by
       rw [HY.out] at hz
       injection hz with hz
       rw [← hz]
       exact hq
      have HINH := Lib.hid HIN
      clear hq HIN
      have d0 := fun (W : World) (f : Fresh wr W) => f.cell_ x0
      have d1 := fun (W : World) (f : Fresh wr W) => f.cell_ x1
      have d2 := fun (W : World) (f : Fresh wr W) => f.cell_ x2
      have d3 := fun (W : World) (f : Fresh wr W) => f.cell_ x3
      have d4 := fun (W : World) (f : Fresh wr W) => f.cell_ x4
      have d5 := fun (W : World) (f : Fresh wr W) => f.cell_ x5
      have d6 := fun (W : World) (f : Fresh wr W) => f.cell_ x6
      have e0 := fun (W : World) (f : Fresh wr W) => f.cell_ y0
      have e1 := fun (W : World) (f : Fresh wr W) => f.cell_ y1
      have e2 := fun (W : World) (f : Fresh wr W) => f.cell_ y2
      have e3 := fun (W : World) (f : Fresh wr W) => f.cell_ y3
      have e4 := fun (W : World) (f : Fresh wr W) => f.cell_ y4
      have e5 := fun (W : World) (f : Fresh wr W) => f.cell_ y5
      have e6 := fun (W : World) (f : Fresh wr W) => f.cell_ y6
      go_wp2_with fail
      go_region_held3 (fun W' => Fresh wr W') (exact (fun (f : Fresh wr _) => f) (by (repeat (first | (with_reducible exact Keep.refl _ _) | (with_reducible assumption) | (with_reducible refine Keep.drew ?_) | (with_reducible refine Keep.drewN ?_ _) | (with_reducible refine Keep.alloc ?_ _) | (with_reducible refine Keep.setCell ?_ ?_ _) | (with_reducible refine fun _ => rfl))))) ((go_at_call 52; (with_reducible refine (HC.out _).mono ?_); rintro en1 w1 ⟨rfl, f1⟩; have f2 := Keep.step (S := fun _ => False) (by assumption : Fresh wr _) f1 (fun _ _ h => h)))
      clear d0 d1 d2 d3 d4 d5 d6 e0 e1 e2 e3 e4 e5 e6
      have S1 : Hid (∀ W, Fresh wr W → Src W 7 (.slice (some ⟨g3, off3, none⟩) k c3) k (cells (out.take k))) := Lib.hid fun W f => by
       have := (((HI.out.o.fresh HF.out).fresh f).cut (lo := 0) (hi := k) (off' := off3) (by omega) (by omega) (.inl (by omega))).src
       simp only [Nat.zero_mul, List.drop_zero, Nat.sub_zero] at this
       rwa [cells_take] at this
      have S3 : Hid (∀ W cc, Fresh wr W → Src W 7 (.slice (some ⟨g3, off3 + k * 7, none⟩) (out.length - k) cc) (out.length - k) (cells (out.drop k))) := Lib.hid fun W cc f => by
       have := (((HI.out.o.fresh HF.out).fresh f).cut (lo := k) (hi := out.length) (off' := off3 + k * 7) (by omega) (by omega) (.inl rfl)).src
       rw [cells_drop, List.take_of_length_le (by rw [cells_length, List.length_drop]; omega)] at this
       exact src_cap this
      clear x0 x1 x2 x3 x4 x5 x6 y0 y1 y2 y3 y4 y5 y6
      have j1 : (k : Int) ≤ (out.length : Int) := by omega
      have j2 : (out.length : Int) ≤ (c3 : Int) := by omega
      have j3 : (k : Int) ≤ (c3 : Int) := by omega
      go_wp2_with (first
       | (at_builtin; refine wpList_append_OwnS _ rfl (.tmp 31) (.tmp 34) 24 rfl 41 i0 (.agg #[.int .i64 0, .int .i64 0, .int .i64 0, .int .i64 0, .int .i64 0, .int .i64 0, .int .i64 0]) 7 56 Tryz.underlying24 hi hz0 hz1 hz2 rfl h07.out (.slice none 0 0) 0 [] rfl (OwnS.nil _ _ _) (.slice (some ⟨g3, off3, none⟩) k _) k (cells (out.take k)) rfl (S1.out _ f2) (cells_one _) g1 g2 ?_; intro v4 w4 o4 k4 n4; rw [Nat.zero_add, List.nil_append] at o4; obtain ⟨A4, cap4, rfl, hc4, hm4⟩ := o4.shape; have f4 := Keep.step (S := fun _ => False) (f2 : Fresh wr _) (fresh_nil k4) (fun _ _ h => h); have N4 : Hid (∀ q, (Value.slice A4 k cap4).ownBlock = some q → wr.heap.size ≤ q) := Lib.hid (fun q hq => by have h1 := n4 q hq; have h2 := (f2 : Fresh wr _).size; exact h1.elim (fun h => by simp [Value.ownBlock] at h) (fun h => by omega)); have O4 := Lib.hid o4; have F4 := Lib.hid f4; have x0 := CX.out _ (FW.out.step f4 (fun _ _ h => h)) 0 (.int .i64 x.a) rfl; have x1 := CX.out _ (FW.out.step f4 (fun _ _ h => h)) 1 (.int .i64 x.s) rfl; have x2 := CX.out _ (FW.out.step f4 (fun _ _ h => h)) 2 (.int .i64 x.t) rfl; have x3 := CX.out _ (FW.out.step f4 (fun _ _ h => h)) 3 (.int .i64 x.n) rfl; have x4 := CX.out _ (FW.out.step f4 (fun _ _ h => h)) 4 (.int .i64 x.d) rfl; have x5 := CX.out _ (FW.out.step f4 (fun _ _ h => h)) 5 (.int .i64 x.k) rfl; have x6 := CX.out _ (FW.out.step f4 (fun _ _ h => h)) 6 (.int .i64 x.x) rfl; rw [Nat.add_zero] at x0; have lb4 : b0 < w4.heap.size := Nat.lt_of_lt_of_le LB.out (FW.out.step f4 (fun _ _ h => h)).size; clear o4 k4 n4 f4)
       | (at_builtin; refine wpList_append_OwnS _ rfl (.tmp 36) (.tmp 41) 24 rfl 41 i0 (.agg #[.int .i64 0, .int .i64 0, .int .i64 0, .int .i64 0, .int .i64 0, .int .i64 0, .int .i64 0]) 7 56 Tryz.underlying24 hi hz0 hz1 hz2 rfl h07.out (.slice A4 k cap4) k (cells (out.take k)) rfl (O4.out.alloc _) (.slice (some ⟨w4.heap.size, 0, none⟩) 1 1) 1 (cells [x]) rfl (S2.out _) (cells_one _) g3' g4' ?_; intro v5 w5 o5 k5 n5; rw [← cells_append] at o5; obtain ⟨A5, cap5, rfl, hc5, hm5⟩ := o5.shape; have f5 := (F4.out.alloc (.cells #[.int .i64 x.a, .int .i64 x.s, .int .i64 x.t, .int .i64 x.n, .int .i64 x.d, .int .i64 x.k, .int .i64 x.x] 41)).step k5 (fun q hq e => by have := N4.out q e; omega); have N5 : Hid (∀ q, (Value.slice A5 (k + 1) cap5).ownBlock = some q → wr.heap.size ≤ q) := Lib.hid (fun q hq => by have h1 := n5 q hq; have h2 := F4.out.size; exact h1.elim (fun h => N4.out q h) (fun h => by simp at h; omega)); have O5 := Lib.hid o5; have F5 := Lib.hid f5; clear o5 k5 n5 f5)
       | (at_builtin; refine wpList_append_OwnS _ rfl (.tmp 43) (.tmp 46) 24 rfl 41 i0 (.agg #[.int .i64 0, .int .i64 0, .int .i64 0, .int .i64 0, .int .i64 0, .int .i64 0, .int .i64 0]) 7 56 Tryz.underlying24 hi hz0 hz1 hz2 rfl h07.out (.slice A5 (k + 1) cap5) (k + 1) (cells (out.take k ++ [x])) rfl O5.out (.slice (some ⟨g3, off3 + k * 7, none⟩) (out.length - k) _) (out.length - k) (cells (out.drop k)) rfl (S3.out _ _ F5.out) (cells_one _) g5 g6 ?_; intro v6 w6 o6 k6 n6; rw [← cells_append] at o6; obtain ⟨A6, cap6, rfl, hc6, hm6⟩ := o6.shape; have f6 := F5.out.step k6 (fun q hq e => by have := N5.out q e; omega); have N6 : Hid (∀ q, (Value.slice A6 (k + 1 + (out.length - k)) cap6).ownBlock = some q → wr.heap.size ≤ q) := Lib.hid (fun q hq => by have h1 := n6 q hq; have h2 := F5.out.size; exact h1.elim (fun h => N5.out q h) (fun h => by omega)); have O6 := Lib.hid o6; have F6 := Lib.hid f6; clear o6 k6 n6 f6))
      have NX := Lib.hid (FIN.out HINH.out _ _ O6.out F6.out N6.out)
      go_roundg (l.length - (i + 1))
      case measure => omega
      case rel => exact ⟨i + 1, _, _, by omega, rfl, rfl, by go_num, NX.out⟩
    ·have hke : k = out.length := by omega
     have KE := Lib.hid hke
     have tk : decide (k < out.length) = false := decide_eq_false hko
     have tk2 : decide ((k : Int) < (out.length : Int)) = false := decide_eq_false (by omega)
     have HINH : Hid (k < out.length → ∀ z, out[k]? = some z → evLt x z = true) := Lib.hid (fun h => absurd h hko)
     have j1 : (k : Int) ≤ (out.length : Int) := by omega
     have j2 : (out.length : Int) ≤ (c3 : Int) := by omega
     have j3 : (k : Int) ≤ (c3 : Int) := by omega
     clear hke
     by_cases h0 : out = []
     ·have hz := HI.out.z h0
      injection hz with e1 e2 e3
      subst e1 e3 h0
      obtain rfl : k = 0 := Nat.le_zero.1 hk
      clear e2
      go_wp2_with fail
      go_quiet (fail)
      obtain ⟨wq, hwq⟩ : ∃ wq, wr.drewN nq = wq := ⟨_, rfl⟩
      have f2 : Fresh wr wq := hwq ▸ (Keep.refl _ wr).drewN nq
      rw [hwq]
      clear hwq
      have x0 := CX.out _ (FW.out.step f2 (fun _ _ h => h)) 0 (.int .i64 x.a) rfl
      have x1 := CX.out _ (FW.out.step f2 (fun _ _ h => h)) 1 (.int .i64 x.s) rfl
      have x2 := CX.out _ (FW.out.step f2 (fun _ _ h => h)) 2 (.int .i64 x.t) rfl
      have x3 := CX.out _ (FW.out.step f2 (fun _ _ h => h)) 3 (.int .i64 x.n) rfl
      have x4 := CX.out _ (FW.out.step f2 (fun _ _ h => h)) 4 (.int .i64 x.d) rfl
      have x5 := CX.out _ (FW.out.step f2 (fun _ _ h => h)) 5 (.int .i64 x.k) rfl
      have x6 := CX.out _ (FW.out.step f2 (fun _ _ h => h)) 6 (.int .i64 x.x) rfl
      rw [Nat.add_zero] at x0
      have lb5 : b0 < wq.heap.size := Nat.lt_of_lt_of_le LB.out (FW.out.step f2 (fun _ _ h => h)).size
      go_wp2_with (first
       | (at_builtin; refine wpList_append_OwnS _ rfl (.tmp 36) (.tmp 41) 24 rfl 41 i0 (.agg #[.int .i64 0, .int .i64 0, .int .i64 0, .int .i64 0, .int .i64 0, .int .i64 0, .int .i64 0]) 7 56 Tryz.underlying24 hi hz0 hz1 hz2 rfl h07.out (.slice none 0 0) 0 (cells []) rfl (OwnS.nil _ _ _) (.slice (some ⟨wq.heap.size, 0, none⟩) 1 1) 1 (cells [x]) rfl (S2.out _) (cells_one _) g3' g4' ?_; intro v5 w5 o5 k5 n5; obtain ⟨A5, cap5, rfl, hc5, hm5⟩ := o5.shape; have f5 := (f2.alloc (.cells #[.int .i64 x.a, .int .i64 x.s, .int .i64 x.t, .int .i64 x.n, .int .i64 x.d, .int .i64 x.k, .int .i64 x.x] 41)).step k5 (fun q hq e => by simp [Value.ownBlock] at e); have N5 : Hid (∀ q, (Value.slice A5 (0 + 1) cap5).ownBlock = some q → wr.heap.size ≤ q) := Lib.hid (fun q hq => by have h1 := n5 q hq; have h2 := f2.size; exact h1.elim (fun h => by simp [Value.ownBlock] at h) (fun h => by simp at h; omega)); have O5 := Lib.hid o5; have F5 := Lib.hid f5; clear o5 k5 n5 f5)
       | (at_builtin; refine wpList_append_OwnS _ rfl (.tmp 43) (.tmp 46) 24 rfl 41 i0 (.agg #[.int .i64 0, .int .i64 0, .int .i64 0, .int .i64 0, .int .i64 0, .int .i64 0, .int .i64 0]) 7 56 Tryz.underlying24 hi hz0 hz1 hz2 rfl h07.out (.slice A5 (0 + 1) cap5) (0 + 1) (cells [] ++ cells [x]) rfl O5.out (.slice none 0 0) 0 [] rfl (OwnS.nil _ 41 7).src (fun _ h => by cases h) g3' g4' ?_; intro v6 w6 o6 k6 n6; rw [List.append_nil, ← cells_append] at o6; obtain ⟨A6, cap6, rfl, hc6, hm6⟩ := o6.shape; have f6 := F5.out.step k6 (fun q hq e => by have := N5.out q e; omega); have N6 : Hid (∀ q, (Value.slice A6 (0 + 1 + 0) cap6).ownBlock = some q → wr.heap.size ≤ q) := Lib.hid (fun q hq => by have h1 := n6 q hq; have h2 := F5.out.size; exact h1.elim (fun h => N5.out q h) (fun h => by omega)); have O6 := Lib.hid o6; have F6 := Lib.hid f6; clear o6 k6 n6 f6))
      have NX := Lib.hid (FIN.out HINH.out _ _ O6.out F6.out N6.out)
      go_roundg (l.length - (i + 1))
      case measure => omega
      case rel => exact ⟨i + 1, _, _, by omega, rfl, rfl, by go_num, NX.out⟩
     ·have hpos : 0 < out.length := List.length_pos_iff.2 h0
      obtain ⟨g3, off3, _, hv3, hg3, _, _, hc⟩ := (HI.out.o.fresh HF.out).form hpos
      injection hv3 with e1 e2 e3
      subst e1 e3
      have S1 : Hid (∀ W, Fresh wr W → Src W 7 (.slice (some ⟨g3, off3, none⟩) k c3) k (cells (out.take k))) := Lib.hid fun W f => by
       have := (((HI.out.o.fresh HF.out).fresh f).cut (lo := 0) (hi := k) (off' := off3) (by omega) (by omega) (.inl (by omega))).src
       simp only [Nat.zero_mul, List.drop_zero, Nat.sub_zero] at this
       rwa [cells_take] at this
      have S3 : Hid (∀ W cc q, Fresh wr W → Src W 7 (.slice (some ⟨g3, q, none⟩) (out.length - k) cc) (out.length - k) (cells (out.drop k))) := Lib.hid fun W cc q f => by
       rw [KE.out, Nat.sub_self, List.drop_length]
       exact ⟨rfl, .inr ⟨_, _, rfl, fun q u h => by simp [cells] at h⟩⟩
      clear h0 e2 hc x0 x1 x2 x3 x4 x5 x6
      by_cases hck : c3 = k
      ·obtain rfl : k = c3 := hck.symm
       go_wp2_with fail
       go_quiet (fail)
       obtain ⟨wq, hwq⟩ : ∃ wq, wr.drewN nq = wq := ⟨_, rfl⟩
       have f2 : Fresh wr wq := hwq ▸ (Keep.refl _ wr).drewN nq
       rw [hwq]
       clear hwq
       have x0 := CX.out _ (FW.out.step f2 (fun _ _ h => h)) 0 (.int .i64 x.a) rfl
       have x1 := CX.out _ (FW.out.step f2 (fun _ _ h => h)) 1 (.int .i64 x.s) rfl
       have x2 := CX.out _ (FW.out.step f2 (fun _ _ h => h)) 2 (.int .i64 x.t) rfl
       have x3 := CX.out _ (FW.out.step f2 (fun _ _ h => h)) 3 (.int .i64 x.n) rfl
       have x4 := CX.out _ (FW.out.step f2 (fun _ _ h => h)) 4 (.int .i64 x.d) rfl
       have x5 := CX.out _ (FW.out.step f2 (fun _ _ h => h)) 5 (.int .i64 x.k) rfl
       have x6 := CX.out _ (FW.out.step f2 (fun _ _ h => h)) 6 (.int .i64 x.x) rfl
       rw [Nat.add_zero] at x0
       have lb5 : b0 < wq.heap.size := Nat.lt_of_lt_of_le LB.out (FW.out.step f2 (fun _ _ h => h)).size
       go_wp2_with (first
        | (at_builtin; refine wpList_append_OwnS _ rfl (.tmp 31) (.tmp 34) 24 rfl 41 i0 (.agg #[.int .i64 0, .int .i64 0, .int .i64 0, .int .i64 0, .int .i64 0, .int .i64 0, .int .i64 0]) 7 56 Tryz.underlying24 hi hz0 hz1 hz2 rfl h07.out (.slice none 0 0) 0 [] rfl (OwnS.nil _ _ _) (.slice (some ⟨g3, off3, none⟩) k _) k (cells (out.take k)) rfl (S1.out _ f2) (cells_one _) g1 g2 ?_; intro v4 w4 o4 k4 n4; rw [Nat.zero_add, List.nil_append] at o4; obtain ⟨A4, cap4, rfl, hc4, hm4⟩ := o4.shape; have f4 := Keep.step (S := fun _ => False) (f2 : Fresh wr _) (fresh_nil k4) (fun _ _ h => h); have N4 : Hid (∀ q, (Value.slice A4 k cap4).ownBlock = some q → wr.heap.size ≤ q) := Lib.hid (fun q hq => by have h1 := n4 q hq; have h2 := (f2 : Fresh wr _).size; exact h1.elim (fun h => by simp [Value.ownBlock] at h) (fun h => by omega)); have O4 := Lib.hid o4; have F4 := Lib.hid f4; have x0 := CX.out _ (FW.out.step f4 (fun _ _ h => h)) 0 (.int .i64 x.a) rfl; have x1 := CX.out _ (FW.out.step f4 (fun _ _ h => h)) 1 (.int .i64 x.s) rfl; have x2 := CX.out _ (FW.out.step f4 (fun _ _ h => h)) 2 (.int .i64 x.t) rfl; have x3 := CX.out _ (FW.out.step f4 (fun _ _ h => h)) 3 (.int .i64 x.n) rfl; have x4 := CX.out _ (FW.out.step f4 (fun _ _ h => h)) 4 (.int .i64 x.d) rfl; have x5 := CX.out _ (FW.out.step f4 (fun _ _ h => h)) 5 (.int .i64 x.k) rfl; have x6 := CX.out _ (FW.out.step f4 (fun _ _ h => h)) 6 (.int .i64 x.x) rfl; rw [Nat.add_zero] at x0; have lb4 : b0 < w4.heap.size := Nat.lt_of_lt_of_le LB.out (FW.out.step f4 (fun _ _ h => h)).size; clear o4 k4 n4 f4)
        | (at_builtin; refine wpList_append_OwnS _ rfl (.tmp 36) (.tmp 41) 24 rfl 41 i0 (.agg #[.int .i64 0, .int .i64 0, .int .i64 0, .int .i64 0, .int .i64 0, .int .i64 0, .int .i64 0]) 7 56 Tryz.underlying24 hi hz0 hz1 hz2 rfl h07.out (.slice A4 k cap4) k (cells (out.take k)) rfl (O4.out.alloc _) (.slice (some ⟨w4.heap.size, 0, none⟩) 1 1) 1 (cells [x]) rfl (S2.out _) (cells_one _) g3' g4' ?_; intro v5 w5 o5 k5 n5; rw [← cells_append] at o5; obtain ⟨A5, cap5, rfl, hc5, hm5⟩ := o5.shape; have f5 := (F4.out.alloc (.cells #[.int .i64 x.a, .int .i64 x.s, .int .i64 x.t, .int .i64 x.n, .int .i64 x.d, .int .i64 x.k, .int .i64 x.x] 41)).step k5 (fun q hq e => by have := N4.out q e; omega); have N5 : Hid (∀ q, (Value.slice A5 (k + 1) cap5).ownBlock = some q → wr.heap.size ≤ q) := Lib.hid (fun q hq => by have h1 := n5 q hq; have h2 := F4.out.size; exact h1.elim (fun h => N4.out q h) (fun h => by simp at h; omega)); have O5 := Lib.hid o5; have F5 := Lib.hid f5; clear o5 k5 n5 f5)
        | (at_builtin; refine wpList_append_OwnS _ rfl (.tmp 43) (.tmp 46) 24 rfl 41 i0 (.agg #[.int .i64 0, .int .i64 0, .int .i64 0, .int .i64 0, .int .i64 0, .int .i64 0, .int .i64 0]) 7 56 Tryz.underlying24 hi hz0 hz1 hz2 rfl h07.out (.slice A5 (k + 1) cap5) (k + 1) (cells (out.take k ++ [x])) rfl O5.out (.slice (some ⟨g3, off3, none⟩) 0 _) 0 [] rfl ⟨rfl, .inr ⟨_, _, rfl, fun q u h => by simp at h⟩⟩ (fun _ h => by cases h) g3' g4' ?_; intro v6 w6 o6 k6 n6; rw [List.append_nil] at o6; obtain ⟨A6, cap6, rfl, hc6, hm6⟩ := o6.shape; have f6 := F5.out.step k6 (fun q hq e => by have := N5.out q e; omega); have N6 : Hid (∀ q, (Value.slice A6 (k + 1 + 0) cap6).ownBlock = some q → wr.heap.size ≤ q) := Lib.hid (fun q hq => by have h1 := n6 q hq; have h2 := F5.out.size; exact h1.elim (fun h => N5.out q h) (fun h => by omega)); have O6 := Lib.hid o6; have F6 := Lib.hid f6; clear o6 k6 n6 f6))
       have NX := Lib.hid (FIN.out HINH.out _ _ (by rw [show putAt out x k = out.take k ++ [x] from by unfold putAt; rw [show out.drop k = [] from List.drop_eq_nil_of_le (by have := KE.out; omega), List.append_nil], show k + 1 + (out.length - k) = k + 1 + 0 by have := KE.out; omega]; exact O6.out) F6.out N6.out)
       go_roundg (l.length - (i + 1))
       case measure => omega
       case rel => exact ⟨i + 1, _, _, by omega, rfl, rfl, by go_num, NX.out⟩
      ·skip
       go_wp2_with fail
       go_quiet (fail)
       obtain ⟨wq, hwq⟩ : ∃ wq, wr.drewN nq = wq := ⟨_, rfl⟩
       have f2 : Fresh wr wq := hwq ▸ (Keep.refl _ wr).drewN nq
       rw [hwq]
       clear hwq
       have x0 := CX.out _ (FW.out.step f2 (fun _ _ h => h)) 0 (.int .i64 x.a) rfl
       have x1 := CX.out _ (FW.out.step f2 (fun _ _ h => h)) 1 (.int .i64 x.s) rfl
       have x2 := CX.out _ (FW.out.step f2 (fun _ _ h => h)) 2 (.int .i64 x.t) rfl
       have x3 := CX.out _ (FW.out.step f2 (fun _ _ h => h)) 3 (.int .i64 x.n) rfl
       have x4 := CX.out _ (FW.out.step f2 (fun _ _ h => h)) 4 (.int .i64 x.d) rfl
       have x5 := CX.out _ (FW.out.step f2 (fun _ _ h => h)) 5 (.int .i64 x.k) rfl
       have x6 := CX.out _ (FW.out.step f2 (fun _ _ h => h)) 6 (.int .i64 x.x) rfl
       rw [Nat.add_zero] at x0
       have lb5 : b0 < wq.heap.size := Nat.lt_of_lt_of_le LB.out (FW.out.step f2 (fun _ _ h => h)).size
       go_wp2_with (first
        | (at_builtin; refine wpList_append_OwnS _ rfl (.tmp 31) (.tmp 34) 24 rfl 41 i0 (.agg #[.int .i64 0, .int .i64 0, .int .i64 0, .int .i64 0, .int .i64 0, .int .i64 0, .int .i64 0]) 7 56 Tryz.underlying24 hi hz0 hz1 hz2 rfl h07.out (.slice none 0 0) 0 [] rfl (OwnS.nil _ _ _) (.slice (some ⟨g3, off3, none⟩) k _) k (cells (out.take k)) rfl (S1.out _ f2) (cells_one _) g1 g2 ?_; intro v4 w4 o4 k4 n4; rw [Nat.zero_add, List.nil_append] at o4; obtain ⟨A4, cap4, rfl, hc4, hm4⟩ := o4.shape; have f4 := Keep.step (S := fun _ => False) (f2 : Fresh wr _) (fresh_nil k4) (fun _ _ h => h); have N4 : Hid (∀ q, (Value.slice A4 k cap4).ownBlock = some q → wr.heap.size ≤ q) := Lib.hid (fun q hq => by have h1 := n4 q hq; have h2 := (f2 : Fresh wr _).size; exact h1.elim (fun h => by simp [Value.ownBlock] at h) (fun h => by omega)); have O4 := Lib.hid o4; have F4 := Lib.hid f4; have x0 := CX.out _ (FW.out.step f4 (fun _ _ h => h)) 0 (.int .i64 x.a) rfl; have x1 := CX.out _ (FW.out.step f4 (fun _ _ h => h)) 1 (.int .i64 x.s) rfl; have x2 := CX.out _ (FW.out.step f4 (fun _ _ h => h)) 2 (.int .i64 x.t) rfl; have x3 := CX.out _ (FW.out.step f4 (fun _ _ h => h)) 3 (.int .i64 x.n) rfl; have x4 := CX.out _ (FW.out.step f4 (fun _ _ h => h)) 4 (.int .i64 x.d) rfl; have x5 := CX.out _ (FW.out.step f4 (fun _ _ h => h)) 5 (.int .i64 x.k) rfl; have x6 := CX.out _ (FW.out.step f4 (fun _ _ h => h)) 6 (.int .i64 x.x) rfl; rw [Nat.add_zero] at x0; have lb4 : b0 < w4.heap.size := Nat.lt_of_lt_of_le LB.out (FW.out.step f4 (fun _ _ h => h)).size; clear o4 k4 n4 f4)
        | (at_builtin; refine wpList_append_OwnS _ rfl (.tmp 36) (.tmp 41) 24 rfl 41 i0 (.agg #[.int .i64 0, .int .i64 0, .int .i64 0, .int .i64 0, .int .i64 0, .int .i64 0, .int .i64 0]) 7 56 Tryz.underlying24 hi hz0 hz1 hz2 rfl h07.out (.slice A4 k cap4) k (cells (out.take k)) rfl (O4.out.alloc _) (.slice (some ⟨w4.heap.size, 0, none⟩) 1 1) 1 (cells [x]) rfl (S2.out _) (cells_one _) g3' g4' ?_; intro v5 w5 o5 k5 n5; rw [← cells_append] at o5; obtain ⟨A5, cap5, rfl, hc5, hm5⟩ := o5.shape; have f5 := (F4.out.alloc (.cells #[.int .i64 x.a, .int .i64 x.s, .int .i64 x.t, .int .i64 x.n, .int .i64 x.d, .int .i64 x.k, .int .i64 x.x] 41)).step k5 (fun q hq e => by have := N4.out q e; omega); have N5 : Hid (∀ q, (Value.slice A5 (k + 1) cap5).ownBlock = some q → wr.heap.size ≤ q) := Lib.hid (fun q hq => by have h1 := n5 q hq; have h2 := F4.out.size; exact h1.elim (fun h => N4.out q h) (fun h => by simp at h; omega)); have O5 := Lib.hid o5; have F5 := Lib.hid f5; clear o5 k5 n5 f5)
        | (at_builtin; refine wpList_append_OwnS _ rfl (.tmp 43) (.tmp 46) 24 rfl 41 i0 (.agg #[.int .i64 0, .int .i64 0, .int .i64 0, .int .i64 0, .int .i64 0, .int .i64 0, .int .i64 0]) 7 56 Tryz.underlying24 hi hz0 hz1 hz2 rfl h07.out (.slice A5 (k + 1) cap5) (k + 1) (cells (out.take k ++ [x])) rfl O5.out (.slice (some ⟨g3, off3 + k * 7, none⟩) (out.length - k) _) (out.length - k) (cells (out.drop k)) rfl (S3.out _ _ _ F5.out) (cells_one _) g5 g6 ?_; intro v6 w6 o6 k6 n6; rw [← cells_append] at o6; obtain ⟨A6, cap6, rfl, hc6, hm6⟩ := o6.shape; have f6 := F5.out.step k6 (fun q hq e => by have := N5.out q e; omega); have N6 : Hid (∀ q, (Value.slice A6 (k + 1 + (out.length - k)) cap6).ownBlock = some q → wr.heap.size ≤ q) := Lib.hid (fun q hq => by have h1 := n6 q hq; have h2 := F5.out.size; exact h1.elim (fun h => N5.out q h) (fun h => by omega)); have O6 := Lib.hid o6; have F6 := Lib.hid f6; clear o6 k6 n6 f6))
       have NX := Lib.hid (FIN.out HINH.out _ _ O6.out F6.out N6.out)
       go_roundg (l.length - (i + 1))
       case measure => omega
       case rel => exact ⟨i + 1, _, _, by omega, rfl, rfl, by go_num, NX.out⟩
  ·obtain rfl : i = l.length := by omega
   have hp := HI.out.p
   rw [List.take_length] at hp
   have HP := Lib.hid hp
   clear hp
   go_wp2_with fail
   go_ret
   exact ⟨_, out, rfl, HI.out.s, HP.out, HI.out.o, HI.out.f, HI.out.n⟩
end Go.Proofs.YthbcdkeammhakaaGreat
namespace Go.Proofs.YthbcdkeammhakaaGreat
open Go.RowKit
attribute [local go_sem ↓] Go.wp_at_zero Go.wp_at_succ
attribute [local go_sem ↓] run_eql_ev
def cutAt (l : List Ev) (i : Nat) : List Ev := l.take i ++ l.drop (i + 1)
theorem cutAt_perm {l : List Ev} {i : Nat} {x : Ev} (h : l[i]? = some x) : l.Perm (x :: cutAt l i) := by
 obtain ⟨hl, hx⟩ := List.getElem?_eq_some_iff.1 h
 have e : l = l.take i ++ x :: l.drop (i + 1) := by
  have h2 : l.drop i = l[i] :: l.drop (i + 1) := List.drop_eq_getElem_cons hl
  rw [hx] at h2
  rw [← h2, List.take_append_drop]
 unfold cutAt
 refine List.Perm.trans (e ▸ List.Perm.refl _) List.perm_middle
theorem cutAt_length {l : List Ev} {i : Nat} (h : i < l.length) : (cutAt l i).length = i + (l.length - (i + 1)) := by
 unfold cutAt
 simp
 omega
def RTakeP (v : Value) (l : List Ev) (x : Ev) (w : World) (e : Ending) (w' : World) : Prop :=
 (∃ i v', l[i]? = some x ∧ e = .returned (.tuple #[v', .bool true]) ∧ OwnS w' 41 7 v' (cutAt l i).length (cells (cutAt l i)) ∧ Fresh w w' ∧ ∀ k, v'.ownBlock = some k → w.heap.size ≤ k) ∨ (x ∉ l ∧ e = .returned (.tuple #[v, .bool false]) ∧ Fresh w w')
theorem rtake_any (v : Value) (l : List Ev) (x : Ev) (w : World) (ho : OwnS w 41 7 v l.length (cells l)) (hl : l.length ≤ 100000) :
  Calls Tryz.prog 46 #[v, x.val] w (RTakeP v l x w) := by
 obtain ⟨A, c, rfl, hc, hcm⟩ := ho.shape
 have hcm : c ≤ 9223372036854775807 := by unfold maxLen at hcm; omega
 have HO := Lib.hid ho
 have F0 : Hid (Fresh w (w.alloc (.cells #[.int .i64 x.a, .int .i64 x.s, .int .i64 x.t, .int .i64 x.n, .int .i64 x.d, .int .i64 x.k, .int .i64 x.x] 41))) := Lib.hid ((Keep.refl _ w).alloc _)
 have B0 := Lib.hid (Blk.new w 41 #[.int .i64 x.a, .int .i64 x.s, .int .i64 x.t, .int .i64 x.n, .int .i64 x.d, .int .i64 x.k, .int .i64 x.x])
 clear ho
 obtain ⟨i0, hi, hz0, hz1, hz2⟩ := info_parts info_ev
 have h07 : Hid (0 < 7) := Lib.hid (by omega)
 unfold Ev.val
 go_enter Tryz.func46, Tryz.ntmps46
 go_wp2_with fail
 obtain ⟨w0, hw0⟩ : ∃ w0, w.alloc (.cells #[.int .i64 x.a, .int .i64 x.s, .int .i64 x.t, .int .i64 x.n, .int .i64 x.d, .int .i64 x.k, .int .i64 x.x] 41) = w0 := ⟨_, rfl⟩
 rw [hw0] at F0 B0 ⊢
 clear hw0
 go_loopg [6] l.length (fun gk u6 wr => ∃ i : Nat, i ≤ l.length ∧ gk = l.length - i ∧ u6 = .int .i64 i ∧ (∀ j y, j < i → l[j]? = some y → y ≠ x) ∧ Fresh w0 wr)
 case atStart => exact ⟨0, by omega, rfl, rfl, fun j y h => absurd h (by omega), Keep.refl _ _⟩
 case round =>
  obtain ⟨i, hi', rfl, rfl, hb, hF⟩ := hrel
  have HB := Lib.hid hb
  have HF := Lib.hid hF
  have FW := Lib.hid (F0.out.step hF (fun _ _ h => h))
  have cx := (hF.blk_ B0.out).cell
  have lx := (hF.blk_ B0.out).lt
  clear hb hF
  by_cases hlt : i < l.length
  ·obtain ⟨y, hy⟩ : ∃ y, l[i]? = some y := ⟨_, List.getElem?_eq_getElem hlt⟩
   obtain ⟨g3, off3, _, hv3, hg3, _, _, hcc⟩ := (HO.out.fresh FW.out).form (by omega)
   injection hv3 with e1 e2 e3
   subst e1 e3
   obtain ⟨y0, y1, y2, y3, y4, y5, y6⟩ := cells_at l i y hy
   have y0 := hcc _ _ y0
   have y1 := hcc _ _ y1
   have y2 := hcc _ _ y2
   have y3 := hcc _ _ y3
   have y4 := hcc _ _ y4
   have y5 := hcc _ _ y5
   have y6 := hcc _ _ y6
   rw [← Nat.add_assoc] at y1 y2 y3 y4 y5 y6
   have HY := Lib.hid hy
   clear hcc hy e2
   cases hq : evB y x
   ·have HQ := Lib.hid (show y ≠ x from fun e => by rw [(evB_iff y x).2 e] at hq; cases hq)
    unfold evB at hq
    go_wp2_with fail
    go_quiet (fail)
    go_wp2_with fail
    go_roundg (l.length - (i + 1))
    case measure => omega
    case rel => exact ⟨i + 1, by omega, rfl, by go_num, fun j z hj hz => by
       by_cases hjk : j = i
       ·subst hjk
        rw [HY.out] at hz
        injection hz with hz
        rw [← hz]
        exact HQ.out
       ·exact HB.out j z (by omega) hz, HF.out.drewN _⟩
   ·have HQ := Lib.hid ((evB_iff y x).1 hq)
    unfold evB at hq
    have j1 : (i : Int) ≤ (l.length : Int) := by omega
    have j2 : (l.length : Int) ≤ (c : Int) := by omega
    have j3 : (i : Int) ≤ (c : Int) := by omega
    have j4 : (i : Int) + 1 ≤ (l.length : Int) := by omega
    have j5 : (i : Int) + 1 ≤ (c : Int) := by omega
    have g1 : 0 + i ≤ maxLen := one_le_maxLen (by omega)
    have g2 : (0 + i) * 56 ≤ 140737488355328 := by omega
    have g5 : i + (l.length - (i + 1)) ≤ maxLen := one_le_maxLen (by omega)
    have g6 : (i + (l.length - (i + 1))) * 56 ≤ 140737488355328 := by omega
    have S1 : Hid (∀ W, Fresh wr W → Src W 7 (.slice (some ⟨g3, off3, none⟩) i c) i (cells (l.take i))) := Lib.hid fun W f => by
     have := (((HO.out.fresh FW.out).fresh f).cut (lo := 0) (hi := i) (off' := off3) (by omega) (by omega) (.inl (by omega))).src
     simp only [Nat.zero_mul, List.drop_zero, Nat.sub_zero] at this
     rwa [cells_take] at this
    have FIN : Hid (∀ v6 w6, OwnS w6 41 7 v6 (i + (l.length - (i + 1))) (cells (cutAt l i)) → Fresh wr w6 → (∀ q, v6.ownBlock = some q → wr.heap.size ≤ q) → RTakeP (.slice (some ⟨g3, off3, none⟩) l.length c) l x w (.returned (.tuple #[v6, .bool true])) w6) := Lib.hid fun v6 w6 o6 f6 n6 => .inl ⟨i, v6, by rw [HY.out, HQ.out], rfl, by rw [cutAt_length hlt]; exact o6, FW.out.step f6 (fun _ _ h => h), fun q hq => by have := n6 q hq; have := FW.out.size; omega⟩
    by_cases hck : c = i + 1
    ·have HLI := Lib.hid (show l.length = i + 1 by omega)
     have g7 : i + 0 ≤ maxLen := one_le_maxLen (by omega)
     have g8 : (i + 0) * 56 ≤ 140737488355328 := by omega
     subst hck
     go_wp2_with fail
     go_quiet (fail)
     obtain ⟨wq, hwq⟩ : ∃ wq, wr.drewN nq = wq := ⟨_, rfl⟩
     have f2 : Fresh wr wq := hwq ▸ (Keep.refl _ wr).drewN nq
     rw [hwq]
     clear hwq y0 y1 y2 y3 y4 y5 y6 cx
     go_wp2_with (first
      | (at_builtin; refine wpList_append_OwnS _ rfl (.tmp 20) (.tmp 23) 24 rfl 41 i0 (.agg #[.int .i64 0, .int .i64 0, .int .i64 0, .int .i64 0, .int .i64 0, .int .i64 0, .int .i64 0]) 7 56 Tryz.underlying24 hi hz0 hz1 hz2 rfl h07.out (.slice none 0 0) 0 [] rfl (OwnS.nil _ _ _) (.slice (some ⟨g3, off3, none⟩) i _) i (cells (l.take i)) rfl (S1.out _ f2) (cells_one _) g1 g2 ?_; intro v4 w4 o4 k4 n4; rw [Nat.zero_add, List.nil_append] at o4; obtain ⟨A4, cap4, rfl, hc4, hm4⟩ := o4.shape; have f4 := Keep.step (S := fun _ => False) (f2 : Fresh wr _) (fresh_nil k4) (fun _ _ h => h); have N4 : Hid (∀ q, (Value.slice A4 i cap4).ownBlock = some q → wr.heap.size ≤ q) := Lib.hid (fun q hq => by have h1 := n4 q hq; have h2 := (f2 : Fresh wr _).size; exact h1.elim (fun h => by simp [Value.ownBlock] at h) (fun h => by omega)); have O4 := Lib.hid o4; have F4 := Lib.hid f4; clear o4 k4 n4 f4)
      | (at_builtin; refine wpList_append_OwnS _ rfl (.tmp 25) (.tmp 29) 24 rfl 41 i0 (.agg #[.int .i64 0, .int .i64 0, .int .i64 0, .int .i64 0, .int .i64 0, .int .i64 0, .int .i64 0]) 7 56 Tryz.underlying24 hi hz0 hz1 hz2 rfl h07.out (.slice A4 i cap4) i (cells (l.take i)) rfl O4.out (.slice (some ⟨g3, off3, none⟩) 0 _) 0 [] rfl ⟨rfl, .inr ⟨_, _, rfl, fun q u h => by simp at h⟩⟩ (fun _ h => by cases h) g7 g8 ?_; intro v6 w6 o6 k6 n6; rw [List.append_nil] at o6; obtain ⟨A6, cap6, rfl, hc6, hm6⟩ := o6.shape; have f6 := F4.out.step k6 (fun q hq e => by have := N4.out q e; omega); have N6 : Hid (∀ q, (Value.slice A6 (i + 0) cap6).ownBlock = some q → wr.heap.size ≤ q) := Lib.hid (fun q hq => by have h1 := n6 q hq; have h2 := F4.out.size; exact h1.elim (fun h => N4.out q h) (fun h => by omega)); have O6 := Lib.hid o6; have F6 := Lib.hid f6; clear o6 k6 n6 f6))
     go_ret2
     exact FIN.out _ _ (by rw [show cutAt l i = l.take i from by unfold cutAt; rw [List.drop_eq_nil_of_le (by have := HLI.out; omega), List.append_nil], show i + (l.length - (i + 1)) = i + 0 by have := HLI.out; omega]; exact O6.out) F6.out N6.out
    ·have S3 : Hid (∀ W cc, Fresh wr W → Src W 7 (.slice (some ⟨g3, off3 + (i + 1) * 7, none⟩) (l.length - (i + 1)) cc) (l.length - (i + 1)) (cells (l.drop (i + 1)))) := Lib.hid fun W cc f => by
      have := (((HO.out.fresh FW.out).fresh f).cut (lo := i + 1) (hi := l.length) (off' := off3 + (i + 1) * 7) (by omega) (by omega) (.inl rfl)).src
      rw [cells_drop, List.take_of_length_le (by rw [cells_length, List.length_drop]; omega)] at this
      exact src_cap this
     go_wp2_with fail
     go_quiet (fail)
     obtain ⟨wq, hwq⟩ : ∃ wq, wr.drewN nq = wq := ⟨_, rfl⟩
     have f2 : Fresh wr wq := hwq ▸ (Keep.refl _ wr).drewN nq
     rw [hwq]
     clear hwq y0 y1 y2 y3 y4 y5 y6 cx
     go_wp2_with (first
      | (at_builtin; refine wpList_append_OwnS _ rfl (.tmp 20) (.tmp 23) 24 rfl 41 i0 (.agg #[.int .i64 0, .int .i64 0, .int .i64 0, .int .i64 0, .int .i64 0, .int .i64 0, .int .i64 0]) 7 56 Tryz.underlying24 hi hz0 hz1 hz2 rfl h07.out (.slice none 0 0) 0 [] rfl (OwnS.nil _ _ _) (.slice (some ⟨g3, off3, none⟩) i _) i (cells (l.take i)) rfl (S1.out _ f2) (cells_one _) g1 g2 ?_; intro v4 w4 o4 k4 n4; rw [Nat.zero_add, List.nil_append] at o4; obtain ⟨A4, cap4, rfl, hc4, hm4⟩ := o4.shape; have f4 := Keep.step (S := fun _ => False) (f2 : Fresh wr _) (fresh_nil k4) (fun _ _ h => h); have N4 : Hid (∀ q, (Value.slice A4 i cap4).ownBlock = some q → wr.heap.size ≤ q) := Lib.hid (fun q hq => by have h1 := n4 q hq; have h2 := (f2 : Fresh wr _).size; exact h1.elim (fun h => by simp [Value.ownBlock] at h) (fun h => by omega)); have O4 := Lib.hid o4; have F4 := Lib.hid f4; clear o4 k4 n4 f4)
      | (at_builtin; refine wpList_append_OwnS _ rfl (.tmp 25) (.tmp 29) 24 rfl 41 i0 (.agg #[.int .i64 0, .int .i64 0, .int .i64 0, .int .i64 0, .int .i64 0, .int .i64 0, .int .i64 0]) 7 56 Tryz.underlying24 hi hz0 hz1 hz2 rfl h07.out (.slice A4 i cap4) i (cells (l.take i)) rfl O4.out (.slice (some ⟨g3, off3 + (i + 1) * 7, none⟩) (l.length - (i + 1)) _) (l.length - (i + 1)) (cells (l.drop (i + 1))) rfl (S3.out _ _ F4.out) (cells_one _) g5 g6 ?_; intro v6 w6 o6 k6 n6; rw [← cells_append] at o6; obtain ⟨A6, cap6, rfl, hc6, hm6⟩ := o6.shape; have f6 := F4.out.step k6 (fun q hq e => by have := N4.out q e; omega); have N6 : Hid (∀ q, (Value.slice A6 (i + (l.length - (i + 1))) cap6).ownBlock = some q → wr.heap.size ≤ q) := Lib.hid (fun q hq => by have h1 := n6 q hq; have h2 := F4.out.size; exact h1.elim (fun h => N4.out q h) (fun h => by omega)); have O6 := Lib.hid o6; have F6 := Lib.hid f6; clear o6 k6 n6 f6))
     go_ret2
     exact FIN.out _ _ O6.out F6.out N6.out
  ·obtain rfl : i = l.length := by omega
   go_wp2_with fail
   go_ret2
   refine .inr ⟨fun hm => ?_, rfl, FW.out⟩
   obtain ⟨j, hj⟩ := List.mem_iff_getElem?.1 hm
   exact HB.out j x (List.getElem?_eq_some_iff.1 hj).1 hj rfl
end Go.Proofs.YthbcdkeammhakaaGreat
namespace Go.Proofs.YthbcdkeammhakaaGreat
open Go.RowKit
attribute [local go_sem ↓] Go.wp_at_zero Go.wp_at_succ
structure RQ (w : World) (g : Nat) (v1 v2 : Value) (L B : List Ev) : Prop where
 blk : Blk w g 105 #[v1, v2]
 own1 : OwnS w 41 7 v1 L.length (cells L)
 own2 : OwnS w 41 7 v2 B.length (cells B)
 n12 : ∀ k, v1.ownBlock = some k → v2.ownBlock ≠ some k
section
variable {w w' w3 : World} {g : Nat} {v1 v2 v' : Value} {L B L' : List Ev} {S : Nat → Prop}
theorem RQ.n1 (h : RQ w g v1 v2 L B) : v1.ownBlock ≠ some g := h.own1.ne_blk h.blk (by decide)
theorem RQ.n2 (h : RQ w g v1 v2 L B) : v2.ownBlock ≠ some g := h.own2.ne_blk h.blk (by decide)
theorem RQ.kept (h : RQ w g v1 v2 L B) (k : Keep S w w') (hS : ∀ i, foot g v1 v2 i → ¬ S i) : RQ w' g v1 v2 L B :=
 ⟨h.blk.keep k (hS g (.inl rfl)), h.own1.kept k (fun i hi => hS i (.inr (.inl hi))), h.own2.kept k (fun i hi => hS i (.inr (.inr hi))), h.n12⟩
theorem RQ.fresh (h : RQ w g v1 v2 L B) (k : Fresh w w') : RQ w' g v1 v2 L B := h.kept k (fun _ _ h => h)
theorem RQ.lt (h : RQ w g v1 v2 L B) (k : Nat) (hk : foot g v1 v2 k) : k < w.heap.size := by
 rcases hk with rfl | hk | hk
 ·exact h.blk.lt
 ·exact h.own1.lt hk
 ·exact h.own2.lt hk
theorem RQ.put0 (h : RQ w g v1 v2 L B) (o : OwnS w3 41 7 v' L'.length (cells L')) (k : Keep S w w3) (hS : ∀ i, S i → v1.ownBlock = some i) (n : ∀ i, v'.ownBlock = some i → v1.ownBlock = some i ∨ w.heap.size ≤ i) :
  RQ (w3.setCell ⟨g, 0, none⟩ v') g v' v2 L' B ∧ Turn w (w3.setCell ⟨g, 0, none⟩ v') g v1 v2 v' v2 := by
 have b3 := h.blk.keep k (fun hs => h.n1 (hS _ hs))
 have o2 := h.own2.kept k (fun i hi hs => h.n12 i (hS i hs) hi)
 refine ⟨⟨by simpa using b3.set_ 0 v', o.far (p := ⟨g, 0, none⟩) (o.ne_blk b3 (by decide)) v', o2.far (p := ⟨g, 0, none⟩) h.n2 v', fun i hi h2 => ?_⟩, ⟨(k.more (fun i _ hs => .inr (.inl (hS i hs)))).setCell (p := ⟨g, 0, none⟩) (fun _ => .inl rfl) v', fun i hi => ?_⟩⟩
 ·rcases n i hi with h1 | h1
  ·exact h.n12 i h1 h2
  ·have := h.own2.lt h2; omega
 ·rcases hi with rfl | hi | hi
  ·exact .inl (.inl rfl)
  ·rcases n i hi with h1 | h1
   ·exact .inl (.inr (.inl h1))
   ·exact .inr h1
  ·exact .inl (.inr (.inr hi))
theorem RQ.put1 (h : RQ w g v1 v2 L B) (o : OwnS w3 41 7 v' L'.length (cells L')) (k : Keep S w w3) (hS : ∀ i, S i → v2.ownBlock = some i) (n : ∀ i, v'.ownBlock = some i → v2.ownBlock = some i ∨ w.heap.size ≤ i) :
  RQ (w3.setCell ⟨g, 1, none⟩ v') g v1 v' L L' ∧ Turn w (w3.setCell ⟨g, 1, none⟩ v') g v1 v2 v1 v' := by
 have b3 := h.blk.keep k (fun hs => h.n2 (hS _ hs))
 have o1 := h.own1.kept k (fun i hi hs => h.n12 i hi (hS i hs))
 refine ⟨⟨by simpa using b3.set_ 1 v', o1.far (p := ⟨g, 1, none⟩) h.n1 v', o.far (p := ⟨g, 1, none⟩) (o.ne_blk b3 (by decide)) v', fun i hi h2 => ?_⟩, ⟨(k.more (fun i _ hs => .inr (.inr (hS i hs)))).setCell (p := ⟨g, 1, none⟩) (fun _ => .inl rfl) v', fun i hi => ?_⟩⟩
 ·rcases n i h2 with h1 | h1
  ·exact h.n12 i hi h1
  ·have := h.own1.lt hi; omega
 ·rcases hi with rfl | hi | hi
  ·exact .inl (.inl rfl)
  ·exact .inl (.inr (.inl hi))
  ·rcases n i hi with h1 | h1
   ·exact .inl (.inr (.inr h1))
   ·exact .inr h1
end
theorem rput_out (g : Nat) (x : Ev) (an : Bool) (w : World) (ha : x.a < 0 ∨ 1073741824 < x.a) :
  Calls Tryz.prog 22 #[.pointer (some ⟨g, 0, none⟩), x.msg an] w fun e w' => e = .returned (.tuple #[.bool false, .int .i64 10]) ∧ Fresh w w' := by
 unfold Ev.msg
 by_cases h1 : x.a < 0
 ·have t1 : decide (x.a < 0) = true := decide_eq_true h1
  go_enter Tryz.func22, Tryz.ntmps22
  go_wp2
  go_ret2
  exact ⟨rfl, by (repeat (first | (with_reducible exact Keep.refl _ _) | (with_reducible assumption) | (with_reducible refine Keep.drew ?_) | (with_reducible refine Keep.drewN ?_ _) | (with_reducible refine Keep.alloc ?_ _) | (with_reducible refine Keep.setCell ?_ ?_ _) | (with_reducible refine fun _ => rfl)))⟩
 ·have t1 : decide (x.a < 0) = false := decide_eq_false h1
  have t2 : decide (1073741824 < x.a) = true := decide_eq_true (by omega)
  go_enter Tryz.func22, Tryz.ntmps22
  go_wp2
  go_ret2
  exact ⟨rfl, by (repeat (first | (with_reducible exact Keep.refl _ _) | (with_reducible assumption) | (with_reducible refine Keep.drew ?_) | (with_reducible refine Keep.drewN ?_ _) | (with_reducible refine Keep.alloc ?_ _) | (with_reducible refine Keep.setCell ?_ ?_ _) | (with_reducible refine fun _ => rfl)))⟩
def RPutP (g : Nat) (v1 v2 : Value) (l m : List Ev) (x : Ev) (an : Bool) (w : World) (e : Ending) (w' : World) : Prop :=
 e = .returned (.tuple #[.bool (putMet l m x an), .int .i64 0]) ∧ ∃ v1' v2' L' B', RQ w' g v1' v2' L' B' ∧ L'.Perm (putL l m x an) ∧ B'.Perm (putB l m x an) ∧ Turn w w' g v1 v2 v1' v2'
theorem take_perm {L l : List Ev} {x : Ev} {i : Nat} (h : L.Perm l) (hi : L[i]? = some x) (hh : has l x = true) : (cutAt L i).Perm (rem l x) :=
 List.Perm.cons_inv ((cutAt_perm hi).symm.trans (h.trans (rem_perm hh)))
theorem Turn.two {w w1 w2 : World} {g : Nat} {v1 v2 v1' v2' v1'' v2'' : Value} (t : Turn w w1 g v1 v2 v1' v2') (u : Turn w1 w2 g v1' v2' v1'' v2'') : Turn w w2 g v1 v2 v1'' v2'' := by
 refine ⟨t.keep.step u.keep (fun i hi hf => (t.later i hf).elim id (fun h => absurd hi (by omega))), fun k hk => ?_⟩
 rcases u.later k hk with h | h
 ·exact t.later k h
 ·exact .inr (Nat.le_trans t.keep.size h)
theorem rput_any (g : Nat) (v1 v2 : Value) (L B l m : List Ev) (x : Ev) (an : Bool) (w : World) (h : RQ w g v1 v2 L B) (sl : Srt l) (sm : Srt m) (pl : L.Perm l) (pm : B.Perm m) (hl : L.length ≤ 10000) (hm : B.length ≤ 10000) (ha : 0 ≤ x.a ∧ x.a ≤ 1073741824) :
  Calls Tryz.prog 22 #[.pointer (some ⟨g, 0, none⟩), x.msg an] w (RPutP g v1 v2 l m x an w) := by
 have t1 : decide (x.a < 0) = false := decide_eq_false (by omega)
 have t2 : decide (1073741824 < x.a) = false := decide_eq_false (by omega)
 have H := Lib.hid h
 have HT1 := Lib.hid (fun W (f : Fresh w W) => rtake_any v1 L x W (h.own1.fresh f) (by omega))
 have HT2 := Lib.hid (fun W (f : Fresh w W) => rtake_any v2 B x W (h.own2.fresh f) (by omega))
 have HM1 : Hid (has l x = decide (x ∈ L)) := Lib.hid (by
  cases hh : has l x
  ·exact (decide_eq_false (fun hx => by rw [(has_mem sl x).2 (pl.mem_iff.1 hx)] at hh; cases hh)).symm
  ·exact (decide_eq_true (pl.mem_iff.2 ((has_mem sl x).1 hh))).symm)
 have HM2 : Hid (has m x = decide (x ∈ B)) := Lib.hid (by
  cases hh : has m x
  ·exact (decide_eq_false (fun hx => by rw [(has_mem sm x).2 (pm.mem_iff.1 hx)] at hh; cases hh)).symm
  ·exact (decide_eq_true (pm.mem_iff.2 ((has_mem sm x).1 hh))).symm)
 obtain ⟨A1, c1, rfl, hc1, hm1⟩ := h.own1.shape
 obtain ⟨A2, c2, rfl, hc2, hm2⟩ := h.own2.shape
 have F0 : Hid (Fresh w (w.alloc (.cells #[.int .i64 x.a, .int .i64 x.s, .int .i64 x.t, .int .i64 x.n, .int .i64 x.d, .int .i64 x.k, .int .i64 x.x, .bool an] 43))) := Lib.hid ((Keep.refl _ _).alloc _)
 have B0 := Lib.hid (Blk.new w 43 #[.int .i64 x.a, .int .i64 x.s, .int .i64 x.t, .int .i64 x.n, .int .i64 x.d, .int .i64 x.k, .int .i64 x.x, .bool an])
 have NB := Lib.hid (show w.heap.size ≠ g from fun e => by have := h.blk.lt; omega)
 have PL := Lib.hid pl
 have PM := Lib.hid pm
 clear h pl pm
 obtain ⟨i0, hi, hz0, hz1, hz2⟩ := info_parts info_ev
 have h07 : Hid (0 < 7) := Lib.hid (by omega)
 unfold Ev.val at HT1 HT2
 unfold Ev.msg
 cases an
 ·by_cases hx : x ∈ B
  ·have HH := Lib.hid (HM2.out.trans (decide_eq_true hx))
   have FIN : Hid (∀ (W w3 : World) (v' : Value) (i : Nat), Fresh w W → RQ W g (.slice A1 L.length c1) (.slice A2 B.length c2) L B → B[i]? = some x → OwnS w3 41 7 v' (cutAt B i).length (cells (cutAt B i)) → Fresh W w3 → (∀ k, v'.ownBlock = some k → W.heap.size ≤ k) → RPutP g (.slice A1 L.length c1) (.slice A2 B.length c2) l m x false w (.returned (.tuple #[.bool true, .int .i64 0])) (w3.setCell ⟨g, 1, none⟩ v')) := Lib.hid fun W w3 v' i fW q hi' o f1 n => by
    obtain ⟨r, t⟩ := q.put1 o f1 (fun _ h => h.elim) (fun k hk => .inr (n k hk))
    have HI := Lib.hid hi'
    exact ⟨by unfold putMet; simp [HH.out], _, _, _, _, r, (by simp only [putL, HH.out, if_true, if_false, Bool.false_eq_true]; exact PL.out), (by simp only [putB, HH.out, if_true, if_false, Bool.false_eq_true]; exact take_perm PM.out HI.out HH.out), Turn.after fW t⟩
   go_enter Tryz.func22, Tryz.ntmps22
   go_wp2_with fail
   obtain ⟨w0, hw0⟩ : ∃ w0, w.alloc (.cells #[.int .i64 x.a, .int .i64 x.s, .int .i64 x.t, .int .i64 x.n, .int .i64 x.d, .int .i64 x.k, .int .i64 x.x, .bool false] 43) = w0 := ⟨_, rfl⟩
   rw [hw0] at F0 B0 ⊢
   clear hw0
   have fwd : Fresh w0 w0.drew := (Keep.refl _ _).drew
   have HD := Lib.hid (HT2.out _ (F0.out.step fwd (fun _ _ h => h)))
   have HFD := Lib.hid (F0.out.step fwd (fun _ _ h => h))
   have cB := B0.out.cell
   have lB := B0.out.lt
   have cBd := (fwd.blk_ B0.out).cell
   have BD := Lib.hid (fwd.blk_ B0.out)
   have q0 := H.out.fresh F0.out
   have cQ := q0.blk.cell
   have lQ := q0.blk.lt
   have cQd := (q0.fresh fwd).blk.cell
   have Q0 := Lib.hid (q0.fresh fwd)
   clear fwd q0
   go_wp2_with fail
   go_region_law (rw [if_pos (by simp [Region.wanted])]; go_simp; go_at_call 46; (with_reducible refine HD.out.mono ?_); rintro en2 w3 hT; rcases hT with ⟨i, v', hi', rfl, o1, f1, n1⟩ | ⟨hn, _⟩; rotate_left; exact absurd hx hn; have b3 := (Q0.out.fresh f1).blk; have cq3 := b3.cell; have cq4 := b3.frozen; have cq5 := b3.lt; obtain ⟨A3, cap3, rfl, _, _⟩ := o1.shape; have F1 := Lib.hid f1; have O1 := Lib.hid o1; have N1 := Lib.hid n1; have HI := Lib.hid hi'; clear o1 n1 hi' f1 b3)
   all_goals go_wp2_with fail
   all_goals go_ret2
   all_goals exact FIN.out _ _ _ _ HFD.out Q0.out HI.out O1.out F1.out N1.out
  ·have HH := Lib.hid (HM2.out.trans (decide_eq_false hx))
   have FIN : Hid (∀ (W w3 : World), Fresh w W → RQ W g (.slice A1 L.length c1) (.slice A2 B.length c2) L B → Blk W w.heap.size 43 #[.int .i64 x.a, .int .i64 x.s, .int .i64 x.t, .int .i64 x.n, .int .i64 x.d, .int .i64 x.k, .int .i64 x.x, .bool false] → Fresh W w3 → RQ (w3.setCell ⟨g, 1, none⟩ (.slice A2 B.length c2)) g (.slice A1 L.length c1) (.slice A2 B.length c2) L B ∧ Turn w (w3.setCell ⟨g, 1, none⟩ (.slice A2 B.length c2)) g (.slice A1 L.length c1) (.slice A2 B.length c2) (.slice A1 L.length c1) (.slice A2 B.length c2) ∧ Blk (w3.setCell ⟨g, 1, none⟩ (.slice A2 B.length c2)) w.heap.size 43 #[.int .i64 x.a, .int .i64 x.s, .int .i64 x.t, .int .i64 x.n, .int .i64 x.d, .int .i64 x.k, .int .i64 x.x, .bool false]) := Lib.hid fun W w3 fW q b f1 => by
    obtain ⟨r, t⟩ := q.put1 (q.own2.fresh f1) f1 (fun _ h => h.elim) (fun k hk => .inl hk)
    exact ⟨r, Turn.after fW t, (f1.blk_ b).far (p := ⟨g, 1, none⟩) NB.out _⟩
   go_enter Tryz.func22, Tryz.ntmps22
   go_wp2_with fail
   obtain ⟨w0, hw0⟩ : ∃ w0, w.alloc (.cells #[.int .i64 x.a, .int .i64 x.s, .int .i64 x.t, .int .i64 x.n, .int .i64 x.d, .int .i64 x.k, .int .i64 x.x, .bool false] 43) = w0 := ⟨_, rfl⟩
   rw [hw0] at F0 B0 ⊢
   clear hw0
   have fwd : Fresh w0 w0.drew := (Keep.refl _ _).drew
   have HD := Lib.hid (HT2.out _ (F0.out.step fwd (fun _ _ h => h)))
   have HFD := Lib.hid (F0.out.step fwd (fun _ _ h => h))
   have cB := B0.out.cell
   have lB := B0.out.lt
   have cBd := (fwd.blk_ B0.out).cell
   have BD := Lib.hid (fwd.blk_ B0.out)
   have q0 := H.out.fresh F0.out
   have cQ := q0.blk.cell
   have lQ := q0.blk.lt
   have cQd := (q0.fresh fwd).blk.cell
   have Q0 := Lib.hid (q0.fresh fwd)
   clear fwd q0
   go_wp2_with fail
   go_region_law (rw [if_pos (by simp [Region.wanted])]; go_simp; go_at_call 46; (with_reducible refine HD.out.mono ?_); rintro en2 w3 hT; rcases hT with ⟨i, v', hi', _, _⟩ | ⟨_, rfl, f1⟩; exact absurd (List.mem_of_getElem? hi') hx; have b3 := (Q0.out.fresh f1).blk; have cq3 := b3.cell; have cq4 := b3.frozen; have cq5 := b3.lt; have F1 := Lib.hid f1; clear f1 b3)
   all_goals
    obtain ⟨r, t, b⟩ := FIN.out _ _ HFD.out Q0.out BD.out F1.out
    obtain ⟨X, hX⟩ : ∃ X, w3.setCell ⟨g, 1, none⟩ (.slice A2 B.length c2) = X := ⟨_, rfl⟩
    rw [hX] at r t b ⊢
    clear hX FIN cq3 cq4 cq5 cB cBd cQ cQd
    have cX := r.blk.cell
    have zX := r.blk.frozen
    have lX := r.blk.lt
    have cM := b.cell
    have lM := b.lt
    have fD : Fresh X X.drew := (Keep.refl _ _).drew
    have cXd := (r.fresh fD).blk.cell
    have zXd := (r.fresh fD).blk.frozen
    have cMd := (fD.blk_ b).cell
    have HC : Hid (Src (X.drew.alloc (.cells #[.int .i64 x.a, .int .i64 x.s, .int .i64 x.t, .int .i64 x.n, .int .i64 x.d, .int .i64 x.k, .int .i64 x.x] 41)) 7 (.slice (some ⟨X.heap.size, 0, none⟩) 1 1) 1 (cells [x])) := Lib.hid (Src.one_new X.drew 41 7 #[.int .i64 x.a, .int .i64 x.s, .int .i64 x.t, .int .i64 x.n, .int .i64 x.d, .int .i64 x.k, .int .i64 x.x] rfl)
    have fA : Fresh X (X.drew.alloc (.cells #[.int .i64 x.a, .int .i64 x.s, .int .i64 x.t, .int .i64 x.n, .int .i64 x.d, .int .i64 x.k, .int .i64 x.x] 41)) := fD.alloc _
    have RA := Lib.hid (r.fresh fA)
    have FA := Lib.hid fA
    have TT := Lib.hid t
    have h4o : Hid (OwnS (X.drew.alloc (.cells #[.int .i64 x.a, .int .i64 x.s, .int .i64 x.t, .int .i64 x.n, .int .i64 x.d, .int .i64 x.k, .int .i64 x.x] 41)) 41 7 (.slice A1 L.length c1) L.length (cells L)) := Lib.hid (r.fresh fA).own1
    have hL1 : L.length + 1 ≤ maxLen := one_le_maxLen (by omega)
    have hL2 : (L.length + 1) * 56 ≤ 140737488355328 := by omega
    have FIN2 : Hid (∀ v4 w4, OwnS w4 41 7 v4 (L.length + 1) (cells L ++ cells [x]) → Keep (fun k => (Value.slice A1 L.length c1).ownBlock = some k) (X.drew.alloc (.cells #[.int .i64 x.a, .int .i64 x.s, .int .i64 x.t, .int .i64 x.n, .int .i64 x.d, .int .i64 x.k, .int .i64 x.x] 41)) w4 → (∀ k, v4.ownBlock = some k → (Value.slice A1 L.length c1).ownBlock = some k ∨ (X.drew.alloc (.cells #[.int .i64 x.a, .int .i64 x.s, .int .i64 x.t, .int .i64 x.n, .int .i64 x.d, .int .i64 x.k, .int .i64 x.x] 41)).heap.size ≤ k) → RPutP g (.slice A1 L.length c1) (.slice A2 B.length c2) l m x false w (.returned (.tuple #[.bool false, .int .i64 0])) (w4.setCell ⟨g, 0, none⟩ v4)) := Lib.hid fun v4 w4 o4 k4 n4 => by
     obtain ⟨r4, t4⟩ := RA.out.put0 (L' := L ++ [x]) (by rw [List.length_append, cells_append]; exact o4) k4 (fun _ h => h) n4
     refine ⟨by unfold putMet; simp [HH.out], _, _, _, _, r4, (by simp only [putL, HH.out, if_false, Bool.false_eq_true]; exact (List.perm_append_singleton x L).trans ((PL.out.cons x).trans (ins_perm l x).symm)), (by simp only [putB, HH.out, if_false, Bool.false_eq_true]; exact PM.out), Turn.two TT.out (Turn.after FA.out t4)⟩
    have KB : Hid (∀ w4, Keep (fun k => (Value.slice A1 L.length c1).ownBlock = some k) (X.drew.alloc (.cells #[.int .i64 x.a, .int .i64 x.s, .int .i64 x.t, .int .i64 x.n, .int .i64 x.d, .int .i64 x.k, .int .i64 x.x] 41)) w4 → Blk w4 g 105 #[(.slice A1 L.length c1), (.slice A2 B.length c2)]) := Lib.hid fun w4 k4 => RA.out.blk.keep k4 RA.out.n1
    clear r t b fD fA
    go_wp2_with fail
    go_region_law ((refine step_append_OwnS _ (by rfl) _ _ 24 (by rfl) 41 i0 (.agg #[.int .i64 0, .int .i64 0, .int .i64 0, .int .i64 0, .int .i64 0, .int .i64 0, .int .i64 0]) 7 56 Tryz.underlying24 hi hz0 hz1 hz2 (by rfl) h07.out (.slice A1 L.length c1) L.length (cells L) (by rfl) h4o.out (.slice (some ⟨X.heap.size, 0, none⟩) 1 1) 1 (cells [x]) (by rfl) HC.out (cells_one _) hL1 hL2 ?_; intro v4 w4 o4 k4 n4; obtain ⟨A4, cap4, rfl, _, _⟩ := o4.shape; have b4 := KB.out _ k4; have cb4 := b4.cell; have zb4 := b4.frozen; have lb4 := b4.lt; have O4 := Lib.hid o4; have K4 := Lib.hid k4; have N4 := Lib.hid n4; clear o4 k4 n4 b4))
    all_goals go_wp2_with fail
    all_goals go_ret2
    all_goals exact FIN2.out _ _ O4.out K4.out N4.out
 ·by_cases hx : x ∈ L
  ·have HH := Lib.hid (HM1.out.trans (decide_eq_true hx))
   have FIN : Hid (∀ (W w3 : World) (v' : Value) (i : Nat), Fresh w W → RQ W g (.slice A1 L.length c1) (.slice A2 B.length c2) L B → L[i]? = some x → OwnS w3 41 7 v' (cutAt L i).length (cells (cutAt L i)) → Fresh W w3 → (∀ k, v'.ownBlock = some k → W.heap.size ≤ k) → RPutP g (.slice A1 L.length c1) (.slice A2 B.length c2) l m x true w (.returned (.tuple #[.bool true, .int .i64 0])) (w3.setCell ⟨g, 0, none⟩ v')) := Lib.hid fun W w3 v' i fW q hi' o f1 n => by
    obtain ⟨r, t⟩ := q.put0 o f1 (fun _ h => h.elim) (fun k hk => .inr (n k hk))
    have HI := Lib.hid hi'
    exact ⟨by unfold putMet; simp [HH.out], _, _, _, _, r, (by simp only [putL, HH.out, if_true]; exact take_perm PL.out HI.out HH.out), (by simp only [putB, HH.out, if_true]; exact PM.out), Turn.after fW t⟩
   go_enter Tryz.func22, Tryz.ntmps22
   go_wp2_with fail
   obtain ⟨w0, hw0⟩ : ∃ w0, w.alloc (.cells #[.int .i64 x.a, .int .i64 x.s, .int .i64 x.t, .int .i64 x.n, .int .i64 x.d, .int .i64 x.k, .int .i64 x.x, .bool true] 43) = w0 := ⟨_, rfl⟩
   rw [hw0] at F0 B0 ⊢
   clear hw0
   have fwd : Fresh w0 w0.drew := (Keep.refl _ _).drew
   have HD := Lib.hid (HT1.out _ (F0.out.step fwd (fun _ _ h => h)))
   have HFD := Lib.hid (F0.out.step fwd (fun _ _ h => h))
   have cB := B0.out.cell
   have lB := B0.out.lt
   have cBd := (fwd.blk_ B0.out).cell
   have BD := Lib.hid (fwd.blk_ B0.out)
   have q0 := H.out.fresh F0.out
   have cQ := q0.blk.cell
   have lQ := q0.blk.lt
   have cQd := (q0.fresh fwd).blk.cell
   have Q0 := Lib.hid (q0.fresh fwd)
   clear fwd q0
   go_wp2_with fail
   go_region_law (rw [if_pos (by simp [Region.wanted])]; go_simp; go_at_call 46; (with_reducible refine HD.out.mono ?_); rintro en2 w3 hT; rcases hT with ⟨i, v', hi', rfl, o1, f1, n1⟩ | ⟨hn, _⟩; rotate_left; exact absurd hx hn; have b3 := (Q0.out.fresh f1).blk; have cq3 := b3.cell; have cq4 := b3.frozen; have cq5 := b3.lt; obtain ⟨A3, cap3, rfl, _, _⟩ := o1.shape; have F1 := Lib.hid f1; have O1 := Lib.hid o1; have N1 := Lib.hid n1; have HI := Lib.hid hi'; clear o1 n1 hi' f1 b3)
   all_goals go_wp2_with fail
   all_goals go_ret2
   all_goals exact FIN.out _ _ _ _ HFD.out Q0.out HI.out O1.out F1.out N1.out
  ·have HH := Lib.hid (HM1.out.trans (decide_eq_false hx))
   have FIN : Hid (∀ (W w3 : World), Fresh w W → RQ W g (.slice A1 L.length c1) (.slice A2 B.length c2) L B → Blk W w.heap.size 43 #[.int .i64 x.a, .int .i64 x.s, .int .i64 x.t, .int .i64 x.n, .int .i64 x.d, .int .i64 x.k, .int .i64 x.x, .bool true] → Fresh W w3 → RQ (w3.setCell ⟨g, 0, none⟩ (.slice A1 L.length c1)) g (.slice A1 L.length c1) (.slice A2 B.length c2) L B ∧ Turn w (w3.setCell ⟨g, 0, none⟩ (.slice A1 L.length c1)) g (.slice A1 L.length c1) (.slice A2 B.length c2) (.slice A1 L.length c1) (.slice A2 B.length c2) ∧ Blk (w3.setCell ⟨g, 0, none⟩ (.slice A1 L.length c1)) w.heap.size 43 #[.int .i64 x.a, .int .i64 x.s, .int .i64 x.t, .int .i64 x.n, .int .i64 x.d, .int .i64 x.k, .int .i64 x.x, .bool true]) := Lib.hid fun W w3 fW q b f1 => by
    obtain ⟨r, t⟩ := q.put0 (q.own1.fresh f1) f1 (fun _ h => h.elim) (fun k hk => .inl hk)
    exact ⟨r, Turn.after fW t, (f1.blk_ b).far (p := ⟨g, 0, none⟩) NB.out _⟩
   go_enter Tryz.func22, Tryz.ntmps22
   go_wp2_with fail
   obtain ⟨w0, hw0⟩ : ∃ w0, w.alloc (.cells #[.int .i64 x.a, .int .i64 x.s, .int .i64 x.t, .int .i64 x.n, .int .i64 x.d, .int .i64 x.k, .int .i64 x.x, .bool true] 43) = w0 := ⟨_, rfl⟩
   rw [hw0] at F0 B0 ⊢
   clear hw0
   have fwd : Fresh w0 w0.drew := (Keep.refl _ _).drew
   have HD := Lib.hid (HT1.out _ (F0.out.step fwd (fun _ _ h => h)))
   have HFD := Lib.hid (F0.out.step fwd (fun _ _ h => h))
   have cB := B0.out.cell
   have lB := B0.out.lt
   have cBd := (fwd.blk_ B0.out).cell
   have BD := Lib.hid (fwd.blk_ B0.out)
   have q0 := H.out.fresh F0.out
   have cQ := q0.blk.cell
   have lQ := q0.blk.lt
   have cQd := (q0.fresh fwd).blk.cell
   have Q0 := Lib.hid (q0.fresh fwd)
   clear fwd q0
   go_wp2_with fail
   go_region_law (rw [if_pos (by simp [Region.wanted])]; go_simp; go_at_call 46; (with_reducible refine HD.out.mono ?_); rintro en2 w3 hT; rcases hT with ⟨i, v', hi', _, _⟩ | ⟨_, rfl, f1⟩; exact absurd (List.mem_of_getElem? hi') hx; have b3 := (Q0.out.fresh f1).blk; have cq3 := b3.cell; have cq4 := b3.frozen; have cq5 := b3.lt; have F1 := Lib.hid f1; clear f1 b3)
   all_goals
    obtain ⟨r, t, b⟩ := FIN.out _ _ HFD.out Q0.out BD.out F1.out
    obtain ⟨X, hX⟩ : ∃ X, w3.setCell ⟨g, 0, none⟩ (.slice A1 L.length c1) = X := ⟨_, rfl⟩
    rw [hX] at r t b ⊢
    clear hX FIN cq3 cq4 cq5 cB cBd cQ cQd
    have cX := r.blk.cell
    have zX := r.blk.frozen
    have lX := r.blk.lt
    have cM := b.cell
    have lM := b.lt
    have fD : Fresh X X.drew := (Keep.refl _ _).drew
    have cXd := (r.fresh fD).blk.cell
    have zXd := (r.fresh fD).blk.frozen
    have cMd := (fD.blk_ b).cell
    have HC : Hid (Src (X.drew.alloc (.cells #[.int .i64 x.a, .int .i64 x.s, .int .i64 x.t, .int .i64 x.n, .int .i64 x.d, .int .i64 x.k, .int .i64 x.x] 41)) 7 (.slice (some ⟨X.heap.size, 0, none⟩) 1 1) 1 (cells [x])) := Lib.hid (Src.one_new X.drew 41 7 #[.int .i64 x.a, .int .i64 x.s, .int .i64 x.t, .int .i64 x.n, .int .i64 x.d, .int .i64 x.k, .int .i64 x.x] rfl)
    have fA : Fresh X (X.drew.alloc (.cells #[.int .i64 x.a, .int .i64 x.s, .int .i64 x.t, .int .i64 x.n, .int .i64 x.d, .int .i64 x.k, .int .i64 x.x] 41)) := fD.alloc _
    have RA := Lib.hid (r.fresh fA)
    have FA := Lib.hid fA
    have TT := Lib.hid t
    have h4o : Hid (OwnS (X.drew.alloc (.cells #[.int .i64 x.a, .int .i64 x.s, .int .i64 x.t, .int .i64 x.n, .int .i64 x.d, .int .i64 x.k, .int .i64 x.x] 41)) 41 7 (.slice A2 B.length c2) B.length (cells B)) := Lib.hid (r.fresh fA).own2
    have hL1 : B.length + 1 ≤ maxLen := one_le_maxLen (by omega)
    have hL2 : (B.length + 1) * 56 ≤ 140737488355328 := by omega
    have FIN2 : Hid (∀ v4 w4, OwnS w4 41 7 v4 (B.length + 1) (cells B ++ cells [x]) → Keep (fun k => (Value.slice A2 B.length c2).ownBlock = some k) (X.drew.alloc (.cells #[.int .i64 x.a, .int .i64 x.s, .int .i64 x.t, .int .i64 x.n, .int .i64 x.d, .int .i64 x.k, .int .i64 x.x] 41)) w4 → (∀ k, v4.ownBlock = some k → (Value.slice A2 B.length c2).ownBlock = some k ∨ (X.drew.alloc (.cells #[.int .i64 x.a, .int .i64 x.s, .int .i64 x.t, .int .i64 x.n, .int .i64 x.d, .int .i64 x.k, .int .i64 x.x] 41)).heap.size ≤ k) → RPutP g (.slice A1 L.length c1) (.slice A2 B.length c2) l m x true w (.returned (.tuple #[.bool false, .int .i64 0])) (w4.setCell ⟨g, 1, none⟩ v4)) := Lib.hid fun v4 w4 o4 k4 n4 => by
     obtain ⟨r4, t4⟩ := RA.out.put1 (L' := B ++ [x]) (by rw [List.length_append, cells_append]; exact o4) k4 (fun _ h => h) n4
     refine ⟨by unfold putMet; simp [HH.out], _, _, _, _, r4, (by simp only [putL, HH.out, if_true, if_false, Bool.false_eq_true]; exact PL.out), (by simp only [putB, HH.out, if_true, if_false, Bool.false_eq_true]; exact (List.perm_append_singleton x B).trans ((PM.out.cons x).trans (ins_perm m x).symm)), Turn.two TT.out (Turn.after FA.out t4)⟩
    have KB : Hid (∀ w4, Keep (fun k => (Value.slice A2 B.length c2).ownBlock = some k) (X.drew.alloc (.cells #[.int .i64 x.a, .int .i64 x.s, .int .i64 x.t, .int .i64 x.n, .int .i64 x.d, .int .i64 x.k, .int .i64 x.x] 41)) w4 → Blk w4 g 105 #[(.slice A1 L.length c1), (.slice A2 B.length c2)]) := Lib.hid fun w4 k4 => RA.out.blk.keep k4 RA.out.n2
    clear r t b fD fA
    go_wp2_with fail
    go_region_law ((refine step_append_OwnS _ (by rfl) _ _ 24 (by rfl) 41 i0 (.agg #[.int .i64 0, .int .i64 0, .int .i64 0, .int .i64 0, .int .i64 0, .int .i64 0, .int .i64 0]) 7 56 Tryz.underlying24 hi hz0 hz1 hz2 (by rfl) h07.out (.slice A2 B.length c2) B.length (cells B) (by rfl) h4o.out (.slice (some ⟨X.heap.size, 0, none⟩) 1 1) 1 (cells [x]) (by rfl) HC.out (cells_one _) hL1 hL2 ?_; intro v4 w4 o4 k4 n4; obtain ⟨A4, cap4, rfl, _, _⟩ := o4.shape; have b4 := KB.out _ k4; have cb4 := b4.cell; have zb4 := b4.frozen; have lb4 := b4.lt; have O4 := Lib.hid o4; have K4 := Lib.hid k4; have N4 := Lib.hid n4; clear o4 k4 n4 b4))
    all_goals go_wp2_with fail
    all_goals go_ret2
    all_goals exact FIN2.out _ _ O4.out K4.out N4.out
end Go.Proofs.YthbcdkeammhakaaGreat
