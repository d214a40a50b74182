/- Chapter 13: ODSort, ORefQ, ORefT, ORefA. -/
import Derived.Test.YthbcdkeammhakaaGreatP25
import Derived.Test.YthbcdkeammhakaaGreatP24
import Derived.Laws.MakeOwn
set_option maxRecDepth 100000
set_option maxHeartbeats 16000000
namespace Go.Proofs.YthbcdkeammhakaaGreat
open Go.RowKit
attribute [local go_sem ↓] Go.wp_at_zero Go.wp_at_succ
theorem SrtS.putAt_ {l : List Ev} (h : SrtS l) {x : Ev} {k : Nat} (h1 : ∀ j y, j < k → l[j]? = some y → sLt x y = false) (h2 : k < l.length → ∀ y, l[k]? = some y → sLt x y = true) : SrtS (putAt l x k) := by
 unfold putAt
 rw [List.append_assoc, List.singleton_append]
 have hs : SrtS (l.take k ++ l.drop k) := by rwa [List.take_append_drop]
 obtain ⟨s1, s2, s3⟩ := List.pairwise_append.1 hs
 refine List.pairwise_append.2 ⟨s1, List.pairwise_cons.2 ⟨fun q hq => ?_, s2⟩, fun p hp q hq => ?_⟩
 ·obtain ⟨t, ht⟩ := List.mem_iff_getElem?.1 hq
  rw [List.getElem?_drop] at ht
  have htl := (List.getElem?_eq_some_iff.1 ht).1
  obtain ⟨y, hy⟩ : ∃ y, l[k]? = some y := ⟨_, List.getElem?_eq_getElem (by omega)⟩
  have h3 := h2 (by omega) y hy
  have h4 : sLt q y = false := by
   by_cases h0 : t = 0
   ·subst h0
    rw [Nat.add_zero, hy] at ht
    injection ht with ht
    rw [← ht]
    exact sLt_irrefl _
   ·obtain ⟨e1, e2⟩ := List.getElem?_eq_some_iff.1 hy
    obtain ⟨e3, e4⟩ := List.getElem?_eq_some_iff.1 ht
    have := List.pairwise_iff_getElem.1 h k (k + t) e1 e3 (by omega)
    rwa [e2, e4] at this
  cases h5 : sLt q x
  ·rfl
  ·rw [sLt_trans h5 h3] at h4
   cases h4
 ·rcases List.mem_cons.1 hq with rfl | hq
  ·obtain ⟨t, ht⟩ := List.mem_iff_getElem?.1 hp
   rw [List.getElem?_take] at ht
   split at ht
   ·exact h1 t p ‹_› ht
   ·cases ht
  ·exact s3 p hp q hq
structure SrtSI (w : World) (l : List Ev) (i : Nat) (out : List Ev) (v : Value) (wr : World) : Prop where
 f : Fresh w wr
 s : SrtS out
 p : out.Perm (l.take i)
 o : OwnS wr 41 7 v out.length (cells out)
 z : out = [] → v = .slice none 0 0
 n : ∀ k, v.ownBlock = some k → w.heap.size ≤ k
def SrtSP (l : List Ev) (w : World) (e : Ending) (w' : World) : Prop :=
 ∃ v out, e = .returned v ∧ SrtS out ∧ out.Perm l ∧ OwnS w' 41 7 v out.length (cells out) ∧ Fresh w w' ∧ ∀ k, v.ownBlock = some k → w.heap.size ≤ k
theorem sLtsort_any (v : Value) (l : List Ev) (w : World) (hv : EvAt w v l) (hl : l.length ≤ 100000) :
  Calls Tryz.prog 25 #[v] w (SrtSP l w) := by
 obtain ⟨A, c, rfl, hv⟩ := hv
 have HV := Lib.hid hv
 clear hv
 obtain ⟨i0, hi, hz0, hz1, hz2⟩ := info_parts info_ev
 have h07 : Hid (0 < 7) := Lib.hid (by omega)
 go_enter Tryz.func25, Tryz.ntmps25
 go_wp2_with fail
 go_loopg [3, 4] l.length (fun gk u3 u4 wr => ∃ (i : Nat) (out : List Ev) (v : Value), i ≤ l.length ∧ gk = l.length - i ∧ u3 = v ∧ u4 = .int .i64 i ∧ SrtSI w l i out v wr)
 case atStart => exact ⟨0, [], _, by omega, rfl, rfl, rfl, ⟨Keep.refl _ _, List.Pairwise.nil, by simp, OwnS.nil _ _ _, fun _ => rfl, by simp [Value.ownBlock]⟩⟩
 case round =>
  obtain ⟨i, out, v, hi', rfl, rfl, rfl, hI⟩ := hrel
  have HI := Lib.hid hI
  have hol : out.length ≤ l.length := by have := hI.p.length_eq; rw [List.length_take] at this; omega
  have holi : out.length = i := by have := hI.p.length_eq; rw [List.length_take] at this; omega
  obtain ⟨A3, c3, rfl, hc3, hm3⟩ := hI.o.shape
  have hm3 : c3 ≤ 9223372036854775807 := by unfold maxLen at hm3; omega
  clear hI
  by_cases hlt : i < l.length
  ·obtain ⟨x, hx⟩ : ∃ x, l[i]? = some x := ⟨_, List.getElem?_eq_getElem hlt⟩
   have HX := Lib.hid hx
   obtain ⟨b0, off, rfl, lt0, hO⟩ := HV.out i x hx
   obtain ⟨wA, hwA⟩ : ∃ wA, wA = wr := ⟨_, rfl⟩
   subst hwA
   have CX : Hid (∀ W, Fresh w W → ∀ j u, x.enc[j]? = some u → W.cell? ⟨b0, off + i * 7 + j, none⟩ = some u) := Lib.hid fun W f j u hu => f.cell_ (hO j u hu)
   have LB := Lib.hid lt0
   have HLI := Lib.hid holi
   clear hO hx lt0 holi
   go_wp2_with fail
   go_loopg [5] out.length (fun gk u5 wr => ∃ k : Nat, k ≤ out.length ∧ gk = out.length - k ∧ u5 = .int .i64 k ∧ (∀ j y, j < k → out[j]? = some y → sLt x y = false) ∧ Fresh wA wr)
   case atStart => exact ⟨0, by omega, rfl, rfl, fun j y h => absurd h (by omega), Keep.refl _ _⟩
   case round =>
    obtain ⟨k, hk, rfl, rfl, hb, hF⟩ := hrel
    have HB := Lib.hid hb
    have HF := Lib.hid hF
    have FW := Lib.hid (HI.out.f.step hF (fun _ _ h => h))
    clear hb hF
    have lb0 : b0 < wr.heap.size := Nat.lt_of_lt_of_le LB.out FW.out.size
    have x0 := CX.out _ FW.out 0 (.int .i64 x.a) rfl
    have x1 := CX.out _ FW.out 1 (.int .i64 x.s) rfl
    have x2 := CX.out _ FW.out 2 (.int .i64 x.t) rfl
    have x3 := CX.out _ FW.out 3 (.int .i64 x.n) rfl
    have x4 := CX.out _ FW.out 4 (.int .i64 x.d) rfl
    have x5 := CX.out _ FW.out 5 (.int .i64 x.k) rfl
    have x6 := CX.out _ FW.out 6 (.int .i64 x.x) rfl
    rw [Nat.add_zero] at x0
    have FIN : Hid ((k < out.length → ∀ y, out[k]? = some y → sLt x y = true) → ∀ v6 w6, OwnS w6 41 7 v6 (k + 1 + (out.length - k)) (cells (putAt out x k)) → Fresh wr w6 → (∀ q, v6.ownBlock = some q → wr.heap.size ≤ q) → SrtSI w l (i + 1) (putAt out x k) v6 w6) := Lib.hid (fun hin v6 w6 o6 f6 n6 => ⟨FW.out.step f6 (fun _ _ h => h), HI.out.s.putAt_ HB.out hin, by
      rw [List.take_add_one, HX.out]
      exact (putAt_perm out x k).trans (List.Perm.append_right _ HI.out.p), by rw [putAt_length _ _ _ hk]; rw [show k + 1 + (out.length - k) = out.length + 1 by omega] at o6; exact o6, fun he => by have := putAt_length out x k hk; rw [he] at this; simp at this, fun q hq => by have := n6 q hq; have := FW.out.size; omega⟩)
    have g1 : 0 + k ≤ maxLen := one_le_maxLen (by omega)
    have g2 : (0 + k) * 56 ≤ 140737488355328 := by omega
    have g3' : k + 1 ≤ maxLen := one_le_maxLen (by omega)
    have g4' : (k + 1) * 56 ≤ 140737488355328 := by omega
    have g5 : k + 1 + (out.length - k) ≤ maxLen := one_le_maxLen (by omega)
    have g6 : (k + 1 + (out.length - k)) * 56 ≤ 140737488355328 := by omega
    have S2 : Hid (∀ W : World, Src (W.alloc (.cells #[.int .i64 x.a, .int .i64 x.s, .int .i64 x.t, .int .i64 x.n, .int .i64 x.d, .int .i64 x.k, .int .i64 x.x] 41)) 7 (.slice (some ⟨W.heap.size, 0, none⟩) 1 1) 1 (cells [x])) := Lib.hid fun W => Src.one_new W 41 7 #[.int .i64 x.a, .int .i64 x.s, .int .i64 x.t, .int .i64 x.n, .int .i64 x.d, .int .i64 x.k, .int .i64 x.x] rfl
    by_cases hko : k < out.length
    ·obtain ⟨y, hy⟩ : ∃ y, out[k]? = some y := ⟨_, List.getElem?_eq_getElem hko⟩
     obtain ⟨g3, off3, _, hv3, hg3, _, _, hc⟩ := (HI.out.o.fresh HF.out).form (by omega)
     injection hv3 with e1 e2 e3
     subst e1 e3
     obtain ⟨y0, y1, y2, y3, y4, y5, y6⟩ := cells_at out k y hy
     have y0 := hc _ _ y0
     have y1 := hc _ _ y1
     have y2 := hc _ _ y2
     have y3 := hc _ _ y3
     have y4 := hc _ _ y4
     have y5 := hc _ _ y5
     have y6 := hc _ _ y6
     rw [← Nat.add_assoc] at y1 y2 y3 y4 y5 y6
     have HY := Lib.hid hy
     have HC := Lib.hid (fun W => sahead_any x y W)
     unfold Ev.val at HC
     clear hc hy
     have hck : c3 ≠ k := by omega
     cases hq : sLt x y
     ·rw [hq] at HC
      have HQ := Lib.hid hq
      clear hq
      have d0 := fun (W : World) (f : Fresh wr W) => f.cell_ x0
      have d1 := fun (W : World) (f : Fresh wr W) => f.cell_ x1
      have d2 := fun (W : World) (f : Fresh wr W) => f.cell_ x2
      have d3 := fun (W : World) (f : Fresh wr W) => f.cell_ x3
      have d4 := fun (W : World) (f : Fresh wr W) => f.cell_ x4
      have d5 := fun (W : World) (f : Fresh wr W) => f.cell_ x5
      have d6 := fun (W : World) (f : Fresh wr W) => f.cell_ x6
      have e0 := fun (W : World) (f : Fresh wr W) => f.cell_ y0
      have e1 := fun (W : World) (f : Fresh wr W) => f.cell_ y1
      have e2 := fun (W : World) (f : Fresh wr W) => f.cell_ y2
      have e3 := fun (W : World) (f : Fresh wr W) => f.cell_ y3
      have e4 := fun (W : World) (f : Fresh wr W) => f.cell_ y4
      have e5 := fun (W : World) (f : Fresh wr W) => f.cell_ y5
      have e6 := fun (W : World) (f : Fresh wr W) => f.cell_ y6
      go_wp2_with fail
      go_region_held3 (fun W' => Fresh wr W') (exact (fun (f : Fresh wr _) => f) (by (repeat (first | (with_reducible exact Keep.refl _ _) | (with_reducible assumption) | (with_reducible refine Keep.drew ?_) | (with_reducible refine Keep.drewN ?_ _) | (with_reducible refine Keep.alloc ?_ _) | (with_reducible refine Keep.setCell ?_ ?_ _) | (with_reducible refine fun _ => rfl))))) ((go_at_call 51; (with_reducible refine (HC.out _).mono ?_); rintro en1 w1 ⟨rfl, f1⟩; have f2 := Keep.step (S := fun _ => False) (by assumption : Fresh wr _) f1 (fun _ _ h => h)))
      clear d0 d1 d2 d3 d4 d5 d6 e0 e1 e2 e3 e4 e5 e6
      go_wp2_with fail
      go_roundg (out.length - (k + 1))
      case measure => omega
      case rel => exact ⟨k + 1, by omega, rfl, by go_num, fun j z hj hz => by
       by_cases hjk : j = k
       ·subst hjk
        rw [HY.out] at hz
        injection hz with hz
        rw [← hz]
        exact HQ.out
       ·exact HB.out j z (by omega) hz, HF.out.step f2 (fun _ _ h => h)⟩
     ·rw [hq] at HC
      have HIN : k < out.length → ∀ z, out[k]? = some z → sLt x z = true := fun _ z hz => by
       rw [HY.out] at hz
       injection hz with hz
       rw [← hz]
       exact hq
      have HINH := Lib.hid HIN
      clear hq HIN
      have d0 := fun (W : World) (f : Fresh wr W) => f.cell_ x0
      have d1 := fun (W : World) (f : Fresh wr W) => f.cell_ x1
      have d2 := fun (W : World) (f : Fresh wr W) => f.cell_ x2
      have d3 := fun (W : World) (f : Fresh wr W) => f.cell_ x3
      have d4 := fun (W : World) (f : Fresh wr W) => f.cell_ x4
      have d5 := fun (W : World) (f : Fresh wr W) => f.cell_ x5
      have d6 := fun (W : World) (f : Fresh wr W) => f.cell_ x6
      have e0 := fun (W : World) (f : Fresh wr W) => f.cell_ y0
      have e1 := fun (W : World) (f : Fresh wr W) => f.cell_ y1
      have e2 := fun (W : World) (f : Fresh wr W) => f.cell_ y2
      have e3 := fun (W : World) (f : Fresh wr W) => f.cell_ y3
      have e4 := fun (W : World) (f : Fresh wr W) => f.cell_ y4
      have e5 := fun (W : World) (f : Fresh wr W) => f.cell_ y5
      have e6 := fun (W : World) (f : Fresh wr W) => f.cell_ y6
      go_wp2_with fail
      go_region_held3 (fun W' => Fresh wr W') (exact (fun (f : Fresh wr _) => f) (by (repeat (first | (with_reducible exact Keep.refl _ _) | (with_reducible assumption) | (with_reducible refine Keep.drew ?_) | (with_reducible refine Keep.drewN ?_ _) | (with_reducible refine Keep.alloc ?_ _) | (with_reducible refine Keep.setCell ?_ ?_ _) | (with_reducible refine fun _ => rfl))))) ((go_at_call 51; (with_reducible refine (HC.out _).mono ?_); rintro en1 w1 ⟨rfl, f1⟩; have f2 := Keep.step (S := fun _ => False) (by assumption : Fresh wr _) f1 (fun _ _ h => h)))
      clear d0 d1 d2 d3 d4 d5 d6 e0 e1 e2 e3 e4 e5 e6
      have S1 : Hid (∀ W, Fresh wr W → Src W 7 (.slice (some ⟨g3, off3, none⟩) k c3) k (cells (out.take k))) := Lib.hid fun W f => by
       have := (((HI.out.o.fresh HF.out).fresh f).cut (lo := 0) (hi := k) (off' := off3) (by omega) (by omega) (.inl (by omega))).src
       simp only [Nat.zero_mul, List.drop_zero, Nat.sub_zero] at this
       rwa [cells_take] at this
      have S3 : Hid (∀ W cc, Fresh wr W → Src W 7 (.slice (some ⟨g3, off3 + k * 7, none⟩) (out.length - k) cc) (out.length - k) (cells (out.drop k))) := Lib.hid fun W cc f => by
       have := (((HI.out.o.fresh HF.out).fresh f).cut (lo := k) (hi := out.length) (off' := off3 + k * 7) (by omega) (by omega) (.inl rfl)).src
       rw [cells_drop, List.take_of_length_le (by rw [cells_length, List.length_drop]; omega)] at this
       exact src_cap this
      clear x0 x1 x2 x3 x4 x5 x6 y0 y1 y2 y3 y4 y5 y6
      have j1 : (k : Int) ≤ (out.length : Int) := by omega
      have j2 : (out.length : Int) ≤ (c3 : Int) := by omega
      have j3 : (k : Int) ≤ (c3 : Int) := by omega
      go_wp2_with (first
       | (at_builtin; refine wpList_append_OwnS _ rfl (.tmp 31) (.tmp 34) 24 rfl 41 i0 (.agg #[.int .i64 0, .int .i64 0, .int .i64 0, .int .i64 0, .int .i64 0, .int .i64 0, .int .i64 0]) 7 56 Tryz.underlying24 hi hz0 hz1 hz2 rfl h07.out (.slice none 0 0) 0 [] rfl (OwnS.nil _ _ _) (.slice (some ⟨g3, off3, none⟩) k _) k (cells (out.take k)) rfl (S1.out _ f2) (cells_one _) g1 g2 ?_; intro v4 w4 o4 k4 n4; rw [Nat.zero_add, List.nil_append] at o4; obtain ⟨A4, cap4, rfl, hc4, hm4⟩ := o4.shape; have f4 := Keep.step (S := fun _ => False) (f2 : Fresh wr _) (fresh_nil k4) (fun _ _ h => h); have N4 : Hid (∀ q, (Value.slice A4 k cap4).ownBlock = some q → wr.heap.size ≤ q) := Lib.hid (fun q hq => by have h1 := n4 q hq; have h2 := (f2 : Fresh wr _).size; exact h1.elim (fun h => by simp [Value.ownBlock] at h) (fun h => by omega)); have O4 := Lib.hid o4; have F4 := Lib.hid f4; have x0 := CX.out _ (FW.out.step f4 (fun _ _ h => h)) 0 (.int .i64 x.a) rfl; have x1 := CX.out _ (FW.out.step f4 (fun _ _ h => h)) 1 (.int .i64 x.s) rfl; have x2 := CX.out _ (FW.out.step f4 (fun _ _ h => h)) 2 (.int .i64 x.t) rfl; have x3 := CX.out _ (FW.out.step f4 (fun _ _ h => h)) 3 (.int .i64 x.n) rfl; have x4 := CX.out _ (FW.out.step f4 (fun _ _ h => h)) 4 (.int .i64 x.d) rfl; have x5 := CX.out _ (FW.out.step f4 (fun _ _ h => h)) 5 (.int .i64 x.k) rfl; have x6 := CX.out _ (FW.out.step f4 (fun _ _ h => h)) 6 (.int .i64 x.x) rfl; rw [Nat.add_zero] at x0; have lb4 : b0 < w4.heap.size := Nat.lt_of_lt_of_le LB.out (FW.out.step f4 (fun _ _ h => h)).size; clear o4 k4 n4 f4)
       | (at_builtin; refine wpList_append_OwnS _ rfl (.tmp 36) (.tmp 41) 24 rfl 41 i0 (.agg #[.int .i64 0, .int .i64 0, .int .i64 0, .int .i64 0, .int .i64 0, .int .i64 0, .int .i64 0]) 7 56 Tryz.underlying24 hi hz0 hz1 hz2 rfl h07.out (.slice A4 k cap4) k (cells (out.take k)) rfl (O4.out.alloc _) (.slice (some ⟨w4.heap.size, 0, none⟩) 1 1) 1 (cells [x]) rfl (S2.out _) (cells_one _) g3' g4' ?_; intro v5 w5 o5 k5 n5; rw [← cells_append] at o5; obtain ⟨A5, cap5, rfl, hc5, hm5⟩ := o5.shape; have f5 := (F4.out.alloc (.cells #[.int .i64 x.a, .int .i64 x.s, .int .i64 x.t, .int .i64 x.n, .int .i64 x.d, .int .i64 x.k, .int .i64 x.x] 41)).step k5 (fun q hq e => by have := N4.out q e; omega); have N5 : Hid (∀ q, (Value.slice A5 (k + 1) cap5).ownBlock = some q → wr.heap.size ≤ q) := Lib.hid (fun q hq => by have h1 := n5 q hq; have h2 := F4.out.size; exact h1.elim (fun h => N4.out q h) (fun h => by simp at h; omega)); have O5 := Lib.hid o5; have F5 := Lib.hid f5; clear o5 k5 n5 f5)
       | (at_builtin; refine wpList_append_OwnS _ rfl (.tmp 43) (.tmp 46) 24 rfl 41 i0 (.agg #[.int .i64 0, .int .i64 0, .int .i64 0, .int .i64 0, .int .i64 0, .int .i64 0, .int .i64 0]) 7 56 Tryz.underlying24 hi hz0 hz1 hz2 rfl h07.out (.slice A5 (k + 1) cap5) (k + 1) (cells (out.take k ++ [x])) rfl O5.out (.slice (some ⟨g3, off3 + k * 7, none⟩) (out.length - k) _) (out.length - k) (cells (out.drop k)) rfl (S3.out _ _ F5.out) (cells_one _) g5 g6 ?_; intro v6 w6 o6 k6 n6; rw [← cells_append] at o6; obtain ⟨A6, cap6, rfl, hc6, hm6⟩ := o6.shape; have f6 := F5.out.step k6 (fun q hq e => by have := N5.out q e; omega); have N6 : Hid (∀ q, (Value.slice A6 (k + 1 + (out.length - k)) cap6).ownBlock = some q → wr.heap.size ≤ q) := Lib.hid (fun q hq => by have h1 := n6 q hq; have h2 := F5.out.size; exact h1.elim (fun h => N5.out q h) (fun h => by omega)); have O6 := Lib.hid o6; have F6 := Lib.hid f6; clear o6 k6 n6 f6))
      have NX := Lib.hid (FIN.out HINH.out _ _ O6.out F6.out N6.out)
      go_roundg (l.length - (i + 1))
      case measure => omega
      case rel => exact ⟨i + 1, _, _, by omega, rfl, rfl, by go_num, NX.out⟩
    ·have hke : k = out.length := by omega
     have KE := Lib.hid hke
     have tk : decide (k < out.length) = false := decide_eq_false hko
     have tk2 : decide ((k : Int) < (out.length : Int)) = false := decide_eq_false (by omega)
     have HINH : Hid (k < out.length → ∀ z, out[k]? = some z → sLt x z = true) := Lib.hid (fun h => absurd h hko)
     have j1 : (k : Int) ≤ (out.length : Int) := by omega
     have j2 : (out.length : Int) ≤ (c3 : Int) := by omega
     have j3 : (k : Int) ≤ (c3 : Int) := by omega
     clear hke
     by_cases h0 : out = []
     ·have hz := HI.out.z h0
      injection hz with e1 e2 e3
      subst e1 e3 h0
      obtain rfl : k = 0 := Nat.le_zero.1 hk
      clear e2
      go_wp2_with fail
      go_quiet (fail)
      obtain ⟨wq, hwq⟩ : ∃ wq, wr.drewN nq = wq := ⟨_, rfl⟩
      have f2 : Fresh wr wq := hwq ▸ (Keep.refl _ wr).drewN nq
      rw [hwq]
      clear hwq
      have x0 := CX.out _ (FW.out.step f2 (fun _ _ h => h)) 0 (.int .i64 x.a) rfl
      have x1 := CX.out _ (FW.out.step f2 (fun _ _ h => h)) 1 (.int .i64 x.s) rfl
      have x2 := CX.out _ (FW.out.step f2 (fun _ _ h => h)) 2 (.int .i64 x.t) rfl
      have x3 := CX.out _ (FW.out.step f2 (fun _ _ h => h)) 3 (.int .i64 x.n) rfl
      have x4 := CX.out _ (FW.out.step f2 (fun _ _ h => h)) 4 (.int .i64 x.d) rfl
      have x5 := CX.out _ (FW.out.step f2 (fun _ _ h => h)) 5 (.int .i64 x.k) rfl
      have x6 := CX.out _ (FW.out.step f2 (fun _ _ h => h)) 6 (.int .i64 x.x) rfl
      rw [Nat.add_zero] at x0
      have lb5 : b0 < wq.heap.size := Nat.lt_of_lt_of_le LB.out (FW.out.step f2 (fun _ _ h => h)).size
      go_wp2_with (first
       | (at_builtin; refine wpList_append_OwnS _ rfl (.tmp 36) (.tmp 41) 24 rfl 41 i0 (.agg #[.int .i64 0, .int .i64 0, .int .i64 0, .int .i64 0, .int .i64 0, .int .i64 0, .int .i64 0]) 7 56 Tryz.underlying24 hi hz0 hz1 hz2 rfl h07.out (.slice none 0 0) 0 (cells []) rfl (OwnS.nil _ _ _) (.slice (some ⟨wq.heap.size, 0, none⟩) 1 1) 1 (cells [x]) rfl (S2.out _) (cells_one _) g3' g4' ?_; intro v5 w5 o5 k5 n5; obtain ⟨A5, cap5, rfl, hc5, hm5⟩ := o5.shape; have f5 := (f2.alloc (.cells #[.int .i64 x.a, .int .i64 x.s, .int .i64 x.t, .int .i64 x.n, .int .i64 x.d, .int .i64 x.k, .int .i64 x.x] 41)).step k5 (fun q hq e => by simp [Value.ownBlock] at e); have N5 : Hid (∀ q, (Value.slice A5 (0 + 1) cap5).ownBlock = some q → wr.heap.size ≤ q) := Lib.hid (fun q hq => by have h1 := n5 q hq; have h2 := f2.size; exact h1.elim (fun h => by simp [Value.ownBlock] at h) (fun h => by simp at h; omega)); have O5 := Lib.hid o5; have F5 := Lib.hid f5; clear o5 k5 n5 f5)
       | (at_builtin; refine wpList_append_OwnS _ rfl (.tmp 43) (.tmp 46) 24 rfl 41 i0 (.agg #[.int .i64 0, .int .i64 0, .int .i64 0, .int .i64 0, .int .i64 0, .int .i64 0, .int .i64 0]) 7 56 Tryz.underlying24 hi hz0 hz1 hz2 rfl h07.out (.slice A5 (0 + 1) cap5) (0 + 1) (cells [] ++ cells [x]) rfl O5.out (.slice none 0 0) 0 [] rfl (OwnS.nil _ 41 7).src (fun _ h => by cases h) g3' g4' ?_; intro v6 w6 o6 k6 n6; rw [List.append_nil, ← cells_append] at o6; obtain ⟨A6, cap6, rfl, hc6, hm6⟩ := o6.shape; have f6 := F5.out.step k6 (fun q hq e => by have := N5.out q e; omega); have N6 : Hid (∀ q, (Value.slice A6 (0 + 1 + 0) cap6).ownBlock = some q → wr.heap.size ≤ q) := Lib.hid (fun q hq => by have h1 := n6 q hq; have h2 := F5.out.size; exact h1.elim (fun h => N5.out q h) (fun h => by omega)); have O6 := Lib.hid o6; have F6 := Lib.hid f6; clear o6 k6 n6 f6))
      have NX := Lib.hid (FIN.out HINH.out _ _ O6.out F6.out N6.out)
      go_roundg (l.length - (i + 1))
      case measure => omega
      case rel => exact ⟨i + 1, _, _, by omega, rfl, rfl, by go_num, NX.out⟩
     ·have hpos : 0 < out.length := List.length_pos_iff.2 h0
      obtain ⟨g3, off3, _, hv3, hg3, _, _, hc⟩ := (HI.out.o.fresh HF.out).form hpos
      injection hv3 with e1 e2 e3
      subst e1 e3
      have S1 : Hid (∀ W, Fresh wr W → Src W 7 (.slice (some ⟨g3, off3, none⟩) k c3) k (cells (out.take k))) := Lib.hid fun W f => by
       have := (((HI.out.o.fresh HF.out).fresh f).cut (lo := 0) (hi := k) (off' := off3) (by omega) (by omega) (.inl (by omega))).src
       simp only [Nat.zero_mul, List.drop_zero, Nat.sub_zero] at this
       rwa [cells_take] at this
      have S3 : Hid (∀ W cc q, Fresh wr W → Src W 7 (.slice (some ⟨g3, q, none⟩) (out.length - k) cc) (out.length - k) (cells (out.drop k))) := Lib.hid fun W cc q f => by
       rw [KE.out, Nat.sub_self, List.drop_length]
       exact ⟨rfl, .inr ⟨_, _, rfl, fun q u h => by simp [cells] at h⟩⟩
      clear h0 e2 hc x0 x1 x2 x3 x4 x5 x6
      by_cases hck : c3 = k
      ·obtain rfl : k = c3 := hck.symm
       go_wp2_with fail
       go_quiet (fail)
       obtain ⟨wq, hwq⟩ : ∃ wq, wr.drewN nq = wq := ⟨_, rfl⟩
       have f2 : Fresh wr wq := hwq ▸ (Keep.refl _ wr).drewN nq
       rw [hwq]
       clear hwq
       have x0 := CX.out _ (FW.out.step f2 (fun _ _ h => h)) 0 (.int .i64 x.a) rfl
       have x1 := CX.out _ (FW.out.step f2 (fun _ _ h => h)) 1 (.int .i64 x.s) rfl
       have x2 := CX.out _ (FW.out.step f2 (fun _ _ h => h)) 2 (.int .i64 x.t) rfl
       have x3 := CX.out _ (FW.out.step f2 (fun _ _ h => h)) 3 (.int .i64 x.n) rfl
       have x4 := CX.out _ (FW.out.step f2 (fun _ _ h => h)) 4 (.int .i64 x.d) rfl
       have x5 := CX.out _ (FW.out.step f2 (fun _ _ h => h)) 5 (.int .i64 x.k) rfl
       have x6 := CX.out _ (FW.out.step f2 (fun _ _ h => h)) 6 (.int .i64 x.x) rfl
       rw [Nat.add_zero] at x0
       have lb5 : b0 < wq.heap.size := Nat.lt_of_lt_of_le LB.out (FW.out.step f2 (fun _ _ h => h)).size
       go_wp2_with (first
        | (at_builtin; refine wpList_append_OwnS _ rfl (.tmp 31) (.tmp 34) 24 rfl 41 i0 (.agg #[.int .i64 0, .int .i64 0, .int .i64 0, .int .i64 0, .int .i64 0, .int .i64 0, .int .i64 0]) 7 56 Tryz.underlying24 hi hz0 hz1 hz2 rfl h07.out (.slice none 0 0) 0 [] rfl (OwnS.nil _ _ _) (.slice (some ⟨g3, off3, none⟩) k _) k (cells (out.take k)) rfl (S1.out _ f2) (cells_one _) g1 g2 ?_; intro v4 w4 o4 k4 n4; rw [Nat.zero_add, List.nil_append] at o4; obtain ⟨A4, cap4, rfl, hc4, hm4⟩ := o4.shape; have f4 := Keep.step (S := fun _ => False) (f2 : Fresh wr _) (fresh_nil k4) (fun _ _ h => h); have N4 : Hid (∀ q, (Value.slice A4 k cap4).ownBlock = some q → wr.heap.size ≤ q) := Lib.hid (fun q hq => by have h1 := n4 q hq; have h2 := (f2 : Fresh wr _).size; exact h1.elim (fun h => by simp [Value.ownBlock] at h) (fun h => by omega)); have O4 := Lib.hid o4; have F4 := Lib.hid f4; have x0 := CX.out _ (FW.out.step f4 (fun _ _ h => h)) 0 (.int .i64 x.a) rfl; have x1 := CX.out _ (FW.out.step f4 (fun _ _ h => h)) 1 (.int .i64 x.s) rfl; have x2 := CX.out _ (FW.out.step f4 (fun _ _ h => h)) 2 (.int .i64 x.t) rfl; have x3 := CX.out _ (FW.out.step f4 (fun _ _ h => h)) 3 (.int .i64 x.n) rfl; have x4 := CX.out _ (FW.out.step f4 (fun _ _ h => h)) 4 (.int .i64 x.d) rfl; have x5 := CX.out _ (FW.out.step f4 (fun _ _ h => h)) 5 (.int .i64 x.k) rfl; have x6 := CX.out _ (FW.out.step f4 (fun _ _ h => h)) 6 (.int .i64 x.x) rfl; rw [Nat.add_zero] at x0; have lb4 : b0 < w4.heap.size := Nat.lt_of_lt_of_le LB.out (FW.out.step f4 (fun _ _ h => h)).size; clear o4 k4 n4 f4)
        | (at_builtin; refine wpList_append_OwnS _ rfl (.tmp 36) (.tmp 41) 24 rfl 41 i0 (.agg #[.int .i64 0, .int .i64 0, .int .i64 0, .int .i64 0, .int .i64 0, .int .i64 0, .int .i64 0]) 7 56 Tryz.underlying24 hi hz0 hz1 hz2 rfl h07.out (.slice A4 k cap4) k (cells (out.take k)) rfl (O4.out.alloc _) (.slice (some ⟨w4.heap.size, 0, none⟩) 1 1) 1 (cells [x]) rfl (S2.out _) (cells_one _) g3' g4' ?_; intro v5 w5 o5 k5 n5; rw [← cells_append] at o5; obtain ⟨A5, cap5, rfl, hc5, hm5⟩ := o5.shape; have f5 := (F4.out.alloc (.cells #[.int .i64 x.a, .int .i64 x.s, .int .i64 x.t, .int .i64 x.n, .int .i64 x.d, .int .i64 x.k, .int .i64 x.x] 41)).step k5 (fun q hq e => by have := N4.out q e; omega); have N5 : Hid (∀ q, (Value.slice A5 (k + 1) cap5).ownBlock = some q → wr.heap.size ≤ q) := Lib.hid (fun q hq => by have h1 := n5 q hq; have h2 := F4.out.size; exact h1.elim (fun h => N4.out q h) (fun h => by simp at h; omega)); have O5 := Lib.hid o5; have F5 := Lib.hid f5; clear o5 k5 n5 f5)
        | (at_builtin; refine wpList_append_OwnS _ rfl (.tmp 43) (.tmp 46) 24 rfl 41 i0 (.agg #[.int .i64 0, .int .i64 0, .int .i64 0, .int .i64 0, .int .i64 0, .int .i64 0, .int .i64 0]) 7 56 Tryz.underlying24 hi hz0 hz1 hz2 rfl h07.out (.slice A5 (k + 1) cap5) (k + 1) (cells (out.take k ++ [x])) rfl O5.out (.slice (some ⟨g3, off3, none⟩) 0 _) 0 [] rfl ⟨rfl, .inr ⟨_, _, rfl, fun q u h => by simp at h⟩⟩ (fun _ h => by cases h) g3' g4' ?_; intro v6 w6 o6 k6 n6; rw [List.append_nil] at o6; obtain ⟨A6, cap6, rfl, hc6, hm6⟩ := o6.shape; have f6 := F5.out.step k6 (fun q hq e => by have := N5.out q e; omega); have N6 : Hid (∀ q, (Value.slice A6 (k + 1 + 0) cap6).ownBlock = some q → wr.heap.size ≤ q) := Lib.hid (fun q hq => by have h1 := n6 q hq; have h2 := F5.out.size; exact h1.elim (fun h => N5.out q h) (fun h => by omega)); have O6 := Lib.hid o6; have F6 := Lib.hid f6; clear o6 k6 n6 f6))
       have NX := Lib.hid (FIN.out HINH.out _ _ (by rw [show putAt out x k = out.take k ++ [x] from by unfold putAt; rw [show out.drop k = [] from List.drop_eq_nil_of_le (by have := KE.out; omega), List.append_nil], show k + 1 + (out.length - k) = k + 1 + 0 by have := KE.out; omega]; exact O6.out) F6.out N6.out)
       go_roundg (l.length - (i + 1))
       case measure => omega
       case rel => exact ⟨i + 1, _, _, by omega, rfl, rfl, by go_num, NX.out⟩
      ·skip
       go_wp2_with fail
       go_quiet (fail)
       obtain ⟨wq, hwq⟩ : ∃ wq, wr.drewN nq = wq := ⟨_, rfl⟩
       have f2 : Fresh wr wq := hwq ▸ (Keep.refl _ wr).drewN nq
       rw [hwq]
       clear hwq
       have x0 := CX.out _ (FW.out.step f2 (fun _ _ h => h)) 0 (.int .i64 x.a) rfl
       have x1 := CX.out _ (FW.out.step f2 (fun _ _ h => h)) 1 (.int .i64 x.s) rfl
       have x2 := CX.out _ (FW.out.step f2 (fun _ _ h => h)) 2 (.int .i64 x.t) rfl
       have x3 := CX.out _ (FW.out.step f2 (fun _ _ h => h)) 3 (.int .i64 x.n) rfl
       have x4 := CX.out _ (FW.out.step f2 (fun _ _ h => h)) 4 (.int .i64 x.d) rfl
       have x5 := CX.out _ (FW.out.step f2 (fun _ _ h => h)) 5 (.int .i64 x.k) rfl
       have x6 := CX.out _ (FW.out.step f2 (fun _ _ h => h)) 6 (.int .i64 x.x) rfl
       rw [Nat.add_zero] at x0
       have lb5 : b0 < wq.heap.size := Nat.lt_of_lt_of_le LB.out (FW.out.step f2 (fun _ _ h => h)).size
       go_wp2_with (first
        | (at_builtin; refine wpList_append_OwnS _ rfl (.tmp 31) (.tmp 34) 24 rfl 41 i0 (.agg #[.int .i64 0, .int .i64 0, .int .i64 0, .int .i64 0, .int .i64 0, .int .i64 0, .int .i64 0]) 7 56 Tryz.underlying24 hi hz0 hz1 hz2 rfl h07.out (.slice none 0 0) 0 [] rfl (OwnS.nil _ _ _) (.slice (some ⟨g3, off3, none⟩) k _) k (cells (out.take k)) rfl (S1.out _ f2) (cells_one _) g1 g2 ?_; intro v4 w4 o4 k4 n4; rw [Nat.zero_add, List.nil_append] at o4; obtain ⟨A4, cap4, rfl, hc4, hm4⟩ := o4.shape; have f4 := Keep.step (S := fun _ => False) (f2 : Fresh wr _) (fresh_nil k4) (fun _ _ h => h); have N4 : Hid (∀ q, (Value.slice A4 k cap4).ownBlock = some q → wr.heap.size ≤ q) := Lib.hid (fun q hq => by have h1 := n4 q hq; have h2 := (f2 : Fresh wr _).size; exact h1.elim (fun h => by simp [Value.ownBlock] at h) (fun h => by omega)); have O4 := Lib.hid o4; have F4 := Lib.hid f4; have x0 := CX.out _ (FW.out.step f4 (fun _ _ h => h)) 0 (.int .i64 x.a) rfl; have x1 := CX.out _ (FW.out.step f4 (fun _ _ h => h)) 1 (.int .i64 x.s) rfl; have x2 := CX.out _ (FW.out.step f4 (fun _ _ h => h)) 2 (.int .i64 x.t) rfl; have x3 := CX.out _ (FW.out.step f4 (fun _ _ h => h)) 3 (.int .i64 x.n) rfl; have x4 := CX.out _ (FW.out.step f4 (fun _ _ h => h)) 4 (.int .i64 x.d) rfl; have x5 := CX.out _ (FW.out.step f4 (fun _ _ h => h)) 5 (.int .i64 x.k) rfl; have x6 := CX.out _ (FW.out.step f4 (fun _ _ h => h)) 6 (.int .i64 x.x) rfl; rw [Nat.add_zero] at x0; have lb4 : b0 < w4.heap.size := Nat.lt_of_lt_of_le LB.out (FW.out.step f4 (fun _ _ h => h)).size; clear o4 k4 n4 f4)
        | (at_builtin; refine wpList_append_OwnS _ rfl (.tmp 36) (.tmp 41) 24 rfl 41 i0 (.agg #[.int .i64 0, .int .i64 0, .int .i64 0, .int .i64 0, .int .i64 0, .int .i64 0, .int .i64 0]) 7 56 Tryz.underlying24 hi hz0 hz1 hz2 rfl h07.out (.slice A4 k cap4) k (cells (out.take k)) rfl (O4.out.alloc _) (.slice (some ⟨w4.heap.size, 0, none⟩) 1 1) 1 (cells [x]) rfl (S2.out _) (cells_one _) g3' g4' ?_; intro v5 w5 o5 k5 n5; rw [← cells_append] at o5; obtain ⟨A5, cap5, rfl, hc5, hm5⟩ := o5.shape; have f5 := (F4.out.alloc (.cells #[.int .i64 x.a, .int .i64 x.s, .int .i64 x.t, .int .i64 x.n, .int .i64 x.d, .int .i64 x.k, .int .i64 x.x] 41)).step k5 (fun q hq e => by have := N4.out q e; omega); have N5 : Hid (∀ q, (Value.slice A5 (k + 1) cap5).ownBlock = some q → wr.heap.size ≤ q) := Lib.hid (fun q hq => by have h1 := n5 q hq; have h2 := F4.out.size; exact h1.elim (fun h => N4.out q h) (fun h => by simp at h; omega)); have O5 := Lib.hid o5; have F5 := Lib.hid f5; clear o5 k5 n5 f5)
        | (at_builtin; refine wpList_append_OwnS _ rfl (.tmp 43) (.tmp 46) 24 rfl 41 i0 (.agg #[.int .i64 0, .int .i64 0, .int .i64 0, .int .i64 0, .int .i64 0, .int .i64 0, .int .i64 0]) 7 56 Tryz.underlying24 hi hz0 hz1 hz2 rfl h07.out (.slice A5 (k + 1) cap5) (k + 1) (cells (out.take k ++ [x])) rfl O5.out (.slice (some ⟨g3, off3 + k * 7, none⟩) (out.length - k) _) (out.length - k) (cells (out.drop k)) rfl (S3.out _ _ _ F5.out) (cells_one _) g5 g6 ?_; intro v6 w6 o6 k6 n6; rw [← cells_append] at o6; obtain ⟨A6, cap6, rfl, hc6, hm6⟩ := o6.shape; have f6 := F5.out.step k6 (fun q hq e => by have := N5.out q e; omega); have N6 : Hid (∀ q, (Value.slice A6 (k + 1 + (out.length - k)) cap6).ownBlock = some q → wr.heap.size ≤ q) := Lib.hid (fun q hq => by have h1 := n6 q hq; have h2 := F5.out.size; exact h1.elim (fun h => N5.out q h) (fun h => by omega)); have O6 := Lib.hid o6; have F6 := Lib.hid f6; clear o6 k6 n6 f6))
       have NX := Lib.hid (FIN.out HINH.out _ _ O6.out F6.out N6.out)
       go_roundg (l.length - (i + 1))
       case measure => omega
       case rel => exact ⟨i + 1, _, _, by omega, rfl, rfl, by go_num, NX.out⟩
  ·obtain rfl : i = l.length := by omega
   have hp := HI.out.p
   rw [List.take_length] at hp
   have HP := Lib.hid hp
   clear hp
   go_wp2_with fail
   go_ret
   exact ⟨_, out, rfl, HI.out.s, HP.out, HI.out.o, HI.out.f, HI.out.n⟩
end Go.Proofs.YthbcdkeammhakaaGreat
namespace Go.Proofs.YthbcdkeammhakaaGreat
open Go.RowKit
attribute [local go_sem ↓] Go.wp_at_zero Go.wp_at_succ
def bools (l : List Rec) : List Value := l.map (fun r => .bool r.2)
def boolsP (p : Rec → Bool) (l : List Rec) : List Value := l.map (fun r => .bool (p r))
theorem bools_one (l : List Rec) : ∀ u ∈ bools l, u.oneCell' = true := by
 intro u hu
 unfold bools at hu
 obtain ⟨r, _, rfl⟩ := List.mem_map.1 hu
 rfl
theorem bools_append (l m : List Rec) : bools (l ++ m) = bools l ++ bools m := by simp [bools]
theorem bools_at {l : List Rec} {i : Nat} {r : Rec} (h : l[i]? = some r) : (bools l)[i]? = some (.bool r.2) := by unfold bools; rw [List.getElem?_map, h]; rfl
theorem boolsP_at {p : Rec → Bool} {l : List Rec} {i : Nat} {r : Rec} (h : l[i]? = some r) : (boolsP p l)[i]? = some (.bool (p r)) := by unfold boolsP; rw [List.getElem?_map, h]; rfl
theorem evs_append (l m : List Rec) : evs (l ++ m) = evs l ++ evs m := by simp [evs]
theorem info_bool : (Tryz.prog.info? 4).map (fun i => (i.zero, i.size, i.bytes)) = some (some (.bool false), 1, 1) := by kernel_rfl
structure ORQ (w : World) (g : Nat) (v1 v2 : Value) (R : List Rec) : Prop where
 blk : Blk w g 108 #[v1, v2]
 o1 : OwnS w 41 7 v1 R.length (cells (evs R))
 o2 : OwnS w 4 1 v2 R.length (bools R)
def rfoot (g : Nat) (v1 v2 : Value) (k : Nat) : Prop := k = g ∨ v1.ownBlock = some k ∨ v2.ownBlock = some k
structure RTurn (w w' : World) (g : Nat) (v1 v2 v1' v2' : Value) : Prop where
 keep : Keep (rfoot g v1 v2) w w'
 later : ∀ k, rfoot g v1' v2' k → rfoot g v1 v2 k ∨ w.heap.size ≤ k
section
variable {w w' w3 W : World} {g : Nat} {v1 v2 v1' v2' v1'' v2'' v' : Value} {R R' : List Rec} {S : Nat → Prop}
theorem ORQ.n2 (h : ORQ w g v1 v2 R) : v2.ownBlock ≠ some g := h.o2.ne_blk h.blk (by decide)
theorem ORQ.n12 (h : ORQ w g v1 v2 R) : ∀ k, v1.ownBlock = some k → v2.ownBlock ≠ some k := h.o1.ne_own h.o2 (by decide)
theorem ORQ.kept (h : ORQ w g v1 v2 R) (k : Keep S w w') (hS : ∀ i, rfoot g v1 v2 i → ¬ S i) : ORQ w' g v1 v2 R :=
 ⟨h.blk.keep k (hS g (.inl rfl)), h.o1.kept k (fun i hi => hS i (.inr (.inl hi))), h.o2.kept k (fun i hi => hS i (.inr (.inr hi)))⟩
theorem ORQ.fresh (h : ORQ w g v1 v2 R) (k : Fresh w w') : ORQ w' g v1 v2 R := h.kept k (fun _ _ h => h)
theorem ORQ.lt (h : ORQ w g v1 v2 R) (k : Nat) (hk : rfoot g v1 v2 k) : k < w.heap.size := by
 rcases hk with rfl | hk | hk
 ·exact h.blk.lt
 ·exact h.o1.lt hk
 ·exact h.o2.lt hk
theorem RTurn.fresh (f : Fresh w w') : RTurn w w' g v1 v2 v1 v2 := ⟨f.more (fun _ _ h => h.elim), fun _ h => .inl h⟩
theorem RTurn.after (f : Fresh w W) (t : RTurn W w' g v1 v2 v1' v2') : RTurn w w' g v1 v2 v1' v2' :=
 ⟨(f.more (fun _ _ h => h.elim)).trans t.keep, fun k hk => (t.later k hk).imp id (fun h => Nat.le_trans f.size h)⟩
theorem RTurn.two (t : RTurn w W g v1 v2 v1' v2') (u : RTurn W w' g v1' v2' v1'' v2'') : RTurn w w' g v1 v2 v1'' v2'' := by
 refine ⟨t.keep.step u.keep (fun i hi hf => (t.later i hf).elim id (fun h => absurd hi (by omega))), fun k hk => ?_⟩
 rcases u.later k hk with h | h
 ·exact t.later k h
 ·exact .inr (Nat.le_trans t.keep.size h)
theorem ORQ.put (h : ORQ w g v1 v2 R) (f : Fresh w w3) (o1 : OwnS w3 41 7 v1' R'.length (cells (evs R'))) (o2 : OwnS w3 4 1 v2' R'.length (bools R')) (n1 : ∀ k, v1'.ownBlock = some k → w.heap.size ≤ k) (n2 : ∀ k, v2'.ownBlock = some k → w.heap.size ≤ k) :
  ORQ ((w3.setCell ⟨g, 0, none⟩ v1').setCell ⟨g, 1, none⟩ v2') g v1' v2' R' ∧ RTurn w ((w3.setCell ⟨g, 0, none⟩ v1').setCell ⟨g, 1, none⟩ v2') g v1 v2 v1' v2' := by
 have b3 := f.blk_ h.blk
 have b4 := b3.set_ 0 v1'
 have b5 := b4.set_ 1 v2'
 have hlt := h.blk.lt
 have m1 : v1'.ownBlock ≠ some g := fun he => by have := n1 g he; omega
 have m2 : v2'.ownBlock ≠ some g := fun he => by have := n2 g he; omega
 refine ⟨⟨by simpa using b5, (o1.far (p := ⟨g, 0, none⟩) m1 v1').far (p := ⟨g, 1, none⟩) m1 v2', (o2.far (p := ⟨g, 0, none⟩) m2 v1').far (p := ⟨g, 1, none⟩) m2 v2'⟩, ⟨?_, fun k hk => ?_⟩⟩
 ·exact ((f.more (fun _ _ h => h.elim)).setCell (p := ⟨g, 0, none⟩) (fun _ => .inl rfl) v1').setCell (p := ⟨g, 1, none⟩) (fun _ => .inl rfl) v2'
 ·rcases hk with rfl | hk | hk
  ·exact .inl (.inl rfl)
  ·exact .inr (n1 k hk)
  ·exact .inr (n2 k hk)
end
def RAntisP (l : List Ev) (w : World) (e : Ending) (w' : World) : Prop :=
 ∃ v s, e = .returned v ∧ SrtS s ∧ s.Perm l ∧ OwnS w' 43 8 v s.length (rcells (s.map (fun e => (e, true)))) ∧ Fresh w w' ∧ ∀ k, v.ownBlock = some k → w.heap.size ≤ k
structure AntI (w : World) (s : List Ev) (i : Nat) (v : Value) (wr : World) : Prop where
 f : Fresh w wr
 o : OwnS wr 43 8 v i (rcells ((s.take i).map (fun e => (e, true))))
 n : ∀ k, v.ownBlock = some k → w.heap.size ≤ k
theorem rantis_any (v : Value) (l : List Ev) (w : World) (hv : EvAt w v l) (hl : l.length ≤ 100000) :
  Calls Tryz.prog 140 #[v] w (RAntisP l w) := by
 have HS := Lib.hid (sLtsort_any v l w hv hl)
 obtain ⟨A, c, rfl, hv⟩ := hv
 clear hv
 obtain ⟨i1, hi1, hy0, hy1, hy2⟩ := info_parts info_msg
 have h08 : Hid (0 < 8) := Lib.hid (by omega)
 go_enter Tryz.func140, Tryz.ntmps140
 go_wp2_with fail
 refine HS.out.mono ?_
 rintro e w1 ⟨v1, s, rfl, hs1, hp1, o1, f1, n1⟩
 obtain ⟨A1, c1, rfl, hc1, hm1⟩ := o1.shape
 have hm1 : c1 ≤ 9223372036854775807 := by unfold maxLen at hm1; omega
 have O1 := Lib.hid o1
 have F1 := Lib.hid f1
 have SP := Lib.hid (And.intro hs1 hp1)
 have hsl : s.length ≤ 100000 := by rw [hp1.length_eq]; exact hl
 clear o1 f1 n1 hs1 hp1 HS
 go_wp2_with fail
 go_loopg [3, 5] s.length (fun gk u3 u5 wr => ∃ (i : Nat) (v : Value), i ≤ s.length ∧ gk = s.length - i ∧ u3 = v ∧ u5 = .int .i64 i ∧ AntI w1 s i v wr)
 case atStart => exact ⟨0, _, by omega, rfl, rfl, rfl, ⟨Keep.refl _ _, by rw [List.take_zero]; exact OwnS.nil _ _ _, by simp [Value.ownBlock]⟩⟩
 case round =>
  obtain ⟨i, v, hi, rfl, rfl, rfl, hI⟩ := hrel
  have HI := Lib.hid hI
  obtain ⟨A3, c3, rfl, hc3, hm3⟩ := hI.o.shape
  clear hI
  by_cases hlt : i < s.length
  ·obtain ⟨y, hy⟩ : ∃ y, s[i]? = some y := ⟨_, List.getElem?_eq_getElem hlt⟩
   obtain ⟨g3, off3, _, hv3, hg3, _, _, hcc⟩ := (O1.out.fresh HI.out.f).form (by omega)
   injection hv3 with e1 e2 e3
   subst e1 e3
   obtain ⟨y0, y1, y2, y3, y4, y5, y6⟩ := cells_at s i y hy
   have y0 := hcc _ _ y0
   have y1 := hcc _ _ y1
   have y2 := hcc _ _ y2
   have y3 := hcc _ _ y3
   have y4 := hcc _ _ y4
   have y5 := hcc _ _ y5
   have y6 := hcc _ _ y6
   rw [← Nat.add_assoc] at y1 y2 y3 y4 y5 y6
   have HT : Hid ((s.take (i + 1)).map (fun e => (e, true)) = (s.take i).map (fun e => (e, true)) ++ [(y, true)]) := Lib.hid (by rw [List.take_add_one, hy]; simp)
   have S2 : Hid (Src (wr.alloc (.cells #[.int .i64 y.a, .int .i64 y.s, .int .i64 y.t, .int .i64 y.n, .int .i64 y.d, .int .i64 y.k, .int .i64 y.x, .bool true] 43)) 8 (.slice (some ⟨wr.heap.size, 0, none⟩) 1 1) 1 (rcells [(y, true)])) := Lib.hid (Src.one_new wr 43 8 #[.int .i64 y.a, .int .i64 y.s, .int .i64 y.t, .int .i64 y.n, .int .i64 y.d, .int .i64 y.k, .int .i64 y.x, .bool true] rfl)
   have g1 : i + 1 ≤ maxLen := one_le_maxLen (by omega)
   have g2 : (i + 1) * 64 ≤ 140737488355328 := by omega
   clear hcc hy e2
   go_wp2_with (at_builtin; refine wpList_append_OwnS _ rfl (.tmp 14) (.tmp 20) 35 rfl 43 i1 (.agg #[.int .i64 0, .int .i64 0, .int .i64 0, .int .i64 0, .int .i64 0, .int .i64 0, .int .i64 0, .bool false]) 8 64 Tryz.underlying35 hi1 hy0 hy1 hy2 rfl h08.out (.slice A3 i c3) i (rcells ((s.take i).map (fun e => (e, true)))) rfl (HI.out.o.alloc _) (.slice (some ⟨wr.heap.size, 0, none⟩) 1 1) 1 (rcells [(y, true)]) rfl S2.out (rcells_one _) g1 g2 ?_; intro v4 w4 o4 k4 n4; rw [← rcells_append] at o4; obtain ⟨A4, cap4, rfl, hc4, hm4⟩ := o4.shape; have f4 := (HI.out.f.alloc (.cells #[.int .i64 y.a, .int .i64 y.s, .int .i64 y.t, .int .i64 y.n, .int .i64 y.d, .int .i64 y.k, .int .i64 y.x, .bool true] 43)).step k4 (fun q hq e => by have := HI.out.n q e; omega); have N4 : Hid (∀ q, (Value.slice A4 (i + 1) cap4).ownBlock = some q → w1.heap.size ≤ q) := Lib.hid (fun q hq => by have h1 := n4 q hq; have h2 := HI.out.f.size; exact h1.elim (fun h => HI.out.n q h) (fun h => by simp at h; omega)); have O4 := Lib.hid o4; have F4 := Lib.hid f4; clear o4 k4 n4 f4)
   go_roundg (s.length - (i + 1))
   case measure => omega
   case rel => exact ⟨i + 1, _, by omega, rfl, rfl, by go_num, ⟨F4.out, by rw [HT.out]; exact O4.out, N4.out⟩⟩
  ·obtain rfl : i = s.length := by omega
   have o := HI.out.o
   rw [List.take_length] at o
   have HO := Lib.hid o
   clear o
   go_wp2_with fail
   go_ret
   exact ⟨_, s, rfl, SP.out.1, SP.out.2, HO.out, F1.out.step HI.out.f (fun _ _ h => h), fun k hk => by have := HI.out.n k hk; have := F1.out.size; omega⟩
end Go.Proofs.YthbcdkeammhakaaGreat
namespace Go.Proofs.YthbcdkeammhakaaGreat
open Go.RowKit
attribute [local go_sem ↓] Go.wp_at_zero Go.wp_at_succ
structure T3 (W0 : World) (G L S : List Rec) (v9 v10 v11 : Value) (wr : World) : Prop where
 f : Fresh W0 wr
 o9 : OwnS wr 41 7 v9 G.length (cells (evs G))
 o10 : OwnS wr 41 7 v10 L.length (cells (evs L))
 o11 : OwnS wr 4 1 v11 S.length (bools S)
 n9 : ∀ k, v9.ownBlock = some k → W0.heap.size ≤ k
 n10 : ∀ k, v10.ownBlock = some k → W0.heap.size ≤ k
 n11 : ∀ k, v11.ownBlock = some k → W0.heap.size ≤ k
 dis : ∀ k, v9.ownBlock = some k → v10.ownBlock ≠ some k
section
variable {W0 wr w2 W : World} {G L S : List Rec} {v9 v10 v11 v' : Value} {y : Rec}
theorem T3.fresh (h : T3 W0 G L S v9 v10 v11 wr) (f : Fresh wr w2) : T3 W0 G L S v9 v10 v11 w2 :=
 ⟨h.f.step f (fun _ _ h => h), h.o9.fresh f, h.o10.fresh f, h.o11.fresh f, h.n9, h.n10, h.n11, h.dis⟩
theorem T3.app9 (h : T3 W0 G L S v9 v10 v11 wr) (o : OwnS w2 41 7 v' (G.length + 1) (cells (evs G) ++ cells [y.1])) (k : Keep (fun k => v9.ownBlock = some k) wr w2) (n : ∀ i, v'.ownBlock = some i → v9.ownBlock = some i ∨ wr.heap.size ≤ i) : T3 W0 (G ++ [y]) L S v' v10 v11 w2 := by
 refine ⟨h.f.step k (fun i hi e => by have := h.n9 i e; omega), by rw [List.length_append, evs_append, cells_append]; exact o, h.o10.kept k (fun i h1 h2 => h.dis i h2 h1), h.o11.kept k (fun i h1 h2 => h.o9.ne_own h.o11 (by decide) i h2 h1), fun i hi => ?_, h.n10, h.n11, fun i h1 h2 => ?_⟩
 ·rcases n i hi with h1 | h1
  ·exact h.n9 i h1
  ·have := h.f.size; omega
 ·rcases n i h1 with h3 | h3
  ·exact h.dis i h3 h2
  ·have := h.o10.lt h2; omega
theorem T3.app10 (h : T3 W0 G L S v9 v10 v11 wr) (o : OwnS w2 41 7 v' (L.length + 1) (cells (evs L) ++ cells [y.1])) (k : Keep (fun k => v10.ownBlock = some k) wr w2) (n : ∀ i, v'.ownBlock = some i → v10.ownBlock = some i ∨ wr.heap.size ≤ i) : T3 W0 G (L ++ [y]) S v9 v' v11 w2 := by
 refine ⟨h.f.step k (fun i hi e => by have := h.n10 i e; omega), h.o9.kept k (fun i h1 h2 => h.dis i h1 h2), by rw [List.length_append, evs_append, cells_append]; exact o, h.o11.kept k (fun i h1 h2 => h.o10.ne_own h.o11 (by decide) i h2 h1), h.n9, fun i hi => ?_, h.n11, fun i h1 h2 => ?_⟩
 ·rcases n i hi with h1 | h1
  ·exact h.n10 i h1
  ·have := h.f.size; omega
 ·rcases n i h2 with h3 | h3
  ·exact h.dis i h1 h3
  ·have := h.o9.lt h1; omega
theorem T3.app11 (h : T3 W0 G L S v9 v10 v11 wr) (o : OwnS w2 4 1 v' (S.length + 1) (bools S ++ bools [y])) (k : Keep (fun k => v11.ownBlock = some k) wr w2) (n : ∀ i, v'.ownBlock = some i → v11.ownBlock = some i ∨ wr.heap.size ≤ i) : T3 W0 G L (S ++ [y]) v9 v10 v' w2 := by
 refine ⟨h.f.step k (fun i hi e => by have := h.n11 i e; omega), h.o9.kept k (fun i h1 h2 => h.o9.ne_own h.o11 (by decide) i h1 h2), h.o10.kept k (fun i h1 h2 => h.o10.ne_own h.o11 (by decide) i h1 h2), by rw [List.length_append, bools_append]; exact o, h.n9, h.n10, fun i hi => ?_, h.dis⟩
 rcases n i hi with h1 | h1
 ·exact h.n11 i h1
 ·have := h.f.size; omega
end
theorem evs_at' {q : List Rec} {i : Nat} {y : Rec} (h : q[i]? = some y) : (evs q)[i]? = some y.1 := by
 unfold evs
 rw [List.getElem?_map, h]
 rfl
def keepR (p : Rec → Bool) (R : List Rec) : List Rec := R.filter p
def goneR (p : Rec → Bool) (R : List Rec) : List Rec := R.filter (fun r => !p r)
theorem keepR_take (p : Rec → Bool) (R : List Rec) (i : Nat) (y : Rec) (h : R[i]? = some y) : keepR p (R.take (i + 1)) = keepR p (R.take i) ++ (if p y then [y] else []) := by
 unfold keepR
 rw [List.take_add_one, h, Option.toList_some, List.filter_append]
 congr 1
 cases hh : p y <;> simp [List.filter, hh]
theorem goneR_take (p : Rec → Bool) (R : List Rec) (i : Nat) (y : Rec) (h : R[i]? = some y) : goneR p (R.take (i + 1)) = goneR p (R.take i) ++ (if p y then [] else [y]) := by
 unfold goneR
 rw [List.take_add_one, h, Option.toList_some, List.filter_append]
 congr 1
 cases hh : p y <;> simp [List.filter, hh]
def ORTakeP (g : Nat) (v1 v2 : Value) (p : Rec → Bool) (R : List Rec) (w : World) (e : Ending) (w' : World) : Prop :=
 ∃ vg v1' v2', e = .returned vg ∧ OwnS w' 41 7 vg (goneR p R).length (cells (evs (goneR p R))) ∧ ORQ w' g v1' v2' (keepR p R) ∧ RTurn w w' g v1 v2 v1' v2' ∧ (∀ k, vg.ownBlock = some k → w.heap.size ≤ k) ∧ (∀ k, rfoot g v1' v2' k → k = g ∨ w.heap.size ≤ k) ∧ Keep (fun k => k = g) w w'
theorem ortake_any (g : Nat) (v1 v2 vs : Value) (p : Rec → Bool) (R : List Rec) (w : World) (h : ORQ w g v1 v2 R) (hs : OwnS w 4 1 vs R.length (boolsP p R)) (hl : R.length ≤ 100000) :
  Calls Tryz.prog 141 #[.pointer (some ⟨g, 0, none⟩), vs] w (ORTakeP g v1 v2 p R w) := by
 have H := Lib.hid h
 have HS := Lib.hid hs
 obtain ⟨A1, c1, rfl, hc1, hm1⟩ := h.o1.shape
 obtain ⟨A2, c2, rfl, hc2, hm2⟩ := h.o2.shape
 obtain ⟨As, cs, rfl, hcs, hms⟩ := hs.shape
 have hm1 : c1 ≤ 9223372036854775807 := by unfold maxLen at hm1; omega
 clear h hs
 obtain ⟨i0, hi, hz0, hz1, hz2⟩ := info_parts info_ev
 obtain ⟨i1, hi1, hy0, hy1, hy2⟩ := info_parts info_bool
 have h07 : Hid (0 < 7) := Lib.hid (by omega)
 have h01 : Hid (0 < 1) := Lib.hid (by omega)
 go_enter Tryz.func141, Tryz.ntmps141
 go_wp2_with fail
 go_loopg [5, 6, 7, 8] R.length (fun gk u5 u6 u7 u8 wr => ∃ (i : Nat) (v5 v6 v7 : Value), i ≤ R.length ∧ gk = R.length - i ∧ u5 = v5 ∧ u6 = v6 ∧ u7 = v7 ∧ u8 = .int .i64 i ∧ T3 w (goneR p (R.take i)) (keepR p (R.take i)) (keepR p (R.take i)) v5 v6 v7 wr)
 case atStart => exact ⟨0, _, _, _, by omega, rfl, rfl, rfl, rfl, rfl, ⟨Keep.refl _ _, OwnS.nil _ _ _, OwnS.nil _ _ _, OwnS.nil _ _ _, by simp [Value.ownBlock], by simp [Value.ownBlock], by simp [Value.ownBlock], by simp [Value.ownBlock]⟩⟩
 case round =>
  obtain ⟨i, v5, v6, v7, hi', rfl, rfl, rfl, rfl, rfl, hG⟩ := hrel
  have HG := Lib.hid hG
  have cQ := (H.out.fresh hG.f).blk.cell
  have lQ := (H.out.fresh hG.f).blk.lt
  obtain ⟨A5, c5, rfl, hc5, hm5⟩ := hG.o9.shape
  obtain ⟨A6, c6, rfl, hc6, hm6⟩ := hG.o10.shape
  obtain ⟨A7, c7, rfl, hc7, hm7⟩ := hG.o11.shape
  have hgl : (goneR p (R.take i)).length ≤ R.length := Nat.le_trans (List.length_filter_le _ _) (by rw [List.length_take]; omega)
  have hgr : (keepR p (R.take i)).length ≤ R.length := Nat.le_trans (List.length_filter_le _ _) (by rw [List.length_take]; omega)
  clear hG
  by_cases hlt : i < R.length
  ·obtain ⟨y, hy⟩ : ∃ y, R[i]? = some y := ⟨_, List.getElem?_eq_getElem hlt⟩
   obtain ⟨g3, off3, _, hv3, hg3, _, _, hcc⟩ := (H.out.o1.fresh HG.out.f).form (by omega)
   injection hv3 with e1 e2 e3
   subst e1 e3
   obtain ⟨y0, y1, y2, y3, y4, y5, y6⟩ := cells_at (evs R) i y.1 (evs_at' hy)
   have y0 := hcc _ _ y0
   have y1 := hcc _ _ y1
   have y2 := hcc _ _ y2
   have y3 := hcc _ _ y3
   have y4 := hcc _ _ y4
   have y5 := hcc _ _ y5
   have y6 := hcc _ _ y6
   rw [← Nat.add_assoc] at y1 y2 y3 y4 y5 y6
   obtain ⟨g4, off4, _, hv4, hg4, _, _, hcb⟩ := (H.out.o2.fresh HG.out.f).form (by omega)
   injection hv4 with f1 f2 f3
   subst f1 f3
   have z0 := hcb _ _ (bools_at hy)
   obtain ⟨g5, off5, _, hv5, hg5, _, _, hcs'⟩ := (HS.out.fresh HG.out.f).form (by omega)
   injection hv5 with k1 k2 k3
   subst k1 k3
   have s0 := hcs' _ _ (boolsP_at hy)
   have HT := Lib.hid (keepR_take p R i y hy)
   have HR := Lib.hid (goneR_take p R i y hy)
   have S2 : Hid (∀ W : World, Src (W.alloc (.cells #[.int .i64 y.1.a, .int .i64 y.1.s, .int .i64 y.1.t, .int .i64 y.1.n, .int .i64 y.1.d, .int .i64 y.1.k, .int .i64 y.1.x] 41)) 7 (.slice (some ⟨W.heap.size, 0, none⟩) 1 1) 1 (cells [y.1])) := Lib.hid (fun W => Src.one_new W 41 7 #[.int .i64 y.1.a, .int .i64 y.1.s, .int .i64 y.1.t, .int .i64 y.1.n, .int .i64 y.1.d, .int .i64 y.1.k, .int .i64 y.1.x] rfl)
   have S1 : Hid (∀ W : World, Src (W.alloc (.cells #[.bool y.2] 4)) 1 (.slice (some ⟨W.heap.size, 0, none⟩) 1 1) 1 (bools [y])) := Lib.hid (fun W => Src.one_new W 4 1 #[.bool y.2] rfl)
   have ZF : Hid (∀ W, Fresh w W → W.cell? ⟨g4, off4 + i, none⟩ = some (.bool y.2)) := Lib.hid (fun W f => by
    obtain ⟨g6, off6, _, hv6, _, _, _, hcd⟩ := (H.out.o2.fresh f).form (by omega)
    injection hv6 with f4 f5 f6
    injection f4 with f4
    injection f4 with f7 f8 _
    subst f7 f8
    exact hcd _ _ (bools_at hy))
   clear hcc hcb hcs' hy e2 f2 k2
   cases hq : p y
   ·rw [hq] at HT HR s0
    have HT2 : Hid (keepR p (R.take (i + 1)) = keepR p (R.take i)) := Lib.hid (HT.out.trans (by simp))
    have HR2 : Hid (goneR p (R.take (i + 1)) = goneR p (R.take i) ++ [y]) := Lib.hid (HR.out.trans (by simp))
    have hL1 : (goneR p (R.take i)).length + 1 ≤ maxLen := one_le_maxLen (by omega)
    have hL2 : ((goneR p (R.take i)).length + 1) * 56 ≤ 140737488355328 := by omega
    clear HT HR z0
    go_wp2_with (at_builtin; refine wpList_append_OwnS _ rfl (.tmp 42) (.tmp 50) 24 rfl 41 i0 (.agg #[.int .i64 0, .int .i64 0, .int .i64 0, .int .i64 0, .int .i64 0, .int .i64 0, .int .i64 0]) 7 56 Tryz.underlying24 hi hz0 hz1 hz2 rfl h07.out (.slice A5 (goneR p (R.take i)).length c5) (goneR p (R.take i)).length (cells (evs (goneR p (R.take i)))) rfl (HG.out.o9.alloc _) (.slice (some ⟨wr.heap.size, 0, none⟩) 1 1) 1 (cells [y.1]) rfl (S2.out _) (cells_one _) hL1 hL2 ?_; intro v4 w4 o4 k4 n4; obtain ⟨A4, cap4, rfl, hc4, hm4⟩ := o4.shape; have G4 := Lib.hid ((HG.out.fresh ((Keep.refl _ wr).alloc (.cells #[.int .i64 y.1.a, .int .i64 y.1.s, .int .i64 y.1.t, .int .i64 y.1.n, .int .i64 y.1.d, .int .i64 y.1.k, .int .i64 y.1.x] 41))).app9 o4 k4 n4); clear o4 k4 n4)
    go_roundg (R.length - (i + 1))
    case measure => omega
    case rel => exact ⟨i + 1, _, _, _, by omega, rfl, rfl, rfl, rfl, by go_num, by rw [HT2.out, HR2.out]; exact G4.out⟩
   ·rw [hq] at HT HR s0
    have HT2 : Hid (keepR p (R.take (i + 1)) = keepR p (R.take i) ++ [y]) := Lib.hid (HT.out.trans (by simp))
    have HR2 : Hid (goneR p (R.take (i + 1)) = goneR p (R.take i)) := Lib.hid (HR.out.trans (by simp))
    have hL1 : (keepR p (R.take i)).length + 1 ≤ maxLen := one_le_maxLen (by omega)
    have hL2 : ((keepR p (R.take i)).length + 1) * 56 ≤ 140737488355328 := by omega
    have hL3 : ((keepR p (R.take i)).length + 1) * 1 ≤ 140737488355328 := by omega
    clear HT HR
    go_wp2_with (first
     | (at_builtin; refine wpList_append_OwnS _ rfl (.tmp 22) (.tmp 30) 24 rfl 41 i0 (.agg #[.int .i64 0, .int .i64 0, .int .i64 0, .int .i64 0, .int .i64 0, .int .i64 0, .int .i64 0]) 7 56 Tryz.underlying24 hi hz0 hz1 hz2 rfl h07.out (.slice A6 (keepR p (R.take i)).length c6) (keepR p (R.take i)).length (cells (evs (keepR p (R.take i)))) rfl (HG.out.o10.alloc _) (.slice (some ⟨wr.heap.size, 0, none⟩) 1 1) 1 (cells [y.1]) rfl (S2.out _) (cells_one _) hL1 hL2 ?_; intro v4 w4 o4 k4 n4; have G4 := Lib.hid ((HG.out.fresh ((Keep.refl _ wr).alloc (.cells #[.int .i64 y.1.a, .int .i64 y.1.s, .int .i64 y.1.t, .int .i64 y.1.n, .int .i64 y.1.d, .int .i64 y.1.k, .int .i64 y.1.x] 41))).app10 o4 k4 n4); obtain ⟨A4, cap4, rfl, hc4, hm4⟩ := o4.shape; have cQ4 := (H.out.fresh G4.out.f).blk.cell; have lQ4 := (H.out.fresh G4.out.f).blk.lt; have zz := ZF.out _ G4.out.f; have gz := (H.out.o2.fresh G4.out.f).lt rfl; clear o4 k4 n4)
     | (at_builtin; refine wpList_append_OwnS _ rfl (.tmp 32) (.tmp 40) 106 rfl 4 i1 (.bool false) 1 1 Tryz.underlying106 hi1 hy0 hy1 hy2 rfl h01.out (.slice A7 (keepR p (R.take i)).length c7) (keepR p (R.take i)).length (bools (keepR p (R.take i))) rfl (G4.out.o11.alloc _) (.slice (some ⟨w4.heap.size, 0, none⟩) 1 1) 1 (bools [y]) rfl (S1.out _) (bools_one _) hL1 hL3 ?_; intro v8 w8 o8 k8 n8; have G8 := Lib.hid ((G4.out.fresh ((Keep.refl _ w4).alloc (.cells #[.bool y.2] 4))).app11 o8 k8 n8); obtain ⟨A8, cap8, rfl, hc8, hm8⟩ := o8.shape; clear o8 k8 n8))
    go_roundg (R.length - (i + 1))
    case measure => omega
    case rel => exact ⟨i + 1, _, _, _, by omega, rfl, rfl, rfl, rfl, by go_num, by rw [HT2.out, HR2.out]; exact G8.out⟩
  ·obtain rfl : i = R.length := by omega
   rw [List.take_length] at HG hgl hgr ⊢
   obtain ⟨r, t⟩ := H.out.put HG.out.f HG.out.o10 HG.out.o11 HG.out.n10 HG.out.n11
   have fQ := (H.out.fresh HG.out.f).blk.frozen
   have RR := Lib.hid r
   have TT := Lib.hid t
   have KG : Hid (Keep (fun k => k = g) w ((wr.setCell ⟨g, 0, none⟩ (.slice A6 (keepR p R).length c6)).setCell ⟨g, 1, none⟩ (.slice A7 (keepR p R).length c7))) := Lib.hid (Keep.setCell (S := fun k => k = g) (p := ⟨g, 1, none⟩) (Keep.setCell (S := fun k => k = g) (p := ⟨g, 0, none⟩) (HG.out.f.more (fun _ _ h => h.elim)) (fun _ => rfl) _) (fun _ => rfl) _)
   have b3 := HG.out.f.blk_ H.out.blk
   have O9 := Lib.hid ((HG.out.o9.far (p := ⟨g, 0, none⟩) (HG.out.o9.ne_blk b3 (by decide)) (.slice A6 (keepR p R).length c6)).far (p := ⟨g, 1, none⟩) (HG.out.o9.ne_blk b3 (by decide)) (.slice A7 (keepR p R).length c7))
   clear r t b3
   go_wp2_with fail
   go_ret
   exact ⟨_, _, _, rfl, O9.out, RR.out, TT.out, HG.out.n9, fun k hk => by
    rcases hk with rfl | hk | hk
    ·exact .inl rfl
    ·exact .inr (HG.out.n10 k hk)
    ·exact .inr (HG.out.n11 k hk), KG.out⟩
end Go.Proofs.YthbcdkeammhakaaGreat
namespace Go.Proofs.YthbcdkeammhakaaGreat
open Go.RowKit
attribute [local go_sem ↓] Go.wp_at_zero Go.wp_at_succ
attribute [local go_sem ↓] run_eql_ev run_neq_ev
theorem made_bools (R : List Rec) : (madeCells #[.bool false] R.length).toList = boolsP (fun _ => false) R := by
 apply List.ext_getElem?
 intro i
 simp only [boolsP, madeCells, Array.toList_map, List.getElem?_map]
 rw [show (Array.range R.length).toList = List.range R.length by simp]
 by_cases hi : i < R.length
 ·rw [List.getElem?_range hi, List.getElem?_eq_getElem hi]
  simp [Nat.mod_one]
 ·rw [List.getElem?_eq_none (by simp; omega), List.getElem?_eq_none (by omega)]
  rfl
def told (p : Rec → Bool) (R : List Rec) (i : Nat) : List Value := boolsP p (R.take i) ++ boolsP (fun _ => false) (R.drop i)
theorem told_zero (p : Rec → Bool) (R : List Rec) : told p R 0 = boolsP (fun _ => false) R := by simp [told, boolsP]
theorem told_all (p : Rec → Bool) (R : List Rec) : told p R R.length = boolsP p R := by simp [told, boolsP]
theorem told_len (p : Rec → Bool) (R : List Rec) (i : Nat) : (told p R i).length = R.length := by simp [told, boolsP]; omega
theorem told_set (p : Rec → Bool) (R : List Rec) (i : Nat) (y : Rec) (h : R[i]? = some y) : (told p R i).set i (.bool (p y)) = told p R (i + 1) := by
 have hi := (List.getElem?_eq_some_iff.1 h).1
 have hy := (List.getElem?_eq_some_iff.1 h).2
 unfold told
 rw [List.take_add_one, h, Option.toList_some, List.drop_eq_getElem_cons hi, hy]
 have hl : (boolsP p (R.take i)).length = i := by simp [boolsP]; omega
 rw [List.set_append_right _ _ (by omega), hl, Nat.sub_self]
 simp [boolsP]
structure StI (w : World) (p : Rec → Bool) (R : List Rec) (i gs : Nat) (W : World) : Prop where
 f : Fresh w W
 o : OwnS W 4 1 (.slice (some ⟨gs, 0, none⟩) R.length R.length) R.length (told p R i)
 n : w.heap.size ≤ gs
theorem StI.new {w W : World} (p : Rec → Bool) {R : List Rec} (f : Fresh w W) (h : R.length ≤ 100000) : StI w p R 0 W.heap.size (W.alloc (.cells (madeCells #[.bool false] R.length) 4)) := by
 refine ⟨f.alloc _, ?_, f.size⟩
 have := OwnS.new_ (size := 1) (n := R.length) (Blk.new W 4 (madeCells #[.bool false] R.length)) (by rw [size_madeCells]; omega) (one_le_maxLen (by omega))
 rw [made_bools] at this
 rw [told_zero]
 exact this
theorem StI.set {w W : World} {p : Rec → Bool} {R : List Rec} {i gs : Nat} (h : StI w p R i gs W) {y : Rec} (hy : R[i]? = some y) : StI w p R (i + 1) gs (W.setCell ⟨gs, i, none⟩ (.bool (p y))) := by
 refine ⟨h.f.setCell (p := ⟨gs, i, none⟩) (fun hlt => by have := h.n; simp at hlt; omega) _, ?_, h.n⟩
 have := h.o.set_ i (.bool (p y)) (by rw [told_len]; exact (List.getElem?_eq_some_iff.1 hy).1)
 rw [told_set p R i y hy, Nat.zero_add] at this
 exact this
theorem StI.fresh {w W W' : World} {p : Rec → Bool} {R : List Rec} {i gs : Nat} (h : StI w p R i gs W) (f : Fresh W W') : StI w p R i gs W' := ⟨h.f.step f (fun _ _ h => h), h.o.fresh f, h.n⟩
theorem make_bools (n : Nat) (hn : n ≤ 100000) : ∀ w : World, (Instr.makeSlice 106 (.int .i64 (n : Int)) (.int .i64 (n : Int))).run Tryz.prog w = .ok (.slice (some ⟨w.heap.size, 0, none⟩) n n) (w.alloc (.cells (madeCells #[.bool false] n) 4)) := fun w => by
 obtain ⟨i0, hi, hz0, hz1, hz2⟩ := info_parts info_bool
 have := run_make (P := Tryz.prog) w 106 4 i0 _ Tryz.underlying106 hi hz0 .i64 .i64 n n (by omega) (by omega) (by rw [hz2]; omega) (by omega)
 rw [hz1] at this
 simp only [Int.toNat_natCast, Nat.mul_one] at this
 exact this
def awayP (k a : Int) (r : Rec) : Bool := if k = 0 then decide (r.1.t < a) else decide (a ≤ r.1.t) || (r.2 != decide (k = 2))
def RAwayP (g : Nat) (v1 v2 : Value) (p : Rec → Bool) (R : List Rec) (w : World) (e : Ending) (w' : World) : Prop :=
 ∃ v s v1' v2', e = .returned v ∧ SrtS s ∧ s.Perm (evs (goneR p R)) ∧ OwnS w' 43 8 v s.length (rcells (s.map (fun e => (e, true)))) ∧ ORQ w' g v1' v2' (keepR p R) ∧ RTurn w w' g v1 v2 v1' v2' ∧ ∀ k, v.ownBlock = some k → w.heap.size ≤ k
theorem raway_any (g : Nat) (v1 v2 : Value) (k a : Int) (R : List Rec) (w : World) (h : ORQ w g v1 v2 R) (hl : R.length ≤ 100000) :
  Calls Tryz.prog 121 #[.pointer (some ⟨g, 0, none⟩), .int .i64 k, .int .i64 a] w (RAwayP g v1 v2 (awayP k a) R w) := by
 have H := Lib.hid h
 obtain ⟨A1, c1, rfl, hc1, hm1⟩ := h.o1.shape
 obtain ⟨A2, c2, rfl, hc2, hm2⟩ := h.o2.shape
 have hm1 : c1 ≤ 9223372036854775807 := by unfold maxLen at hm1; omega
 have hmk := make_bools R.length hl
 have cq := h.blk.cell
 have lq := h.blk.lt
 clear h
 go_enter Tryz.func121, Tryz.ntmps121
 go_wp2_with fail
 go_loopg [8] R.length (fun gk u8 wr => ∃ (i : Nat), i ≤ R.length ∧ gk = R.length - i ∧ u8 = .int .i64 i ∧ StI w (awayP k a) R i w.heap.size wr)
 case atStart => exact ⟨0, by omega, rfl, rfl, StI.new _ (Keep.refl _ _) hl⟩
 case round =>
  obtain ⟨i, hi', rfl, rfl, hI⟩ := hrel
  have HI := Lib.hid hI
  have cQ := (H.out.fresh hI.f).blk.cell
  have lQ := (H.out.fresh hI.f).blk.lt
  clear hI
  by_cases hlt : i < R.length
  ·obtain ⟨y, hy⟩ : ∃ y, R[i]? = some y := ⟨_, List.getElem?_eq_getElem hlt⟩
   obtain ⟨g3, off3, _, hv3, hg3, _, _, hcc⟩ := (H.out.o1.fresh HI.out.f).form (by omega)
   injection hv3 with e1 e2 e3
   subst e1 e3
   obtain ⟨_, _, y2, _⟩ := cells_at (evs R) i y.1 (evs_at' hy)
   have y2 := hcc _ _ y2
   rw [← Nat.add_assoc] at y2
   obtain ⟨g4, off4, _, hv4, hg4, _, _, hcb⟩ := (H.out.o2.fresh HI.out.f).form (by omega)
   injection hv4 with f1 f2 f3
   subst f1 f3
   have z0 := hcb _ _ (bools_at hy)
   obtain ⟨lS, fS, _, _, _⟩ := HI.out.o.at_
   obtain ⟨sv, hsv⟩ : ∃ v, (told (awayP k a) R i)[i]? = some v := ⟨_, List.getElem?_eq_getElem (by rw [told_len]; exact hlt)⟩
   have cS := HI.out.o.at_.2.2.2.2 i sv hsv
   rw [Nat.zero_add] at cS
   clear hcc hcb e2 f2 hsv
   by_cases hk0 : k = 0
   ·have tk : (k == 0) = true := by simpa using hk0
    obtain ⟨pb, hpb⟩ : ∃ pb, decide (y.1.t < a) = pb := ⟨_, rfl⟩
    have hp : awayP k a y = pb := by unfold awayP; rw [if_pos hk0]; exact hpb
    clear hk0
    have NX := Lib.hid (HI.out.set hy)
    rw [hp] at NX
    clear hy
    go_wp2_with fail
    go_roundg (R.length - (i + 1))
    case measure => omega
    case rel => exact ⟨i + 1, by omega, rfl, by go_num, NX.out⟩
   ·have tk : (k == 0) = false := by simpa using hk0
    by_cases ha : a ≤ y.1.t
    ·have ta : decide (a ≤ y.1.t) = true := decide_eq_true ha
     have hp : awayP k a y = true := by unfold awayP; rw [if_neg hk0, ta]; rfl
     clear hk0 ha
     have NX := Lib.hid (HI.out.set hy)
     rw [hp] at NX
     clear hy
     go_wp2_with fail
     go_roundg (R.length - (i + 1))
     case measure => omega
     case rel => exact ⟨i + 1, by omega, rfl, by go_num, NX.out⟩
    ·have ta : decide (a ≤ y.1.t) = false := decide_eq_false ha
     by_cases hk2 : k = 2
     ·have tk2 : (k == 2) = true := by simpa using hk2
      cases hb : y.2
      ·have hp : awayP k a y = true := by unfold awayP; rw [if_neg hk0, ta, hb, decide_eq_true hk2]; rfl
       rw [hb] at z0
       clear hk0 ha hk2 hb
       have NX := Lib.hid (HI.out.set hy)
       rw [hp] at NX
       clear hy
       go_wp2_with fail
       go_roundg (R.length - (i + 1))
       case measure => omega
       case rel => exact ⟨i + 1, by omega, rfl, by go_num, NX.out⟩
      ·have hp : awayP k a y = false := by unfold awayP; rw [if_neg hk0, ta, hb, decide_eq_true hk2]; rfl
       rw [hb] at z0
       clear hk0 ha hk2 hb
       have NX := Lib.hid (HI.out.set hy)
       rw [hp] at NX
       clear hy
       go_wp2_with fail
       go_roundg (R.length - (i + 1))
       case measure => omega
       case rel => exact ⟨i + 1, by omega, rfl, by go_num, NX.out⟩
     ·have tk2 : (k == 2) = false := by simpa using hk2
      cases hb : y.2
      ·have hp : awayP k a y = false := by unfold awayP; rw [if_neg hk0, ta, hb, decide_eq_false hk2]; rfl
       rw [hb] at z0
       clear hk0 ha hk2 hb
       have NX := Lib.hid (HI.out.set hy)
       rw [hp] at NX
       clear hy
       go_wp2_with fail
       go_roundg (R.length - (i + 1))
       case measure => omega
       case rel => exact ⟨i + 1, by omega, rfl, by go_num, NX.out⟩
      ·have hp : awayP k a y = true := by unfold awayP; rw [if_neg hk0, ta, hb, decide_eq_false hk2]; rfl
       rw [hb] at z0
       clear hk0 ha hk2 hb
       have NX := Lib.hid (HI.out.set hy)
       rw [hp] at NX
       clear hy
       go_wp2_with fail
       go_roundg (R.length - (i + 1))
       case measure => omega
       case rel => exact ⟨i + 1, by omega, rfl, by go_num, NX.out⟩
  ·obtain rfl : i = R.length := by omega
   have o := HI.out.o
   rw [told_all] at o
   have HT := Lib.hid (ortake_any g _ _ _ (awayP k a) R wr (H.out.fresh HI.out.f) o hl)
   clear o
   go_wp2_with fail
   refine HT.out.mono ?_
   rintro e w2 ⟨vg, v1', v2', rfl, og, rq, rt, ng, _⟩
   rw [← evs_len (goneR (awayP k a) R)] at og
   have hgl : (goneR (awayP k a) R).length ≤ R.length := List.length_filter_le _ _
   have HA := Lib.hid (rantis_any vg _ w2 og.evs (by rw [evs_len]; omega))
   obtain ⟨A5, c5, rfl, _, _⟩ := og.shape
   have RR := Lib.hid rq
   have TT := Lib.hid (RTurn.after HI.out.f rt)
   clear og rq rt HT
   go_wp2_with fail
   refine HA.out.mono ?_
   rintro e w3 ⟨v5, s5, rfl, hs5, hp5, o5, f5, n5⟩
   obtain ⟨A6, c6, rfl, _, _⟩ := o5.shape
   have FIN : Hid (RAwayP g (.slice A1 R.length c1) (.slice A2 R.length c2) (awayP k a) R w (.returned (.slice A6 s5.length c6)) w3) := Lib.hid ⟨_, s5, _, _, rfl, hs5, hp5, o5, RR.out.fresh f5, TT.out.two (RTurn.fresh f5), fun q hq => by have := n5 q hq; have := TT.out.keep.size; omega⟩
   clear hs5 hp5 o5 f5 n5 HA
   go_wp2_with fail
   go_ret
   exact FIN.out
def isNot (x : Ev) (r : Rec) : Bool := !evB r.1 x
def RRetP (g : Nat) (v1 v2 : Value) (x : Ev) (R : List Rec) (w : World) (e : Ending) (w' : World) : Prop :=
 ∃ v1' v2', e = .returned (.bool (decide (0 < (goneR (isNot x) R).length))) ∧ ORQ w' g v1' v2' (keepR (isNot x) R) ∧ RTurn w w' g v1 v2 v1' v2'
theorem rreturn_any (g : Nat) (v1 v2 : Value) (x : Ev) (R : List Rec) (w : World) (h : ORQ w g v1 v2 R) (hl : R.length ≤ 100000) :
  Calls Tryz.prog 123 #[.pointer (some ⟨g, 0, none⟩), x.val] w (RRetP g v1 v2 x R w) := by
 unfold Ev.val
 have H := Lib.hid h
 obtain ⟨A1, c1, rfl, hc1, hm1⟩ := h.o1.shape
 have hm1 : c1 ≤ 9223372036854775807 := by unfold maxLen at hm1; omega
 have hmk := make_bools R.length hl
 have F0 := Lib.hid ((Keep.refl (fun _ => False) w).alloc (.cells #[.int .i64 x.a, .int .i64 x.s, .int .i64 x.t, .int .i64 x.n, .int .i64 x.d, .int .i64 x.k, .int .i64 x.x] 41))
 have BX := Lib.hid (Blk.new w 41 #[.int .i64 x.a, .int .i64 x.s, .int .i64 x.t, .int .i64 x.n, .int .i64 x.d, .int .i64 x.k, .int .i64 x.x])
 have cq := (h.fresh F0.out).blk.cell
 have lq := (h.fresh F0.out).blk.lt
 clear h
 go_enter Tryz.func123, Tryz.ntmps123
 go_wp2_with fail
 go_loopg [6] R.length (fun gk u6 wr => ∃ (i : Nat), i ≤ R.length ∧ gk = R.length - i ∧ u6 = .int .i64 i ∧ StI w (isNot x) R i (w.heap.size + 1) wr ∧ Blk wr w.heap.size 41 #[.int .i64 x.a, .int .i64 x.s, .int .i64 x.t, .int .i64 x.n, .int .i64 x.d, .int .i64 x.k, .int .i64 x.x])
 case atStart => exact ⟨0, by omega, rfl, rfl, by have := StI.new (isNot x) F0.out hl; rw [World.size_alloc] at this; exact this, BX.out.alloc _⟩
 case round =>
  obtain ⟨i, hi', rfl, rfl, hI, hB⟩ := hrel
  have HI := Lib.hid hI
  have HB := Lib.hid hB
  have cQ := (H.out.fresh hI.f).blk.cell
  have lQ := (H.out.fresh hI.f).blk.lt
  clear hI hB
  by_cases hlt : i < R.length
  ·obtain ⟨y, hy⟩ : ∃ y, R[i]? = some y := ⟨_, List.getElem?_eq_getElem hlt⟩
   obtain ⟨g3, off3, _, hv3, hg3, _, _, hcc⟩ := (H.out.o1.fresh HI.out.f).form (by omega)
   injection hv3 with e1 e2 e3
   subst e1 e3
   obtain ⟨y0, y1, y2, y3, y4, y5, y6⟩ := cells_at (evs R) i y.1 (evs_at' hy)
   have y0 := hcc _ _ y0
   have y1 := hcc _ _ y1
   have y2 := hcc _ _ y2
   have y3 := hcc _ _ y3
   have y4 := hcc _ _ y4
   have y5 := hcc _ _ y5
   have y6 := hcc _ _ y6
   rw [← Nat.add_assoc] at y1 y2 y3 y4 y5 y6
   have cX := HB.out.cell
   have lX := HB.out.lt
   obtain ⟨lS, fS, _, _, _⟩ := HI.out.o.at_
   obtain ⟨sv, hsv⟩ : ∃ v, (told (isNot x) R i)[i]? = some v := ⟨_, List.getElem?_eq_getElem (by rw [told_len]; exact hlt)⟩
   have cS := HI.out.o.at_.2.2.2.2 i sv hsv
   rw [Nat.zero_add] at cS
   have NX := Lib.hid (HI.out.set hy)
   have NB : Hid (Blk (wr.setCell ⟨w.heap.size + 1, i, none⟩ (.bool (isNot x y))) w.heap.size 41 #[.int .i64 x.a, .int .i64 x.s, .int .i64 x.t, .int .i64 x.n, .int .i64 x.d, .int .i64 x.k, .int .i64 x.x]) := Lib.hid (HB.out.keep ((Keep.refl (fun q => q = w.heap.size + 1) wr).setCell (p := ⟨w.heap.size + 1, i, none⟩) (fun _ => rfl) _) (by omega))
   obtain ⟨pb, hpb⟩ : ∃ pb, isNot x y = pb := ⟨_, rfl⟩
   rw [hpb] at NX NB
   have hpb' := hpb
   unfold isNot evB at hpb'
   clear hcc e2 hsv hy hpb
   go_wp2_with fail
   go_region
   go_wp2_with fail
   go_roundg (R.length - (i + 1))
   case measure => omega
   case rel => exact ⟨i + 1, by omega, rfl, by go_num, NX.out.fresh (Keep.drew (Keep.refl _ _)), NB.out.drew⟩
  ·obtain rfl : i = R.length := by omega
   have o := HI.out.o
   rw [told_all] at o
   have HT := Lib.hid (ortake_any g _ _ _ (isNot x) R wr (H.out.fresh HI.out.f) o hl)
   clear o
   go_wp2_with fail
   refine HT.out.mono ?_
   rintro e w2 ⟨vg, v1', v2', rfl, og, rq, rt, ng, _⟩
   obtain ⟨A5, c5, rfl, _, _⟩ := og.shape
   have RR := Lib.hid rq
   have TT := Lib.hid (RTurn.after HI.out.f rt)
   obtain ⟨N, hN⟩ : ∃ N, (goneR (isNot x) R).length = N := ⟨_, rfl⟩
   have FIN : Hid (RRetP g (.slice A1 R.length c1) v2 x R w (.returned (.bool (decide (0 < N)))) w2) := Lib.hid ⟨_, _, by rw [hN], RR.out, TT.out⟩
   rw [hN]
   clear og rq rt HT hN
   have hdd : decide ((0 : Int) < (N : Int)) = decide (0 < N) := by by_cases h : 0 < N <;> simp [h]
   go_wp2_with fail
   go_ret
   exact FIN.out
theorem ORQ.mark {w : World} {g g4 off4 c : Nat} {v1 : Value} {R : List Rec} (h : ORQ w g v1 (.slice (some ⟨g4, off4, none⟩) R.length c) R) {i : Nat} {y : Rec} (hy : R[i]? = some y) (b : Bool) :
  ORQ (w.setCell ⟨g4, off4 + i, none⟩ (.bool b)) g v1 (.slice (some ⟨g4, off4, none⟩) R.length c) (R.set i (y.1, b)) := by
 have hi := (List.getElem?_eq_some_iff.1 hy).1
 have e1 : evs (R.set i (y.1, b)) = evs R := by
  unfold evs
  rw [List.map_set]
  apply List.ext_getElem?
  intro j
  rw [List.getElem?_set]
  split
  ·rename_i h1
   subst h1
   rw [List.length_map, if_pos hi, List.getElem?_map, hy]
   rfl
  ·rfl
 have e2 : bools (R.set i (y.1, b)) = (bools R).set i (.bool b) := by
  unfold bools
  rw [List.map_set]
 have k : Keep (fun q => q = g4) w (w.setCell ⟨g4, off4 + i, none⟩ (.bool b)) := (Keep.refl (fun q => q = g4) w).setCell (p := ⟨g4, off4 + i, none⟩) (fun _ => rfl) _
 refine ⟨h.blk.keep k (fun he => h.n2 (by rw [he]; rfl)), ?_, ?_⟩
 ·rw [List.length_set, e1]
  exact h.o1.kept k (fun q hq he => h.n12 q hq (by rw [he]; rfl))
 ·rw [List.length_set, e2]
  exact h.o2.set_ i (.bool b) (by simp [bools]; exact hi)
def RDoubtP (g : Nat) (v1 v2 : Value) (a : Int) (R : List Rec) (w : World) (e : Ending) (w' : World) : Prop :=
 e = .returned (.tuple #[]) ∧ ORQ w' g v1 v2 (doubt a R) ∧ RTurn w w' g v1 v2 v1 v2
theorem doubt_step_ (a : Int) (R : List Rec) (i : Nat) (y : Rec) (h : R[i]? = some y) (ha : a ≤ y.1.t) : (doubt a (R.take i) ++ R.drop i).set i (y.1, false) = doubt a (R.take (i + 1)) ++ R.drop (i + 1) := by
 have hi := (List.getElem?_eq_some_iff.1 h).1
 have hy := (List.getElem?_eq_some_iff.1 h).2
 rw [List.take_add_one, h, Option.toList_some, List.drop_eq_getElem_cons hi, hy]
 have hl : (doubt a (R.take i)).length = i := by simp [doubt]; omega
 rw [List.set_append_right _ _ (by omega), hl, Nat.sub_self]
 simp [doubt, ha]
theorem doubt_skip_ (a : Int) (R : List Rec) (i : Nat) (y : Rec) (h : R[i]? = some y) (ha : ¬ a ≤ y.1.t) : doubt a (R.take i) ++ R.drop i = doubt a (R.take (i + 1)) ++ R.drop (i + 1) := by
 have hi := (List.getElem?_eq_some_iff.1 h).1
 have hy := (List.getElem?_eq_some_iff.1 h).2
 rw [List.take_add_one, h, Option.toList_some, List.drop_eq_getElem_cons hi, hy]
 simp [doubt, ha]
theorem doubt_at_ (a : Int) (R : List Rec) (i : Nat) (y : Rec) (h : R[i]? = some y) : (doubt a (R.take i) ++ R.drop i)[i]? = some y := by
 have hi := (List.getElem?_eq_some_iff.1 h).1
 have hl : (doubt a (R.take i)).length = i := by simp [doubt]; omega
 rw [List.getElem?_append_right (by omega), hl, Nat.sub_self, List.getElem?_drop, Nat.add_zero, h]
theorem doubt_len_ (a : Int) (R : List Rec) (i : Nat) (hi : i ≤ R.length) : (doubt a (R.take i) ++ R.drop i).length = R.length := by simp [doubt]; omega
theorem rdoubt_any (g : Nat) (v1 v2 : Value) (a : Int) (R : List Rec) (w : World) (h : ORQ w g v1 v2 R) (hl : R.length ≤ 100000) :
  Calls Tryz.prog 142 #[.pointer (some ⟨g, 0, none⟩), .int .i64 a] w (RDoubtP g v1 v2 a R w) := by
 have H := Lib.hid h
 obtain ⟨A1, c1, rfl, hc1, hm1⟩ := h.o1.shape
 obtain ⟨A2, c2, rfl, hc2, hm2⟩ := h.o2.shape
 have hm1 : c1 ≤ 9223372036854775807 := by unfold maxLen at hm1; omega
 clear h
 go_enter Tryz.func142, Tryz.ntmps142
 go_wp2_with fail
 go_loopg [4] R.length (fun gk u4 wr => ∃ (i : Nat), i ≤ R.length ∧ gk = R.length - i ∧ u4 = .int .i64 i ∧ ORQ wr g (.slice A1 R.length c1) (.slice A2 R.length c2) (doubt a (R.take i) ++ R.drop i) ∧ RTurn w wr g (.slice A1 R.length c1) (.slice A2 R.length c2) (.slice A1 R.length c1) (.slice A2 R.length c2))
 case atStart => exact ⟨0, by omega, rfl, rfl, by simpa [doubt] using H.out, RTurn.fresh (Keep.refl _ _)⟩
 case round =>
  obtain ⟨i, hi', rfl, rfl, hQ, hT⟩ := hrel
  have HQ := Lib.hid hQ
  have HT := Lib.hid hT
  have cQ := hQ.blk.cell
  have lQ := hQ.blk.lt
  clear hQ hT
  by_cases hlt : i < R.length
  ·obtain ⟨y, hy⟩ : ∃ y, R[i]? = some y := ⟨_, List.getElem?_eq_getElem hlt⟩
   have hya := doubt_at_ a R i y hy
   have hln := doubt_len_ a R i hi'
   obtain ⟨g3, off3, _, hv3, hg3, _, _, hcc⟩ := HQ.out.o1.form (by omega)
   injection hv3 with e1 e2 e3
   subst e1 e3
   obtain ⟨_, _, y2, _⟩ := cells_at _ i y.1 (evs_at' hya)
   have y2 := hcc _ _ y2
   rw [← Nat.add_assoc] at y2
   by_cases ha : a ≤ y.1.t
   ·have ta : decide (a ≤ y.1.t) = true := decide_eq_true ha
    obtain ⟨g4, off4, _, hv4, hg4, _, _, hcb⟩ := HQ.out.o2.form (by omega)
    injection hv4 with f1 f2 f3
    subst f1 f3
    have z0 := hcb _ _ (bools_at hya)
    have q2 := HQ.out
    rw [← hln] at q2
    have q3 := q2.mark hya false
    rw [hln] at q3
    rw [doubt_step_ a R i y hy ha] at q3
    have NQ := Lib.hid q3
    have fz := q2.o2.at_.2.1
    have NT : Hid (RTurn w (wr.setCell ⟨g4, off4 + i, none⟩ (.bool false)) g (.slice (some ⟨g3, off3, none⟩) R.length c1) (.slice (some ⟨g4, off4, none⟩) R.length c2) (.slice (some ⟨g3, off3, none⟩) R.length c1) (.slice (some ⟨g4, off4, none⟩) R.length c2)) := Lib.hid (HT.out.two ⟨(Keep.refl _ wr).setCell (p := ⟨g4, off4 + i, none⟩) (fun _ => .inr (.inr rfl)) _, fun _ h => .inl h⟩)
    clear hcc hcb e2 f2 hy hya q2 q3 ha hln
    go_wp2_with fail
    go_roundg (R.length - (i + 1))
    case measure => omega
    case rel => exact ⟨i + 1, by omega, rfl, by go_num, NQ.out, NT.out⟩
   ·have ta : decide (a ≤ y.1.t) = false := decide_eq_false ha
    have NQ := Lib.hid (doubt_skip_ a R i y hy ha ▸ HQ.out)
    clear hcc e2 hy hya ha hln
    go_wp2_with fail
    go_roundg (R.length - (i + 1))
    case measure => omega
    case rel => exact ⟨i + 1, by omega, rfl, by go_num, NQ.out, HT.out⟩
  ·obtain rfl : i = R.length := by omega
   have q := HQ.out
   rw [List.take_length, List.drop_length, List.append_nil] at q
   have QQ := Lib.hid q
   clear q
   go_wp2_with fail
   go_returns
   exact ⟨rfl, QQ.out, HT.out⟩
end Go.Proofs.YthbcdkeammhakaaGreat
