/- Chapter 13: PBatchP, PROft, LpA, LpB, LpC, LpD. -/
import Derived.Test.YthbcdkeammhakaaGreatP25
import Derived.Test.YthbcdkeammhakaaGreatP10
import Derived.Test.YthbcdkeammhakaaGreatP11
import Derived.Test.YthbcdkeammhakaaGreatP24
set_option maxRecDepth 100000
set_option maxHeartbeats 16000000
namespace Go.Proofs.YthbcdkeammhakaaGreat
open Go.RowKit
theorem evLt_a {p q : Ev} (h : evLt q p = false) : p.a ≤ q.a := by
 apply Classical.byContradiction
 intro hn
 have : evLt q p = true := by
  unfold evLt
  rw [if_pos (by omega)]
  exact decide_eq_true (by omega)
 rw [this] at h
 cases h
theorem Srt.asc {l : List Ev} (h : Srt l) : l.Pairwise (fun p q => p.a ≤ q.a) := List.Pairwise.imp evLt_a h
def upTo (l : List Ev) (t : Int) : List Ev := l.filter (fun z => decide (z.a ≤ t))
def atT (l : List Ev) (t : Int) : List Ev := l.filter (fun y => y.a == t)
theorem filt_none {l : List Ev} {p : Ev → Bool} (h : ∀ z ∈ l, p z = false) : l.filter p = [] := List.filter_eq_nil_iff.2 fun z hz => by simp [h z hz]
theorem next_some {l : List Ev} (h : Srt l) {t : Int} {y : Ev} (hy : nextE l t = some y) : y ∈ l ∧ t < y.a ∧ (∀ z ∈ l, t < z.a → y.a ≤ z.a) := by
 unfold nextE at hy
 have h1 := List.find?_some hy
 have h2 := List.mem_of_find?_eq_some hy
 refine ⟨h2, of_decide_eq_true h1, fun z hz hlt => ?_⟩
 rw [List.find?_eq_some_iff_append] at hy
 obtain ⟨_, la, lb, hl, has⟩ := hy
 subst hl
 have hp := h.asc
 rcases List.mem_append.1 hz with hz | hz
 ·have := has z hz
  simp at this
  omega
 ·rcases List.mem_cons.1 hz with rfl | hz
  ·omega
  ·exact (List.pairwise_cons.1 (List.pairwise_append.1 hp).2.1).1 z hz
end Go.Proofs.YthbcdkeammhakaaGreat
namespace Go.Proofs.YthbcdkeammhakaaGreat
open Go.RowKit
attribute [local go_sem ↓] Go.wp_at_zero Go.wp_at_succ
attribute [local go_sem ↓] run_eql_ev
theorem often_any (v : Value) (l : List Ev) (x : Ev) (w : World) (hv : EvAt w v l) (hl : l.length ≤ 100000) :
  Calls Tryz.prog 122 #[v, x.val] w fun e w' => e = .returned (.int .i64 (cnt l x : Nat)) ∧ Fresh w w' := by
 obtain ⟨A, c, rfl, hv⟩ := hv
 have HV := Lib.hid hv
 have F0 : Hid (Fresh w (w.alloc (.cells #[.int .i64 x.a, .int .i64 x.s, .int .i64 x.t, .int .i64 x.n, .int .i64 x.d, .int .i64 x.k, .int .i64 x.x] 41))) := Lib.hid ((Keep.refl _ w).alloc _)
 have B0 := Lib.hid (Blk.new w 41 #[.int .i64 x.a, .int .i64 x.s, .int .i64 x.t, .int .i64 x.n, .int .i64 x.d, .int .i64 x.k, .int .i64 x.x])
 clear hv
 unfold Ev.val
 go_enter Tryz.func122, Tryz.ntmps122
 go_wp2_with fail
 obtain ⟨w0, hw0⟩ : ∃ w0, w.alloc (.cells #[.int .i64 x.a, .int .i64 x.s, .int .i64 x.t, .int .i64 x.n, .int .i64 x.d, .int .i64 x.k, .int .i64 x.x] 41) = w0 := ⟨_, rfl⟩
 rw [hw0] at F0 B0 ⊢
 clear hw0
 go_loopg [5, 6] l.length (fun gk u5 u6 wr => ∃ i : Nat, i ≤ l.length ∧ gk = l.length - i ∧ u5 = .int .i64 (cnt (l.take i) x : Nat) ∧ u6 = .int .i64 i ∧ Fresh w0 wr)
 case atStart => exact ⟨0, by omega, rfl, by simp [cnt], rfl, Keep.refl _ _⟩
 case round =>
  obtain ⟨i, hi', rfl, rfl, rfl, hF⟩ := hrel
  have HF := Lib.hid hF
  have FW : Hid (Fresh w wr) := Lib.hid (F0.out.step hF (fun _ _ h => h))
  have cx := (hF.blk_ B0.out).cell
  have lx := (hF.blk_ B0.out).lt
  clear hF
  by_cases hlt : i < l.length
  ·obtain ⟨y, hy⟩ : ∃ y, l[i]? = some y := ⟨_, List.getElem?_eq_getElem hlt⟩
   obtain ⟨b0, off, rfl, lt0, hO⟩ := HV.out i y hy
   have y0 := FW.out.cell_ (hO 0 (.int .i64 y.a) rfl)
   have y1 := FW.out.cell_ (hO 1 (.int .i64 y.s) rfl)
   have y2 := FW.out.cell_ (hO 2 (.int .i64 y.t) rfl)
   have y3 := FW.out.cell_ (hO 3 (.int .i64 y.n) rfl)
   have y4 := FW.out.cell_ (hO 4 (.int .i64 y.d) rfl)
   have y5 := FW.out.cell_ (hO 5 (.int .i64 y.k) rfl)
   have y6 := FW.out.cell_ (hO 6 (.int .i64 y.x) rfl)
   rw [Nat.add_zero] at y0
   have lb0 : b0 < wr.heap.size := Nat.lt_of_lt_of_le lt0 FW.out.size
   have hs : cnt (l.take (i + 1)) x = cnt (l.take i) x + (if evB y x then 1 else 0) := by
    unfold cnt
    rw [List.take_add_one, hy, Option.toList_some, List.countP_append, List.countP_singleton]
   have hle : cnt (l.take i) x ≤ i := Nat.le_trans List.countP_le_length (List.length_take_le _ _)
   obtain ⟨N, hN⟩ : ∃ N, cnt (l.take i) x = N := ⟨_, rfl⟩
   rw [hN] at hs hle ⊢
   have HS := Lib.hid hs
   clear hO hy lt0 hs hN
   cases hq : evB y x
   ·rw [hq] at HS
    unfold evB at hq
    go_wp2_with fail
    go_quiet (fail)
    go_wp2_with fail
    go_roundg (l.length - (i + 1))
    case measure => omega
    case rel => exact ⟨i + 1, by omega, rfl, by rw [HS.out]; rfl, by go_num, HF.out.drewN _⟩
   ·rw [hq] at HS
    unfold evB at hq
    go_wp2_with fail
    go_quiet (fail)
    go_wp2_with fail
    go_roundg (l.length - (i + 1))
    case measure => omega
    case rel => exact ⟨i + 1, by omega, rfl, by rw [HS.out]; go_num, by go_num, HF.out.drewN _⟩
  ·obtain rfl : i = l.length := by omega
   rw [List.take_length]
   go_wp2_with fail
   go_ret
   exact ⟨rfl, FW.out⟩
def NX (p : List Ev) (a r : Int) : Prop := (r = -1 ∧ ∀ y ∈ p, ¬ a < y.a) ∨ (∃ y ∈ p, a < y.a ∧ r = y.a ∧ ∀ z ∈ p, a < z.a → y.a ≤ z.a)
theorem NX.snoc {p : List Ev} {a r : Int} (h : NX p a r) {y : Ev} (hr : ∀ z ∈ p, 0 ≤ z.a) : NX (p ++ [y]) a (if a < y.a ∧ (r < 0 ∨ y.a < r) then y.a else r) := by
 rcases h with ⟨rfl, h⟩ | ⟨u, hu, h1, rfl, h2⟩
 ·by_cases hy : a < y.a
  ·rw [if_pos ⟨hy, .inl (by omega)⟩]
   refine .inr ⟨y, by simp, hy, rfl, fun z hz hlt => ?_⟩
   rcases List.mem_append.1 hz with hz | hz
   ·exact absurd hlt (h z hz)
   ·rw [List.mem_singleton.1 hz]; omega
  ·rw [if_neg (fun hh => hy hh.1)]
   refine .inl ⟨rfl, fun z hz => ?_⟩
   rcases List.mem_append.1 hz with hz | hz
   ·exact h z hz
   ·rw [List.mem_singleton.1 hz]; exact hy
 ·have h0 := hr u hu
  by_cases hy : a < y.a ∧ (u.a < 0 ∨ y.a < u.a)
  ·rw [if_pos hy]
   refine .inr ⟨y, by simp, hy.1, rfl, fun z hz hlt => ?_⟩
   rcases List.mem_append.1 hz with hz | hz
   ·have := h2 z hz hlt; omega
   ·rw [List.mem_singleton.1 hz]; omega
  ·rw [if_neg hy]
   refine .inr ⟨u, by simp [hu], h1, rfl, fun z hz hlt => ?_⟩
   rcases List.mem_append.1 hz with hz | hz
   ·exact h2 z hz hlt
   ·rw [List.mem_singleton.1 hz] at hlt ⊢; omega
theorem NX.of {L l : List Ev} {a r : Int} (h : NX L a r) (p : L.Perm l) (s : Srt l) : r = match nextE l a with
  | some y => y.a
  | none => -1 := by
 cases hn : nextE l a with
 | none =>
  unfold nextE at hn
  rw [List.find?_eq_none] at hn
  rcases h with ⟨rfl, _⟩ | ⟨y, hy, h1, _, _⟩
  ·rfl
  ·have := hn y (p.mem_iff.1 hy)
   simp at this
   omega
 | some u =>
  obtain ⟨h1, h2, h3⟩ := next_some s hn
  rcases h with ⟨rfl, h⟩ | ⟨y, hy, h4, rfl, h5⟩
  ·exact absurd h2 (h u (p.mem_iff.2 h1))
  ·have := h3 y (p.mem_iff.1 hy) h4
   have := h5 u (p.mem_iff.2 h1) h2
   show y.a = u.a
   omega
theorem rnext_any (g : Nat) (v1 v2 : Value) (L B : List Ev) (a : Int) (w : World) (h : RQ w g v1 v2 L B) (hl : L.length ≤ 100000) (hp : ∀ z ∈ L, 0 ≤ z.a) :
  Calls Tryz.prog 47 #[.pointer (some ⟨g, 0, none⟩), .int .i64 a] w fun e w' => ∃ r, e = .returned (.int .i64 r) ∧ NX L a r ∧ Fresh w w' := by
 have H := Lib.hid h
 have HP := Lib.hid hp
 obtain ⟨A1, c1, rfl, hc1, hm1⟩ := h.own1.shape
 have hm1 : c1 ≤ 9223372036854775807 := by unfold maxLen at hm1; omega
 clear h hp
 go_enter Tryz.func47, Tryz.ntmps47
 go_wp2_with fail
 go_loopg [5, 6] L.length (fun gk u5 u6 wr => ∃ (i : Nat) (r : Int), i ≤ L.length ∧ gk = L.length - i ∧ u5 = .int .i64 r ∧ u6 = .int .i64 i ∧ NX (L.take i) a r ∧ Fresh w wr)
 case atStart => exact ⟨0, -1, by omega, rfl, rfl, rfl, .inl ⟨rfl, by simp⟩, Keep.refl _ _⟩
 case round =>
  obtain ⟨i, r, hi', rfl, rfl, rfl, hN, hF⟩ := hrel
  have HN := Lib.hid hN
  have HF := Lib.hid hF
  have cQ := (H.out.fresh hF).blk.cell
  have lQ := (H.out.fresh hF).blk.lt
  clear hF hN
  by_cases hlt : i < L.length
  ·obtain ⟨y, hy⟩ : ∃ y, L[i]? = some y := ⟨_, List.getElem?_eq_getElem hlt⟩
   obtain ⟨g3, off3, _, hv3, hg3, _, _, hcc⟩ := (H.out.own1.fresh HF.out).form (by omega)
   injection hv3 with e1 e2 e3
   subst e1 e3
   have y0 := hcc _ _ (cells_at L i y hy).1
   have NXT := Lib.hid (HN.out.snoc (y := y) (fun z hz => HP.out z (List.mem_of_mem_take hz)))
   have HT := Lib.hid (show L.take i ++ [y] = L.take (i + 1) by rw [List.take_add_one, hy]; rfl)
   clear hcc hy e2
   by_cases h1 : a < y.a
   ·have t1 : decide (a < y.a) = true := decide_eq_true h1
    by_cases h2 : r < 0
    ·have t2 : decide (r < 0) = true := decide_eq_true h2
     have NX2 : Hid (NX (L.take (i + 1)) a y.a) := Lib.hid (by have := NXT.out; rw [if_pos ⟨h1, .inl h2⟩, HT.out] at this; exact this)
     clear h1 h2
     go_wp2_with fail
     go_roundg (L.length - (i + 1))
     case measure => omega
     case rel => exact ⟨i + 1, y.a, by omega, rfl, rfl, by go_num, NX2.out, HF.out⟩
    ·have t2 : decide (r < 0) = false := decide_eq_false h2
     by_cases h3 : y.a < r
     ·have t3 : decide (y.a < r) = true := decide_eq_true h3
      have NX2 : Hid (NX (L.take (i + 1)) a y.a) := Lib.hid (by have := NXT.out; rw [if_pos ⟨h1, .inr h3⟩, HT.out] at this; exact this)
      clear h1 h2 h3
      go_wp2_with fail
      go_roundg (L.length - (i + 1))
      case measure => omega
      case rel => exact ⟨i + 1, y.a, by omega, rfl, rfl, by go_num, NX2.out, HF.out⟩
     ·have t3 : decide (y.a < r) = false := decide_eq_false h3
      have NX2 : Hid (NX (L.take (i + 1)) a r) := Lib.hid (by have := NXT.out; rw [if_neg (fun hh => by rcases hh.2 with hh | hh; exact h2 hh; exact h3 hh), HT.out] at this; exact this)
      clear h1 h2 h3
      go_wp2_with fail
      go_roundg (L.length - (i + 1))
      case measure => omega
      case rel => exact ⟨i + 1, r, by omega, rfl, rfl, by go_num, NX2.out, HF.out⟩
   ·have t1 : decide (a < y.a) = false := decide_eq_false h1
    have NX2 : Hid (NX (L.take (i + 1)) a r) := Lib.hid (by have := NXT.out; rw [if_neg (fun hh => h1 hh.1), HT.out] at this; exact this)
    clear h1
    go_wp2_with fail
    go_roundg (L.length - (i + 1))
    case measure => omega
    case rel => exact ⟨i + 1, r, by omega, rfl, rfl, by go_num, NX2.out, HF.out⟩
  ·obtain rfl : i = L.length := by omega
   have hn := HN.out
   rw [List.take_length] at hn
   have HN2 := Lib.hid hn
   clear hn
   go_wp2_with fail
   go_ret
   exact ⟨r, rfl, HN2.out, HF.out⟩
structure GI (w : World) (l : List Ev) (v : Value) (wr : World) : Prop where
 f : Fresh w wr
 o : OwnS wr 41 7 v l.length (cells l)
 n : ∀ k, v.ownBlock = some k → w.heap.size ≤ k
theorem GI.app {w wr w2 : World} {l bq : List Ev} {v v' : Value} (h : GI w l v wr) (o : OwnS w2 41 7 v' (l.length + bq.length) (cells l ++ cells bq)) {W : World} (fW : Fresh wr W) (k : Keep (fun k => v.ownBlock = some k) W w2) (n : ∀ i, v'.ownBlock = some i → v.ownBlock = some i ∨ W.heap.size ≤ i) : GI w (l ++ bq) v' w2 :=
 ⟨(h.f.step fW (fun _ _ h => h)).step k (fun i hi e => by have := h.n i e; omega), by rw [List.length_append, cells_append]; exact o, fun i hi => by
  rcases n i hi with h1 | h1
  ·exact h.n i h1
  ·have := h.f.size; have := fW.size; omega⟩
theorem rbatch_any (g : Nat) (v1 v2 : Value) (L B : List Ev) (a : Int) (w : World) (h : RQ w g v1 v2 L B) (hl : L.length ≤ 100000) :
  Calls Tryz.prog 49 #[.pointer (some ⟨g, 0, none⟩), .int .i64 a] w (SortP (atT L a) w) := by
 have H := Lib.hid h
 obtain ⟨A1, c1, rfl, hc1, hm1⟩ := h.own1.shape
 have hm1 : c1 ≤ 9223372036854775807 := by unfold maxLen at hm1; omega
 clear h
 obtain ⟨i0, hi, hz0, hz1, hz2⟩ := info_parts info_ev
 have h07 : Hid (0 < 7) := Lib.hid (by omega)
 go_enter Tryz.func49, Tryz.ntmps49
 go_wp2_with fail
 go_loopg [5, 6] L.length (fun gk u5 u6 wr => ∃ (i : Nat) (v : Value), i ≤ L.length ∧ gk = L.length - i ∧ u5 = v ∧ u6 = .int .i64 i ∧ GI w (atT (L.take i) a) v wr)
 case atStart => exact ⟨0, _, by omega, rfl, rfl, rfl, ⟨Keep.refl _ _, OwnS.nil _ _ _, by simp [Value.ownBlock]⟩⟩
 case round =>
  obtain ⟨i, v, hi', rfl, rfl, rfl, hG⟩ := hrel
  have HG := Lib.hid hG
  have cQ := (H.out.fresh hG.f).blk.cell
  have lQ := (H.out.fresh hG.f).blk.lt
  obtain ⟨Av, cv, rfl, hcv, hmv⟩ := hG.o.shape
  have hgl : (atT (L.take i) a).length ≤ L.length := Nat.le_trans (List.length_filter_le _ _) (by rw [List.length_take]; omega)
  clear hG
  by_cases hlt : i < L.length
  ·obtain ⟨y, hy⟩ : ∃ y, L[i]? = some y := ⟨_, List.getElem?_eq_getElem hlt⟩
   obtain ⟨g3, off3, _, hv3, hg3, _, _, hcc⟩ := (H.out.own1.fresh HG.out.f).form (by omega)
   injection hv3 with e1 e2 e3
   subst e1 e3
   obtain ⟨y0, y1, y2, y3, y4, y5, y6⟩ := cells_at L i y hy
   have y0 := hcc _ _ y0
   have y1 := hcc _ _ y1
   have y2 := hcc _ _ y2
   have y3 := hcc _ _ y3
   have y4 := hcc _ _ y4
   have y5 := hcc _ _ y5
   have y6 := hcc _ _ y6
   rw [← Nat.add_assoc] at y1 y2 y3 y4 y5 y6
   have HT : Hid (atT (L.take (i + 1)) a = atT (L.take i) a ++ (if (y.a == a) = true then [y] else [])) := Lib.hid (by
    unfold atT
    rw [List.take_add_one, hy, Option.toList_some, List.filter_append]
    congr 1
    cases hh : (y.a == a) <;> simp [List.filter, hh])
   clear hcc hy e2
   cases hq : (y.a == a)
   ·rw [hq] at HT
    have HT2 : Hid (atT (L.take (i + 1)) a = atT (L.take i) a) := Lib.hid (HT.out.trans (by simp))
    go_wp2_with fail
    go_roundg (L.length - (i + 1))
    case measure => omega
    case rel => exact ⟨i + 1, _, by omega, rfl, rfl, by go_num, by rw [HT2.out]; exact HG.out⟩
   ·rw [hq] at HT
    have HT2 : Hid (atT (L.take (i + 1)) a = atT (L.take i) a ++ [y]) := Lib.hid (HT.out.trans (by simp))
    have hL1 : (atT (L.take i) a).length + 1 ≤ maxLen := one_le_maxLen (by omega)
    have hL2 : ((atT (L.take i) a).length + 1) * 56 ≤ 140737488355328 := by omega
    have S2 : Hid (Src (wr.alloc (.cells #[.int .i64 y.a, .int .i64 y.s, .int .i64 y.t, .int .i64 y.n, .int .i64 y.d, .int .i64 y.k, .int .i64 y.x] 41)) 7 (.slice (some ⟨wr.heap.size, 0, none⟩) 1 1) 1 (cells [y])) := Lib.hid (Src.one_new wr 41 7 #[.int .i64 y.a, .int .i64 y.s, .int .i64 y.t, .int .i64 y.n, .int .i64 y.d, .int .i64 y.k, .int .i64 y.x] rfl)
    have fA : Hid (Fresh wr (wr.alloc (.cells #[.int .i64 y.a, .int .i64 y.s, .int .i64 y.t, .int .i64 y.n, .int .i64 y.d, .int .i64 y.k, .int .i64 y.x] 41))) := Lib.hid ((Keep.refl _ wr).alloc _)
    go_wp2_with (at_builtin; refine wpList_append_OwnS _ rfl (.tmp 27) (.tmp 35) 24 rfl 41 i0 (.agg #[.int .i64 0, .int .i64 0, .int .i64 0, .int .i64 0, .int .i64 0, .int .i64 0, .int .i64 0]) 7 56 Tryz.underlying24 hi hz0 hz1 hz2 rfl h07.out (.slice Av (atT (L.take i) a).length cv) (atT (L.take i) a).length (cells (atT (L.take i) a)) rfl (HG.out.o.alloc _) (.slice (some ⟨wr.heap.size, 0, none⟩) 1 1) 1 (cells [y]) rfl S2.out (cells_one _) hL1 hL2 ?_; intro v4 w4 o4 k4 n4; obtain ⟨A4, cap4, rfl, hc4, hm4⟩ := o4.shape; have G4 := Lib.hid (HG.out.app (bq := [y]) o4 fA.out k4 n4); clear o4 k4 n4)
    go_roundg (L.length - (i + 1))
    case measure => omega
    case rel => exact ⟨i + 1, _, by omega, rfl, rfl, by go_num, by rw [HT2.out]; exact G4.out⟩
  ·obtain rfl : i = L.length := by omega
   rw [List.take_length] at HG hgl ⊢
   have HS := Lib.hid (sort_any _ _ wr HG.out.o.evs (by omega))
   go_wp2_with fail
   refine HS.out.mono ?_
   rintro e w5 ⟨v5, out, rfl, s1, s2, s3, s4, s5⟩
   obtain ⟨A5, c5, rfl, _, _⟩ := s3.shape
   have FIN : Hid (SortP (atT L a) w (.returned (.slice A5 out.length c5)) w5) := Lib.hid ⟨_, out, rfl, s1, s2, s3, HG.out.f.step s4 (fun _ _ h => h), fun k hk => by have := s5 k hk; have := HG.out.f.size; omega⟩
   clear s1 s2 s3 s4 s5
   go_wp2_with fail
   go_ret
   exact FIN.out
end Go.Proofs.YthbcdkeammhakaaGreat
namespace Go.Proofs.YthbcdkeammhakaaGreat
open Go
def bat (l : List Ev) (c : Int) : List Ev := l.filter (fun y => y.a == c)
def nx (l : List Ev) (a : Int) : Option Int := (nextE l a).map (·.a)
abbrev Rul := St → List Ev → St × List Ev
def foldN (R : Rul) : Nat → List Ev → Int → Int → St → Int × St × List Ev
 | 0, _, _, a, s => (a, s, [])
 | n + 1, l, tu, a, s => match nx l a with
  | some c => if c ≤ tu then ((foldN R n l tu c (R s (bat l c)).1).1, (foldN R n l tu c (R s (bat l c)).1).2.1, (R s (bat l c)).2 ++ (foldN R n l tu c (R s (bat l c)).1).2.2) else (a, s, [])
  | none => (a, s, [])
def above (l : List Ev) (a : Int) : Nat := l.countP (fun y => decide (a < y.a))
def foldT (R : Rul) (l : List Ev) (tu a : Int) (s : St) : Int × St × List Ev := foldN R (above l a) l tu a s
theorem nx_some {l : List Ev} (h : Srt l) {a c : Int} (hc : nx l a = some c) : a < c ∧ (∃ y ∈ l, y.a = c) ∧ ∀ z ∈ l, a < z.a → c ≤ z.a := by
 unfold nx at hc
 cases he : nextE l a with
 | none => rw [he] at hc; cases hc
 | some y =>
  rw [he] at hc
  injection hc with hc
  subst hc
  obtain ⟨h1, h2, h3⟩ := next_some h he
  exact ⟨h2, ⟨y, h1, rfl⟩, h3⟩
theorem nx_none {l : List Ev} {a : Int} (hc : nx l a = none) : ∀ z ∈ l, z.a ≤ a := by
 unfold nx at hc
 cases he : nextE l a with
 | none =>
  unfold nextE at he
  intro z hz
  have := List.find?_eq_none.1 he z hz
  simpa using this
 | some y => rw [he] at hc; cases hc
theorem above_lt {l : List Ev} {a c : Int} (hac : a < c) (hy : ∃ y ∈ l, y.a = c) : above l c < above l a := by
 unfold above
 obtain ⟨y, hy, rfl⟩ := hy
 induction l with
 | nil => cases hy
 | cons z l ih =>
  simp only [List.countP_cons]
  rcases List.mem_cons.1 hy with rfl | hy
  ·have : l.countP (fun z => decide (y.a < z.a)) ≤ l.countP (fun z => decide (a < z.a)) := List.countP_mono_left (fun z _ hz => by simp at hz ⊢; omega)
   have h1 : decide (y.a < y.a) = false := by simp
   have h2 : decide (a < y.a) = true := by simpa using hac
   simp only [h1, h2, if_true]
   simp
   omega
  ·have := ih hy
   by_cases h1 : y.a < z.a
   ·have h2 : a < z.a := by omega
    simp only [h1, h2, decide_true, if_true]
    omega
   ·have h1' : decide (y.a < z.a) = false := by simpa using h1
    simp only [h1']
    by_cases h2 : a < z.a
    ·simp only [h2, decide_true, if_true]; simp; omega
    ·have h2' : decide (a < z.a) = false := by simpa using h2
     simp only [h2']; simp; omega
theorem foldN_two (R : Rul) {l : List Ev} (h : Srt l) (tu : Int) : ∀ (n m : Nat) (a : Int) (s : St), above l a ≤ n → above l a ≤ m → foldN R n l tu a s = foldN R m l tu a s := by
 intro n
 induction n with
 | zero =>
  intro m a s hn _
  cases he : nx l a with
  | none => cases m <;> simp only [foldN, he]
  | some c =>
   obtain ⟨h1, h2, _⟩ := nx_some h he
   have := above_lt h1 h2
   omega
 | succ n ih =>
  intro m a s hn hm
  cases he : nx l a with
  | none => cases m <;> simp only [foldN, he]
  | some c =>
   obtain ⟨h1, h2, _⟩ := nx_some h he
   have h3 := above_lt h1 h2
   cases m with
   | zero => omega
   | succ m =>
    by_cases hc : c ≤ tu
    ·simp only [foldN, he, if_pos hc]
     rw [ih m c (R s (bat l c)).1 (by omega) (by omega)]
    ·simp only [foldN, he, if_neg hc]
theorem foldT_step (R : Rul) {l : List Ev} (h : Srt l) {tu a c : Int} {s : St} (he : nx l a = some c) (hc : c ≤ tu) :
  foldT R l tu a s = ((foldT R l tu c (R s (bat l c)).1).1, (foldT R l tu c (R s (bat l c)).1).2.1, (R s (bat l c)).2 ++ (foldT R l tu c (R s (bat l c)).1).2.2) := by
 obtain ⟨h1, h2, _⟩ := nx_some h he
 have h3 := above_lt h1 h2
 have e : foldT R l tu a s = foldN R (above l a - 1 + 1) l tu a s := by
  unfold foldT
  rw [show above l a - 1 + 1 = above l a by omega]
 rw [e]
 simp only [foldN, he, if_pos hc]
 unfold foldT
 rw [foldN_two R h tu (above l a - 1) (above l c) c _ (by omega) (by omega)]
theorem foldT_stop (R : Rul) {l : List Ev} {tu a : Int} {s : St} (he : ∀ c, nx l a = some c → tu < c) : foldT R l tu a s = (a, s, []) := by
 unfold foldT
 cases above l a with
 | zero => rfl
 | succ n =>
  cases hc : nx l a with
  | none => simp only [foldN, hc]
  | some c =>
   have := he c hc
   simp only [foldN, hc]
   rw [if_neg (by omega)]
theorem fold_ind (R : Rul) {l : List Ev} (h : Srt l) (tu : Int) (C : Int → St → Prop)
  (h0 : ∀ a s, (∀ c, nx l a = some c → tu < c) → C a s)
  (h1 : ∀ a s c, nx l a = some c → c ≤ tu → a < c → C c (R s (bat l c)).1 → C a s) : ∀ a s, C a s := by
 have key : ∀ (n : Nat) a s, above l a ≤ n → C a s := by
  intro n
  induction n with
  | zero =>
   intro a s hn
   refine h0 a s fun c hc => ?_
   obtain ⟨g1, g2, _⟩ := nx_some h hc
   have := above_lt g1 g2
   omega
  | succ n ih =>
   intro a s hn
   cases hc : nx l a with
   | none => exact h0 a s fun c hc' => by rw [hc] at hc'; cases hc'
   | some c =>
    obtain ⟨g1, g2, _⟩ := nx_some h hc
    have := above_lt g1 g2
    by_cases hct : c ≤ tu
    ·exact h1 a s c hc hct g1 (ih c _ (by omega))
    ·exact h0 a s fun c' hc' => by
      rw [hc] at hc'
      injection hc' with hc'
      omega
 exact fun a s => key _ a s (Nat.le_refl _)
theorem foldT_lo (R : Rul) {l : List Ev} (h : Srt l) (tu : Int) : ∀ a s, a ≤ (foldT R l tu a s).1 ∧ (a ≤ tu → (foldT R l tu a s).1 ≤ tu) := by
 refine fold_ind R h tu (fun a s => a ≤ (foldT R l tu a s).1 ∧ (a ≤ tu → (foldT R l tu a s).1 ≤ tu)) ?_ ?_
 ·intro a s he
  rw [foldT_stop R he]
  exact ⟨Int.le_refl _, id⟩
 ·intro a s c hc hct hac ih
  rw [foldT_step R h hc hct]
  exact ⟨by have := ih.1; simp only; omega, fun _ => ih.2 hct⟩
theorem foldT_comp (R : Rul) {l : List Ev} (h : Srt l) {tu' tu : Int} (hle : tu' ≤ tu) : ∀ a s, foldT R l tu a s = ((foldT R l tu (foldT R l tu' a s).1 (foldT R l tu' a s).2.1).1, (foldT R l tu (foldT R l tu' a s).1 (foldT R l tu' a s).2.1).2.1, (foldT R l tu' a s).2.2 ++ (foldT R l tu (foldT R l tu' a s).1 (foldT R l tu' a s).2.1).2.2) := by
 refine fold_ind R h tu' (fun a s => foldT R l tu a s = _) ?_ ?_
 ·intro a s he
  rw [foldT_stop R he]
  rfl
 ·intro a s c hc hct hac ih
  rw [foldT_step R h hc hct, foldT_step R h hc (show c ≤ tu by omega), ih]
  simp [List.append_assoc]
theorem foldT_end (R : Rul) {l : List Ev} (h : Srt l) (tu : Int) : ∀ a s, ∀ c, nx l (foldT R l tu a s).1 = some c → tu < c := by
 refine fold_ind R h tu (fun a s => ∀ c, nx l (foldT R l tu a s).1 = some c → tu < c) ?_ ?_
 ·intro a s he
  rw [foldT_stop R he]
  exact he
 ·intro a s c hc hct hac ih
  rw [foldT_step R h hc hct]
  exact ih
theorem foldT_same (R : Rul) {l : List Ev} (h : Srt l) (tu : Int) : ∀ a s, foldT R l (foldT R l tu a s).1 a s = foldT R l tu a s := by
 refine fold_ind R h tu (fun a s => foldT R l (foldT R l tu a s).1 a s = foldT R l tu a s) ?_ ?_
 ·intro a s he
  rw [foldT_stop R he]
  simp only
  rw [foldT_stop R (fun c hc => (nx_some h hc).1)]
 ·intro a s c hc hct hac ih
  rw [foldT_step R h hc hct]
  simp only
  have := (foldT_lo R h tu c (R s (bat l c)).1).1
  rw [foldT_step R h hc this, ih]
theorem nx_cases {l : List Ev} (h : Srt l) (R : Rul) (tu : Int) (s : St) : (foldT R l tu (-1) s).1 = -1 ∨ ∃ e ∈ l, e.a = (foldT R l tu (-1) s).1 := by
 have key : ∀ a s, (foldT R l tu a s).1 = a ∨ ∃ e ∈ l, e.a = (foldT R l tu a s).1 := by
  refine fold_ind R h tu (fun a s => (foldT R l tu a s).1 = a ∨ ∃ e ∈ l, e.a = (foldT R l tu a s).1) ?_ ?_
  ·intro a s he
   rw [foldT_stop R he]
   exact .inl rfl
  ·intro a s c hc hct _ ih
   obtain ⟨_, ⟨y, hy, hyc⟩, _⟩ := nx_some h hc
   rw [foldT_step R h hc hct]
   rcases ih with ih | ih
   ·exact .inr ⟨y, hy, by simp only; rw [ih]; exact hyc⟩
   ·exact .inr ih
 exact key _ _
theorem nextE_filter {l : List Ev} (p : Ev → Bool) {a : Int} (hp : ∀ y ∈ l, a < y.a → p y = true) : nextE (l.filter p) a = nextE l a := by
 unfold nextE
 induction l with
 | nil => rfl
 | cons z l ih =>
  by_cases hz : a < z.a
  ·have h1 := hp z (by simp) hz
   rw [List.filter_cons, if_pos h1, List.find?_cons, List.find?_cons]
   simp only [hz, decide_true]
  ·have hz' : decide (a < z.a) = false := by simpa using hz
   rw [List.filter_cons]
   have := ih (fun y hy => hp y (List.mem_cons_of_mem _ hy))
   split
   ·rw [List.find?_cons, List.find?_cons, hz']; exact this
   ·rw [List.find?_cons, hz']; exact this
end Go.Proofs.YthbcdkeammhakaaGreat
namespace Go.Proofs.YthbcdkeammhakaaGreat
open Go
theorem nx_of_mem {l : List Ev} (h : Srt l) {a : Int} {y : Ev} (hy : y ∈ l) (ha : a < y.a) : ∃ c, nx l a = some c ∧ c ≤ y.a ∧ a < c := by
 cases hc : nx l a with
 | none => have := nx_none hc y hy; omega
 | some c =>
  obtain ⟨h1, _, h3⟩ := nx_some h hc
  exact ⟨c, rfl, h3 y hy ha, h1⟩
theorem bat_filter (l : List Ev) {c tu : Int} (h : c ≤ tu) : bat (l.filter (fun y => decide (y.a ≤ tu))) c = bat l c := by
 unfold bat
 rw [List.filter_filter]
 congr 1
 funext y
 by_cases e : y.a = c
 ·subst e; simp [h]
 ·simp [e]
theorem foldT_congr (R : Rul) {l l' : List Ev} (h : Srt l) (h' : Srt l') {tu : Int} (he : l.filter (fun y => decide (y.a ≤ tu)) = l'.filter (fun y => decide (y.a ≤ tu))) : ∀ a s, foldT R l tu a s = foldT R l' tu a s := by
 have hm : ∀ y : Ev, y.a ≤ tu → (y ∈ l ↔ y ∈ l') := fun y hy => by
  have h1 : y ∈ l.filter (fun y => decide (y.a ≤ tu)) ↔ y ∈ l := by simp [hy]
  have h2 : y ∈ l'.filter (fun y => decide (y.a ≤ tu)) ↔ y ∈ l' := by simp [hy]
  rw [← h1, ← h2, he]
 have hn : ∀ a c, c ≤ tu → nx l a = some c → nx l' a = some c := fun a c hc hx => by
  obtain ⟨h1, ⟨y, hy, rfl⟩, h3⟩ := nx_some h hx
  obtain ⟨c', e1, e2, e3⟩ := nx_of_mem h' ((hm y hc).1 hy) h1
  obtain ⟨g1, ⟨z, hz, rfl⟩, g3⟩ := nx_some h' e1
  have := h3 z ((hm z (by omega)).2 hz) g1
  rw [e1]
  congr 1
  omega
 have hn' : ∀ a c, c ≤ tu → nx l' a = some c → nx l a = some c := fun a c hc hx => by
  obtain ⟨h1, ⟨y, hy, rfl⟩, h3⟩ := nx_some h' hx
  obtain ⟨c', e1, e2, e3⟩ := nx_of_mem h ((hm y hc).2 hy) h1
  obtain ⟨g1, ⟨z, hz, rfl⟩, g3⟩ := nx_some h e1
  have := h3 z ((hm z (by omega)).1 hz) g1
  rw [e1]
  congr 1
  omega
 refine fold_ind R h tu (fun a s => foldT R l tu a s = foldT R l' tu a s) ?_ ?_
 ·intro a s hs
  rw [foldT_stop R hs, foldT_stop R]
  intro c hc
  by_cases hct : c ≤ tu
  ·exact hs c (hn' a c hct hc)
  ·omega
 ·intro a s c hc hct hac ih
  rw [foldT_step R h hc hct, foldT_step R h' (hn a c hct hc) hct]
  have e : bat l c = bat l' c := by rw [← bat_filter l hct, he, bat_filter l' hct]
  rw [← e, ih]
structure Laws (R : Rul) (ok : St → Prop) (sm : Ev → Prop) : Prop where
 run : ∀ s b t, ok s → 0 ≤ t → t ≤ 1073741824 → (∀ e ∈ b, sm e ∧ e.a = t) → ok (R s b).1 ∧ (∀ x ∈ (R s b).2, x.t = t ∧ 0 ≤ x.a ∧ x.a ≤ 1073741824) ∧ (R s b).2.Nodup ∧ (R s b).2.length ≤ b.length
def EvOk (sm : Ev → Prop) (l : List Ev) : Prop := ∀ e ∈ l, sm e ∧ 0 ≤ e.a ∧ e.a ≤ 1073741824
theorem bat_ok {sm : Ev → Prop} {l : List Ev} (h : EvOk sm l) (c : Int) : ∀ e ∈ bat l c, sm e ∧ e.a = c := fun e he => by
 unfold bat at he
 obtain ⟨h1, h2⟩ := List.mem_filter.1 he
 exact ⟨(h e h1).1, by simpa using h2⟩
theorem fold_ok {R : Rul} {ok : St → Prop} {sm : Ev → Prop} (hR : Laws R ok sm) {l : List Ev} (h : Srt l) (he : EvOk sm l) (tu : Int) : ∀ a s, ok s → ok (foldT R l tu a s).2.1 ∧ (foldT R l tu a s).2.2.Nodup ∧ ∀ x ∈ (foldT R l tu a s).2.2, (∃ y ∈ l, y.a = x.t) ∧ a < x.t ∧ x.t ≤ tu ∧ x.t ≤ (foldT R l tu a s).1 ∧ 0 ≤ x.a ∧ x.a ≤ 1073741824 := by
 refine fold_ind R h tu (fun a s => ok s → ok (foldT R l tu a s).2.1 ∧ (foldT R l tu a s).2.2.Nodup ∧ ∀ x ∈ (foldT R l tu a s).2.2, (∃ y ∈ l, y.a = x.t) ∧ a < x.t ∧ x.t ≤ tu ∧ x.t ≤ (foldT R l tu a s).1 ∧ 0 ≤ x.a ∧ x.a ≤ 1073741824) ?_ ?_
 ·intro a s hs hok
  rw [foldT_stop R hs]
  exact ⟨hok, List.nodup_nil, fun x hx => by cases hx⟩
 ·intro a s c hc hct hac ih hok
  obtain ⟨_, ⟨y, hy, hyc⟩, _⟩ := nx_some h hc
  have hyr := (he y hy).2
  obtain ⟨r1, r2, r3, _⟩ := hR.run s (bat l c) c hok (by omega) (by omega) (bat_ok he c)
  obtain ⟨i1, i2, i3⟩ := ih r1
  rw [foldT_step R h hc hct]
  have hlo := (foldT_lo R h tu c (R s (bat l c)).1).1
  refine ⟨i1, ?_, ?_⟩
  ·simp only
   rw [List.nodup_append]
   refine ⟨r3, i2, fun x hx z hz e => ?_⟩
   subst e
   have h1 := (r2 x hx).1
   have h2 := (i3 x hz).2.1
   omega
  ·intro x hx
   simp only at hx ⊢
   rcases List.mem_append.1 hx with hx | hx
   ·obtain ⟨g1, g2, g3⟩ := r2 x hx
    exact ⟨⟨y, hy, by omega⟩, by omega, by omega, by omega, g2, g3⟩
   ·obtain ⟨g1, g2, g3, g4, g5⟩ := i3 x hx
    exact ⟨g1, by omega, g3, g4, g5⟩
theorem sends_split {R : Rul} {ok : St → Prop} {sm : Ev → Prop} (hR : Laws R ok sm) {l : List Ev} (h : Srt l) (he : EvOk sm l) {tu' tu : Int} (hle : tu' ≤ tu) (a : Int) (s : St) (hok : ok s) : ∀ x, x ∈ (foldT R l tu' a s).2.2 ↔ x ∈ (foldT R l tu a s).2.2 ∧ x.t ≤ tu' := by
 intro x
 rw [foldT_comp R h hle a s]
 simp only
 have h1 := fold_ok hR h he tu' a s hok
 have h2 := fold_ok hR h he tu (foldT R l tu' a s).1 (foldT R l tu' a s).2.1 h1.1
 constructor
 ·intro hx
  exact ⟨List.mem_append.2 (.inl hx), (h1.2.2 x hx).2.2.1⟩
 ·rintro ⟨hx, ht⟩
  rcases List.mem_append.1 hx with hx | hx
  ·exact hx
  ·obtain ⟨⟨y, hy, e⟩, g2, _⟩ := h2.2.2 x hx
   obtain ⟨c, c1, c2, c3⟩ := nx_of_mem h hy (by rw [e]; exact g2)
   have := foldT_end R h tu' a s c c1
   omega
end Go.Proofs.YthbcdkeammhakaaGreat
namespace Go.Proofs.YthbcdkeammhakaaGreat
open Go
structure AM where
 l : List Ev
 m : List Ev
 q : List Rec
 now : Int
 freed : Int
structure Cfg where
 R : Rul
 first : St
 id : Int
 lz : Bool
def AM.fold (C : Cfg) (A : AM) : Int × St × List Ev := foldT C.R A.l A.now (-1) C.first
structure InvA (C : Cfg) (sm : Ev → Prop) (A : AM) : Prop where
 sl : Srt A.l
 sm_ : Srt A.m
 sq : RSrt A.q
 ev : EvOk sm A.l
 dis : ∀ x ∈ A.m, x ∉ A.l
 at_ : (A.fold C).1 = A.now
 lo : -1 ≤ A.now
 fr : 0 ≤ A.freed
 sure : ∀ x, (x, true) ∈ A.q ↔ x ∈ (A.fold C).2.2 ∧ A.freed ≤ x.t
 uns : ∀ x, (x, false) ∈ A.q → A.now < x.t ∧ x.t ≤ 1073741824 ∧ A.freed ≤ x.t ∧ 0 ≤ x.a ∧ x.a ≤ 1073741824
 fn : ∀ e ∈ A.l, A.now < e.a → A.freed ≤ e.a
section
variable {C : Cfg} {ok : St → Prop} {sm : Ev → Prop} {A : AM}
def sndA (C : Cfg) (A : AM) (c : Int) : List Ev := (C.R (A.fold C).2.1 (bat A.l c)).2
theorem fold_next (h : InvA C sm A) {c : Int} (hc : nx A.l A.now = some c) : foldT C.R A.l c (-1) C.first = (c, (C.R (A.fold C).2.1 (bat A.l c)).1, (A.fold C).2.2 ++ sndA C A c) := by
 have h1 := (nx_some h.sl hc).1
 have e := foldT_comp C.R h.sl (show A.now ≤ c by omega) (-1) C.first
 have ha := h.at_
 unfold AM.fold at ha ⊢
 rw [e, ha, foldT_step C.R h.sl hc (Int.le_refl c), foldT_stop C.R (fun c' hc' => (nx_some h.sl hc').1)]
 unfold sndA AM.fold
 simp
theorem snd_ok (hR : Laws C.R ok sm) (h : InvA C sm A) (hf : ok C.first) {c : Int} (hc : nx A.l A.now = some c) : ok (C.R (A.fold C).2.1 (bat A.l c)).1 ∧ (∀ x ∈ sndA C A c, x.t = c ∧ 0 ≤ x.a ∧ x.a ≤ 1073741824) ∧ (sndA C A c).Nodup ∧ (sndA C A c).length ≤ (bat A.l c).length ∧ 0 ≤ c ∧ c ≤ 1073741824 := by
 obtain ⟨_, ⟨y, hy, hyc⟩, _⟩ := nx_some h.sl hc
 have hr := (h.ev y hy).2
 have ho := (fold_ok hR h.sl h.ev A.now (-1) C.first hf).1
 obtain ⟨r1, r2, r3, r4⟩ := hR.run _ (bat A.l c) c ho (by omega) (by omega) (bat_ok h.ev c)
 exact ⟨r1, r2, r3, r4, by omega, by omega⟩
theorem sure_le (hR : Laws C.R ok sm) (h : InvA C sm A) (hf : ok C.first) {x : Ev} (hx : (x, true) ∈ A.q) : x.t ≤ A.now := ((fold_ok hR h.sl h.ev A.now (-1) C.first hf).2.2 x ((h.sure x).1 hx).1).2.2.1
theorem step_wrong (hR : Laws C.R ok sm) (h : InvA C sm A) (hf : ok C.first) {c : Int} (hc : nx A.l A.now = some c) : wrongE c (sndA C A c) A.q = 0 := by
 obtain ⟨_, r2, r3, _⟩ := snd_ok hR h hf hc
 refine wrong_zero.2 ⟨fun e he => (r2 e he).1, r3, fun r hr hs => ?_⟩
 obtain ⟨x, b⟩ := r
 simp only at hs
 subst hs
 have := sure_le hR h hf hr
 have := (nx_some h.sl hc).1
 simp only
 omega
def stepA (C : Cfg) (A : AM) (c : Int) : AM := { A with q := sentQ c (sndA C A c) A.q, now := c }
theorem step_inv (hR : Laws C.R ok sm) (h : InvA C sm A) (hf : ok C.first) {c : Int} (hc : nx A.l A.now = some c) : InvA C sm (stepA C A c) := by
 have hz := step_wrong hR h hf hc
 obtain ⟨_, r2, r3, r4, r5, r6⟩ := snd_ok hR h hf hc
 obtain ⟨h1, ⟨y, hy, hyc⟩, _⟩ := nx_some h.sl hc
 have hfold : (stepA C A c).fold C = (c, (C.R (A.fold C).2.1 (bat A.l c)).1, (A.fold C).2.2 ++ sndA C A c) := fold_next h hc
 refine ⟨h.sl, h.sm_, sentQ_srt h.sq, h.ev, h.dis, by rw [hfold]; rfl, by have := h.lo; show -1 ≤ c; omega, h.fr, fun x => ?_, fun x hx => ?_, fun e he hn => h.fn e he (by have : c < e.a := hn; omega)⟩
 ·rw [hfold]
  simp only
  show (x, true) ∈ sentQ c (sndA C A c) A.q ↔ _ ∧ A.freed ≤ x.t
  rw [sentQ_mem h.sq hz, List.mem_append]
  constructor
  ·rintro (⟨hx, _⟩ | ⟨hx, hq, _⟩)
   ·refine ⟨.inr hx, ?_⟩
    have := (r2 x hx).1
    have := h.fn y hy (by omega)
    omega
   ·obtain ⟨g1, g2⟩ := (h.sure x).1 hq
    exact ⟨.inl g1, g2⟩
  ·rintro ⟨hx | hx, ht⟩
   ·by_cases hm : x ∈ sndA C A c
    ·exact .inl ⟨hm, rfl⟩
    ·have hq := (h.sure x).2 ⟨hx, ht⟩
     have hle := sure_le hR h hf hq
     refine .inr ⟨hm, hq, ?_⟩
     by_cases hs : sentP c (esort (sndA C A c)) (x, true) = true
     ·rcases (sentP_iff c _ (x, true)).1 hs with ⟨h2, _⟩ | ⟨_, h3⟩
      ·simp only at h2; omega
      ·cases h3
     ·simpa using hs
   ·exact .inl ⟨hx, rfl⟩
 ·have hx2 : (x, false) ∈ sentQ c (sndA C A c) A.q := hx
  rw [sentQ_mem h.sq hz] at hx2
  rcases hx2 with ⟨_, hb⟩ | ⟨hm, hq, hs⟩
  ·cases hb
  ·obtain ⟨g1, g2⟩ := h.uns x hq
   refine ⟨?_, g2⟩
   show c < x.t
   have hs' : ¬ sentP c (esort (sndA C A c)) (x, false) = true := by simp [hs]
   rw [sentP_iff] at hs'
   have n1 : ¬ x.t = c := fun e => hs' (.inl ⟨e, hm⟩)
   have n2 : ¬ x.t < c := fun e => hs' (.inr ⟨e, rfl⟩)
   omega
def backA (C : Cfg) (A : AM) (tu : Int) : AM := { A with now := (foldT C.R A.l (tu - 1) (-1) C.first).1, q := if C.lz then doubt tu A.q else stay (backP tu) A.q }
def backM (C : Cfg) (A : AM) (tu : Int) : List Msg := if C.lz then [] else antis (backP tu) A.q
theorem doubt_in {tu : Int} {q : List Rec} {x : Ev} {b : Bool} (hlz : Bool) (h : (x, b) ∈ (if hlz then doubt tu q else stay (backP tu) q)) : ((x, b) ∈ q ∧ x.t < tu) ∨ (b = false ∧ tu ≤ x.t ∧ ∃ c, (x, c) ∈ q) := by
 cases hlz with
 | true =>
  rw [if_pos rfl, doubt_mem] at h
  rcases h with ⟨h1, h2, h3⟩ | ⟨h1, h2⟩
  ·exact .inr ⟨h2, h1, h3⟩
  ·exact .inl ⟨h2, h1⟩
 | false =>
  rw [if_neg (by simp)] at h
  unfold stay backP at h
  obtain ⟨h1, h2⟩ := List.mem_filter.1 h
  simp at h2
  exact .inl ⟨h1, h2⟩
theorem doubt_in' {tu : Int} {q : List Rec} {x : Ev} {b : Bool} (hlz : Bool) (h : (x, b) ∈ q) (ht : x.t < tu) : (x, b) ∈ (if hlz then doubt tu q else stay (backP tu) q) := by
 cases hlz with
 | true => rw [if_pos rfl, doubt_mem]; exact .inr ⟨ht, h⟩
 | false =>
  rw [if_neg (by simp)]
  unfold stay backP
  exact List.mem_filter.2 ⟨h, by simp; omega⟩
theorem back_inv (hR : Laws C.R ok sm) (h : InvA C sm A) (hf : ok C.first) {tu : Int} (hto : A.freed ≤ tu) (hle : tu ≤ A.now) {l' m' : List Ev} {q' : List Rec} (hl : Srt l') (hm : Srt m') (hev : EvOk sm l') (hdis : ∀ x ∈ m', x ∉ l')
  (he : A.l.filter (fun y => decide (y.a ≤ tu - 1)) = l'.filter (fun y => decide (y.a ≤ tu - 1))) (hq : RSrt q') (hsub : ∀ r ∈ q', r ∈ A.q) (hkeep : ∀ r ∈ A.q, r.1.t < tu → r ∈ q') : InvA C sm (backA C { A with l := l', m := m', q := q' } tu) := by
 have hc := foldT_congr C.R h.sl hl he (-1) C.first
 have hfold : (backA C { A with l := l', m := m', q := q' } tu).fold C = foldT C.R l' (tu - 1) (-1) C.first := foldT_same C.R hl (tu - 1) (-1) C.first
 have hlo := foldT_lo C.R hl (tu - 1) (-1) C.first
 have hsp := sends_split hR h.sl h.ev (show tu - 1 ≤ A.now by omega) (-1) C.first hf
 have hfr := h.fr
 refine ⟨hl, hm, ?_, hev, hdis, ?_, hlo.1, h.fr, fun x => ?_, fun x hx => ?_, fun e hel hn => ?_⟩
 ·show RSrt (if C.lz then _ else _)
  split
  ·exact hq.doubt _
  ·exact hq.stay _
 ·rw [hfold]; rfl
 ·rw [hfold, ← hc, hsp x]
  show (x, true) ∈ (if C.lz then doubt tu q' else stay (backP tu) q') ↔ _ ∧ A.freed ≤ x.t
  constructor
  ·intro hx
   rcases doubt_in C.lz hx with ⟨h1, h2⟩ | ⟨h1, _⟩
   ·obtain ⟨g1, g2⟩ := (h.sure x).1 (hsub _ h1)
    exact ⟨⟨g1, by omega⟩, g2⟩
   ·cases h1
  ·rintro ⟨⟨g1, g2⟩, g3⟩
   exact doubt_in' C.lz (hkeep _ ((h.sure x).2 ⟨g1, g3⟩) (by show x.t < tu; omega)) (by omega)
 ·have hx2 : (x, false) ∈ (if C.lz then doubt tu q' else stay (backP tu) q') := hx
  show (foldT C.R l' (tu - 1) (-1) C.first).1 < x.t ∧ x.t ≤ 1073741824 ∧ A.freed ≤ x.t ∧ _
  have hup := hlo.2 (by omega)
  rcases doubt_in C.lz hx2 with ⟨h1, h2⟩ | ⟨_, h2, c, h3⟩
  ·have := (h.uns x (hsub _ h1)).1
   omega
  ·cases c with
   | true =>
    have h4 := ((fold_ok hR h.sl h.ev A.now (-1) C.first hf).2.2 x ((h.sure x).1 (hsub _ h3)).1)
    obtain ⟨⟨y, hy, e⟩, g2, g3, g4, g5⟩ := h4
    have := (h.ev y hy).2
    exact ⟨by omega, by omega, by omega, g5⟩
   | false =>
    obtain ⟨g1, g2, g3, g4⟩ := h.uns x (hsub _ h3)
    exact ⟨by omega, g2, g3, g4⟩
 ·obtain ⟨c, c1, c2, c3⟩ := nx_of_mem hl hel hn
  have := foldT_end C.R hl (tu - 1) (-1) C.first c c1
  show A.freed ≤ e.a
  omega
end
end Go.Proofs.YthbcdkeammhakaaGreat
namespace Go.Proofs.YthbcdkeammhakaaGreat
open Go
theorem dis_q {l m : List Ev} (hl : Srt l) (hm : Srt m) (h : ∀ x ∈ m, x ∉ l) : QIs l m (fun x => (cnt l x : Int) - (cnt m x : Int)) := by
 have key : ∀ x, cnt l x = 0 ∨ cnt m x = 0 := fun x => by
  by_cases hx : x ∈ m
  ·exact .inl (by rw [cnt_count]; exact List.count_eq_zero.2 (h x hx))
  ·exact .inr (by rw [cnt_count]; exact List.count_eq_zero.2 hx)
 exact ⟨hl, hm, fun x => by rcases key x with h | h <;> rw [h] <;> omega, fun x => by rcases key x with h | h <;> rw [h] <;> omega⟩
theorem q_dis {l m : List Ev} {d : Ev → Int} (h : QIs l m d) : ∀ x ∈ m, x ∉ l := fun x hx hy => by
 have h1 := h.c1 x
 have h2 := h.c2 x
 have h3 : 0 < cnt m x := by rw [cnt_count]; exact List.count_pos_iff.2 hx
 have h4 : 0 < cnt l x := by rw [cnt_count]; exact List.count_pos_iff.2 hy
 omega
theorem Srt.filter_ {l : List Ev} (h : Srt l) (p : Ev → Bool) : Srt (l.filter p) := List.Pairwise.sublist List.filter_sublist h
theorem putL_filter {l m : List Ev} (hl : Srt l) (hm : Srt m) (hd : ∀ x ∈ m, x ∉ l) (x : Ev) (an : Bool) (p : Ev → Bool) (hp : p x = false) : (putL l m x an).filter p = l.filter p := by
 have hq := dis_q hl hm hd
 have hq' := hq.put x an
 refine srt_ext (hq'.s1.filter_ p) (hl.filter_ p) fun y => ?_
 rw [cnt_count, cnt_count]
 by_cases hy : p y = true
 ·rw [List.count_filter hy, List.count_filter hy, ← cnt_count, ← cnt_count]
  have h1 := hq'.c1 y
  have h2 := hq.c1 y
  have hxy : x ≠ y := fun e => by rw [← e, hp] at hy; cases hy
  unfold dput at h1
  rw [if_neg hxy] at h1
  simp only at h1 h2
  omega
 ·have e1 : ∀ l : List Ev, (l.filter p).count y = 0 := fun l => List.count_eq_zero.2 fun h => hy (List.mem_filter.1 h).2
  rw [e1, e1]
theorem putL_same {l m : List Ev} {x : Ev} {an : Bool} (h : putMet l m x an ≠ an) : putL l m x an = l := by
 unfold putMet at h
 unfold putL
 cases an
 ·simp only [Bool.false_eq_true, if_false] at h ⊢
  cases hh : has m x
  ·rw [hh] at h; exact absurd rfl h
  ·simp
 ·simp only [if_true] at h ⊢
  cases hh : has l x
  ·simp
  ·rw [hh] at h; exact absurd rfl h
theorem putL_mem {l m : List Ev} {x : Ev} {an : Bool} {y : Ev} (h : y ∈ putL l m x an) : y = x ∨ y ∈ l := by
 unfold putL at h
 cases an
 ·simp only [Bool.false_eq_true, if_false] at h
  cases hh : has m x
  ·rw [hh] at h
   simp only [Bool.false_eq_true, if_false] at h
   exact List.mem_cons.1 ((ins_perm l x).mem_iff.1 h)
  ·rw [hh] at h
   simp only [if_true] at h
   exact .inr h
 ·simp only [if_true] at h
  cases hh : has l x
  ·rw [hh] at h
   simp only [Bool.false_eq_true, if_false] at h
   exact .inr h
  ·rw [hh] at h
   simp only [if_true] at h
   exact .inr ((rem_perm hh).mem_iff.2 (List.mem_cons_of_mem _ h))
def putD (A : AM) (x : Ev) (an : Bool) : AM := { A with l := putL A.l A.m x an, m := putB A.l A.m x an }
section
variable {C : Cfg} {ok : St → Prop} {sm : Ev → Prop} {A : AM}
theorem put_ev (h : EvOk sm A.l) {x : Ev} {an : Bool} (hx : sm x ∧ 0 ≤ x.a ∧ x.a ≤ 1073741824) : EvOk sm (putL A.l A.m x an) := fun y hy => by
 rcases putL_mem hy with rfl | hy
 ·exact hx
 ·exact h y hy
theorem put_keep (h : InvA C sm A) {x : Ev} {an : Bool} {tu : Int} (hx : tu < x.a) : A.l.filter (fun y => decide (y.a ≤ tu)) = (putL A.l A.m x an).filter (fun y => decide (y.a ≤ tu)) :=
 (putL_filter h.sl h.sm_ h.dis x an _ (by simpa using hx)).symm
theorem put_stay (h : InvA C sm A) {x : Ev} {an : Bool} (hx : sm x ∧ 0 ≤ x.a ∧ x.a ≤ 1073741824) (hfr : A.freed ≤ x.a) (hc : A.now < x.a ∨ putMet A.l A.m x an ≠ an) : InvA C sm (putD A x an) := by
 have hq := (dis_q h.sl h.sm_ h.dis).put x an
 have hfold : (putD A x an).fold C = A.fold C := by
  unfold AM.fold putD
  simp only
  rcases hc with hc | hc
  ·exact (foldT_congr C.R h.sl hq.s1 (put_keep h hc) (-1) C.first).symm
  ·rw [putL_same hc]
 refine ⟨hq.s1, hq.s2, h.sq, put_ev h.ev hx, q_dis hq, by rw [hfold]; exact h.at_, h.lo, h.fr, fun y => by rw [hfold]; exact h.sure y, h.uns, fun e he hn => ?_⟩
 rcases putL_mem he with rfl | he
 ·exact hfr
 ·exact h.fn e he hn
theorem ret_stay (hR : Laws C.R ok sm) (h : InvA C sm A) (hf : ok C.first) {x : Ev} (hh : rhas A.q x = true) (hle : A.now < x.t) : InvA C sm { A with q := rrem A.q x } := by
 refine ⟨h.sl, h.sm_, h.sq.rem_ x, h.ev, h.dis, h.at_, h.lo, h.fr, fun y => ?_, fun y hy => h.uns y ((rrem_mem h.sq hh y false).1 hy).2, h.fn⟩
 show (y, true) ∈ rrem A.q x ↔ y ∈ (A.fold C).2.2 ∧ A.freed ≤ y.t
 rw [rrem_mem h.sq hh y true, ← h.sure y]
 refine ⟨fun hx => hx.2, fun hx => ⟨fun e => ?_, hx⟩⟩
 have := sure_le hR h hf hx
 rw [e] at this
 omega
def nextB (A : AM) : Int := match nx A.l A.now with | some c => c | none => 1073741825
def settleA (A : AM) : AM := { A with q := stay (flushP (nextB A)) A.q }
theorem settle_inv (h : InvA C sm A) : InvA C sm (settleA A) := by
 refine ⟨h.sl, h.sm_, h.sq.stay _, h.ev, h.dis, h.at_, h.lo, h.fr, fun y => ?_, fun y hy => h.uns y (List.mem_filter.1 hy).1, h.fn⟩
 show (y, true) ∈ stay (flushP (nextB A)) A.q ↔ y ∈ (A.fold C).2.2 ∧ A.freed ≤ y.t
 rw [← h.sure y]
 unfold stay
 rw [List.mem_filter]
 exact ⟨fun hx => hx.1, fun hx => ⟨hx, by simp [flushP]⟩⟩
def leastA (A : AM) : Int := match leastL A.q with
 | some r => min (match nx A.l A.now with | some c => min 1073741825 c | none => 1073741825) r.1.t
 | none => match nx A.l A.now with | some c => min 1073741825 c | none => 1073741825
theorem leastL_some {q : List Rec} (h : RSrt q) {r : Rec} (hr : leastL q = some r) : r ∈ q ∧ r.2 = false ∧ ∀ z ∈ q, z.2 = false → r.1.t ≤ z.1.t := by
 unfold leastL at hr
 induction q with
 | nil => cases hr
 | cons a q ih =>
  unfold RSrt at h
  rw [List.pairwise_cons] at h
  rw [List.find?_cons] at hr
  cases ha : a.2
  ·rw [ha] at hr
   simp only [Bool.not_false] at hr
   injection hr with hr
   subst hr
   refine ⟨by simp, ha, fun z hz _ => ?_⟩
   rcases List.mem_cons.1 hz with rfl | hz
   ·exact Int.le_refl _
   ·have := h.1 z hz
    unfold sLt at this
    split at this
    ·have := of_decide_eq_true this; omega
    ·rename_i h; simp at h; omega
  ·rw [ha] at hr
   simp only [Bool.not_true] at hr
   obtain ⟨h1, h2, h3⟩ := ih h.2 hr
   refine ⟨List.mem_cons_of_mem _ h1, h2, fun z hz hb => ?_⟩
   rcases List.mem_cons.1 hz with rfl | hz
   ·rw [ha] at hb; cases hb
   ·exact h3 z hz hb
theorem leastL_none {q : List Rec} (hr : leastL q = none) : ∀ z ∈ q, z.2 = true := fun z hz => by
 have := List.find?_eq_none.1 hr z hz
 simpa using this
theorem least_le (h : InvA C sm A) : (∀ z ∈ A.q, z.2 = false → leastA A ≤ z.1.t) ∧ (∀ e ∈ A.l, A.now < e.a → leastA A ≤ e.a) := by
 constructor
 ·intro z hz hb
  unfold leastA
  cases hr : leastL A.q with
  | none => have := leastL_none hr z hz; rw [hb] at this; cases this
  | some r =>
   have := (leastL_some h.sq hr).2.2 z hz hb
   simp only
   exact Int.le_trans (Int.min_le_right _ _) this
 ·intro e he hn
  obtain ⟨c, h1, h2, _⟩ := nx_of_mem h.sl he hn
  unfold leastA
  rw [h1]
  cases leastL A.q with
  | none => simp only; omega
  | some r => simp only; omega
def freeA (A : AM) (below : Int) : AM := { A with freed := below, q := stay (dropP below) A.q }
def freeM (A : AM) (below : Int) : List Ev := A.l.filter (fun e => decide (A.freed ≤ e.a) && decide (e.a < below))
theorem free_inv (h : InvA C sm A) {below : Int} (h1 : below ≤ leastA A) (h2 : A.freed < below) : InvA C sm (freeA A below) := by
 have hfr := h.fr
 obtain ⟨l1, l2⟩ := least_le h
 refine ⟨h.sl, h.sm_, h.sq.stay _, h.ev, h.dis, h.at_, h.lo, by show 0 ≤ below; omega, fun y => ?_, fun y hy => ?_, fun e he hn => ?_⟩
 ·show (y, true) ∈ stay (dropP below) A.q ↔ y ∈ (A.fold C).2.2 ∧ below ≤ y.t
  unfold stay dropP
  rw [List.mem_filter, h.sure y]
  simp
  omega
 ·have hy' := (List.mem_filter.1 hy).1
  have g := h.uns y hy'
  have := l1 _ hy' rfl
  exact ⟨g.1, g.2.1, by show below ≤ y.t; simp only at this; omega, g.2.2.2⟩
 ·have := l2 e he hn
  show below ≤ e.a
  omega
structure Ans where
 A : AM
 M : List OMsg
 E : List Ev
 e : Int
def bakA (C : Cfg) (A : AM) (tu : Int) : Ans := if tu < A.freed then ⟨A, [], [], 18⟩ else if A.now < tu then ⟨A, [], [], 0⟩ else ⟨backA C A tu, backM C A tu, [], 0⟩
def comeA (C : Cfg) (A : AM) (x : Ev) (an : Bool) : Ans := if A.now < x.a ∨ putMet A.l A.m x an ≠ an then ⟨putD A x an, [], [], 0⟩ else ⟨backA C (putD A x an) x.a, backM C (putD A x an) x.a, [], 0⟩
def stpA (C : Cfg) (A : AM) : Ans := match nx A.l A.now with
 | some c => ⟨stepA C A c, sentM c (sndA C A c) A.q, [], 0⟩
 | none => ⟨A, [], [], 14⟩
def takA (C : Cfg) (A : AM) (x : Ev) (an : Bool) : Ans := if x.d ≠ C.id then ⟨A, [], [], 1⟩ else if x.a < A.freed then ⟨A, [], [], 18⟩ else if x.a < 0 ∨ 1073741824 < x.a then ⟨A, [], [], 10⟩ else comeA C A x an
def setA (A : AM) : Ans := ⟨settleA A, antis (flushP (nextB A)) A.q, [], 0⟩
def givA (C : Cfg) (A : AM) (x : Ev) : Ans := if x.a < A.freed then ⟨A, [], [], 18⟩ else if has A.l x then comeA C A x true else ⟨A, [], [], 14⟩
def retA (C : Cfg) (A : AM) (x : Ev) : Ans := if x.s ≠ C.id then ⟨A, [], [], 1⟩ else if x.t < A.freed then ⟨A, [], [], 18⟩ else if rhas A.q x then bakA C { A with q := rrem A.q x } x.t else ⟨A, [(x, false)], [], 0⟩
def freA (A : AM) (below : Int) : Ans := if leastA A < below then ⟨A, [], [], 18⟩ else if below ≤ A.freed then ⟨A, [], [], 0⟩ else ⟨freeA A below, [], freeM A below, 0⟩
def doA (C : Cfg) (A : AM) (k b : Int) (x : Ev) (an : Bool) : Ans :=
 if k = 0 then stpA C A else if k = 1 then takA C A x an else if k = 2 then setA A else if k = 3 then bakA C A b else if k = 5 then givA C A x else if k = 6 then retA C A x else freA A b
end
end Go.Proofs.YthbcdkeammhakaaGreat
