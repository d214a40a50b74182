/- Chapter 13: PROft, LsB, LsF, LsN. -/
import Derived.Test.YthbcdkeammhakaaGreatM14
import Derived.Test.YthbcdkeammhakaaGreatM15
import Derived.Test.YthbcdkeammhakaaGreatM25
import Derived.Test.YthbcdkeammhakaaGreatM19
import Derived.Test.YthbcdkeammhakaaGreatM01
import Derived.Test.YthbcdkeammhakaaGreatM07
import Derived.Test.YthbcdkeammhakaaGreatM26
import Derived.Test.YthbcdkeammhakaaGreatM18
import Derived.Deep.DeepCutAuto
/-
  The document's answer: Often, Next, Batch.
-/
namespace Go.Proofs.YthbcdkeammhakaaGreat
open Go.RowKit
attribute [local go_sem ↓] Go.wp_at_zero Go.wp_at_succ
attribute [local go_sem ↓] run_eql_ev

set_option maxHeartbeats 1000000 in
theorem often_any (v : Value) (l : List Ev) (x : Ev) (w : World) (hv : EvAt w v l) (hl : l.length ≤ 100000) :
    Calls Tryz.prog 122 #[v, x.val] w fun e w' => e = .returned (.int .i64 (cnt l x : Nat)) ∧ Fresh w w' := by
  obtain ⟨A, c, rfl, hv⟩ := hv
  have HV := Lib.hid hv
  have F0 : Hid (Fresh w (w.alloc (.cells #[.int .i64 x.a, .int .i64 x.s, .int .i64 x.t, .int .i64 x.n, .int .i64 x.d, .int .i64 x.k, .int .i64 x.x] 41))) := Lib.hid ((Keep.refl _ w).alloc _)
  have B0 := Lib.hid (Blk.new w 41 #[.int .i64 x.a, .int .i64 x.s, .int .i64 x.t, .int .i64 x.n, .int .i64 x.d, .int .i64 x.k, .int .i64 x.x])
  clear hv
  unfold Ev.val
  go_enter Tryz.func122, Tryz.ntmps122
  go_wp2_with fail
  obtain ⟨w0, hw0⟩ : ∃ w0, w.alloc (.cells #[.int .i64 x.a, .int .i64 x.s, .int .i64 x.t, .int .i64 x.n, .int .i64 x.d, .int .i64 x.k, .int .i64 x.x] 41) = w0 := ⟨_, rfl⟩
  rw [hw0] at F0 B0 ⊢
  clear hw0
  go_loopg [5, 6] l.length (fun gk u5 u6 wr => ∃ i : Nat, i ≤ l.length ∧ gk = l.length - i ∧ u5 = .int .i64 (cnt (l.take i) x : Nat) ∧ u6 = .int .i64 i ∧ Fresh w0 wr)
  case atStart => exact ⟨0, by omega, rfl, by simp [cnt], rfl, Keep.refl _ _⟩
  case round =>
    obtain ⟨i, hi', rfl, rfl, rfl, hF⟩ := hrel
    have HF := Lib.hid hF
    have FW : Hid (Fresh w wr) := Lib.hid (F0.out.step hF (fun _ _ h => h))
    have cx := (hF.blk_ B0.out).cell
    have lx := (hF.blk_ B0.out).lt
    clear hF
    by_cases hlt : i < l.length
    · obtain ⟨y, hy⟩ : ∃ y, l[i]? = some y := ⟨_, List.getElem?_eq_getElem hlt⟩
      obtain ⟨b0, off, rfl, lt0, hO⟩ := HV.out i y hy
      have y0 := FW.out.cell_ (hO 0 (.int .i64 y.a) rfl)
      have y1 := FW.out.cell_ (hO 1 (.int .i64 y.s) rfl)
      have y2 := FW.out.cell_ (hO 2 (.int .i64 y.t) rfl)
      have y3 := FW.out.cell_ (hO 3 (.int .i64 y.n) rfl)
      have y4 := FW.out.cell_ (hO 4 (.int .i64 y.d) rfl)
      have y5 := FW.out.cell_ (hO 5 (.int .i64 y.k) rfl)
      have y6 := FW.out.cell_ (hO 6 (.int .i64 y.x) rfl)
      rw [Nat.add_zero] at y0
      have lb0 : b0 < wr.heap.size := Nat.lt_of_lt_of_le lt0 FW.out.size
      have hs : cnt (l.take (i + 1)) x = cnt (l.take i) x + (if evB y x then 1 else 0) := by
        unfold cnt
        rw [List.take_add_one, hy, Option.toList_some, List.countP_append, List.countP_singleton]
      have hle : cnt (l.take i) x ≤ i := Nat.le_trans List.countP_le_length (List.length_take_le _ _)
      obtain ⟨N, hN⟩ : ∃ N, cnt (l.take i) x = N := ⟨_, rfl⟩
      rw [hN] at hs hle ⊢
      have HS := Lib.hid hs
      clear hO hy lt0 hs hN
      cases hq : evB y x
      · rw [hq] at HS
        unfold evB at hq
        go_wp2_with fail
        go_quiet (fail)
        go_wp2_with fail
        go_roundg (l.length - (i + 1))
        case measure => omega
        case rel => exact ⟨i + 1, by omega, rfl, by rw [HS.out]; rfl, by go_num, HF.out.drewN _⟩
      · rw [hq] at HS
        unfold evB at hq
        go_wp2_with fail
        go_quiet (fail)
        go_wp2_with fail
        go_roundg (l.length - (i + 1))
        case measure => omega
        case rel => exact ⟨i + 1, by omega, rfl, by rw [HS.out]; go_num, by go_num, HF.out.drewN _⟩
    · obtain rfl : i = l.length := by omega
      rw [List.take_length]
      go_wp2_with fail
      go_ret
      exact ⟨rfl, FW.out⟩
/-- the least time above one -/
def NX (p : List Ev) (a r : Int) : Prop := (r = -1 ∧ ∀ y ∈ p, ¬ a < y.a) ∨ (∃ y ∈ p, a < y.a ∧ r = y.a ∧ ∀ z ∈ p, a < z.a → y.a ≤ z.a)
theorem NX.snoc {p : List Ev} {a r : Int} (h : NX p a r) {y : Ev} (hr : ∀ z ∈ p, 0 ≤ z.a) : NX (p ++ [y]) a (if a < y.a ∧ (r < 0 ∨ y.a < r) then y.a else r) := by
  rcases h with ⟨rfl, h⟩ | ⟨u, hu, h1, rfl, h2⟩
  · by_cases hy : a < y.a
    · rw [if_pos ⟨hy, .inl (by omega)⟩]
      refine .inr ⟨y, by simp, hy, rfl, fun z hz hlt => ?_⟩
      rcases List.mem_append.1 hz with hz | hz
      · exact absurd hlt (h z hz)
      · rw [List.mem_singleton.1 hz]; omega
    · rw [if_neg (fun hh => hy hh.1)]
      refine .inl ⟨rfl, fun z hz => ?_⟩
      rcases List.mem_append.1 hz with hz | hz
      · exact h z hz
      · rw [List.mem_singleton.1 hz]; exact hy
  · have h0 := hr u hu
    by_cases hy : a < y.a ∧ (u.a < 0 ∨ y.a < u.a)
    · rw [if_pos hy]
      refine .inr ⟨y, by simp, hy.1, rfl, fun z hz hlt => ?_⟩
      rcases List.mem_append.1 hz with hz | hz
      · have := h2 z hz hlt; omega
      · rw [List.mem_singleton.1 hz]; omega
    · rw [if_neg hy]
      refine .inr ⟨u, by simp [hu], h1, rfl, fun z hz hlt => ?_⟩
      rcases List.mem_append.1 hz with hz | hz
      · exact h2 z hz hlt
      · rw [List.mem_singleton.1 hz] at hlt ⊢; omega
theorem NX.of {L l : List Ev} {a r : Int} (h : NX L a r) (p : L.Perm l) (s : Srt l) : r = match nextE l a with
    | some y => y.a
    | none => -1 := by
  cases hn : nextE l a with
  | none =>
    unfold nextE at hn
    rw [List.find?_eq_none] at hn
    rcases h with ⟨rfl, _⟩ | ⟨y, hy, h1, _, _⟩
    · rfl
    · have := hn y (p.mem_iff.1 hy)
      simp at this
      omega
  | some u =>
    obtain ⟨h1, h2, h3⟩ := next_some s hn
    rcases h with ⟨rfl, h⟩ | ⟨y, hy, h4, rfl, h5⟩
    · exact absurd h2 (h u (p.mem_iff.2 h1))
    · have := h3 y (p.mem_iff.1 hy) h4
      have := h5 u (p.mem_iff.2 h1) h2
      show y.a = u.a
      omega
set_option maxHeartbeats 2000000 in
theorem rnext_any (g : Nat) (v1 v2 : Value) (L B : List Ev) (a : Int) (w : World) (h : RQ w g v1 v2 L B) (hl : L.length ≤ 100000) (hp : ∀ z ∈ L, 0 ≤ z.a) :
    Calls Tryz.prog 47 #[.pointer (some ⟨g, 0, none⟩), .int .i64 a] w fun e w' => ∃ r, e = .returned (.int .i64 r) ∧ NX L a r ∧ Fresh w w' := by
  have H := Lib.hid h
  have HP := Lib.hid hp
  obtain ⟨A1, c1, rfl, hc1, hm1⟩ := h.own1.shape
  have hm1 : c1 ≤ 9223372036854775807 := by unfold maxLen at hm1; omega
  clear h hp
  go_enter Tryz.func47, Tryz.ntmps47
  go_wp2_with fail
  go_loopg [5, 6] L.length (fun gk u5 u6 wr => ∃ (i : Nat) (r : Int), i ≤ L.length ∧ gk = L.length - i ∧ u5 = .int .i64 r ∧ u6 = .int .i64 i ∧ NX (L.take i) a r ∧ Fresh w wr)
  case atStart => exact ⟨0, -1, by omega, rfl, rfl, rfl, .inl ⟨rfl, by simp⟩, Keep.refl _ _⟩
  case round =>
    obtain ⟨i, r, hi', rfl, rfl, rfl, hN, hF⟩ := hrel
    have HN := Lib.hid hN
    have HF := Lib.hid hF
    have cQ := (H.out.fresh hF).blk.cell
    have lQ := (H.out.fresh hF).blk.lt
    clear hF hN
    by_cases hlt : i < L.length
    · obtain ⟨y, hy⟩ : ∃ y, L[i]? = some y := ⟨_, List.getElem?_eq_getElem hlt⟩
      obtain ⟨g3, off3, _, hv3, hg3, _, _, hcc⟩ := (H.out.own1.fresh HF.out).form (by omega)
      injection hv3 with e1 e2 e3
      subst e1 e3
      have y0 := hcc _ _ (cells_at L i y hy).1
      have NXT := Lib.hid (HN.out.snoc (y := y) (fun z hz => HP.out z (List.mem_of_mem_take hz)))
      have HT := Lib.hid (show L.take i ++ [y] = L.take (i + 1) by rw [List.take_add_one, hy]; rfl)
      clear hcc hy e2
      by_cases h1 : a < y.a
      · have t1 : decide (a < y.a) = true := decide_eq_true h1
        by_cases h2 : r < 0
        · have t2 : decide (r < 0) = true := decide_eq_true h2
          have NX2 : Hid (NX (L.take (i + 1)) a y.a) := Lib.hid (by have := NXT.out; rw [if_pos ⟨h1, .inl h2⟩, HT.out] at this; exact this)
          clear h1 h2
          go_wp2_with fail
          go_roundg (L.length - (i + 1))
          case measure => omega
          case rel => exact ⟨i + 1, y.a, by omega, rfl, rfl, by go_num, NX2.out, HF.out⟩
        · have t2 : decide (r < 0) = false := decide_eq_false h2
          by_cases h3 : y.a < r
          · have t3 : decide (y.a < r) = true := decide_eq_true h3
            have NX2 : Hid (NX (L.take (i + 1)) a y.a) := Lib.hid (by have := NXT.out; rw [if_pos ⟨h1, .inr h3⟩, HT.out] at this; exact this)
            clear h1 h2 h3
            go_wp2_with fail
            go_roundg (L.length - (i + 1))
            case measure => omega
            case rel => exact ⟨i + 1, y.a, by omega, rfl, rfl, by go_num, NX2.out, HF.out⟩
          · have t3 : decide (y.a < r) = false := decide_eq_false h3
            have NX2 : Hid (NX (L.take (i + 1)) a r) := Lib.hid (by have := NXT.out; rw [if_neg (fun hh => by rcases hh.2 with hh | hh; exact h2 hh; exact h3 hh), HT.out] at this; exact this)
            clear h1 h2 h3
            go_wp2_with fail
            go_roundg (L.length - (i + 1))
            case measure => omega
            case rel => exact ⟨i + 1, r, by omega, rfl, rfl, by go_num, NX2.out, HF.out⟩
      · have t1 : decide (a < y.a) = false := decide_eq_false h1
        have NX2 : Hid (NX (L.take (i + 1)) a r) := Lib.hid (by have := NXT.out; rw [if_neg (fun hh => h1 hh.1), HT.out] at this; exact this)
        clear h1
        go_wp2_with fail
        go_roundg (L.length - (i + 1))
        case measure => omega
        case rel => exact ⟨i + 1, r, by omega, rfl, rfl, by go_num, NX2.out, HF.out⟩
    · obtain rfl : i = L.length := by omega
      have hn := HN.out
      rw [List.take_length] at hn
      have HN2 := Lib.hid hn
      clear hn
      go_wp2_with fail
      go_ret
      exact ⟨r, rfl, HN2.out, HF.out⟩
/-- a list of one's own that grows -/
structure GI (w : World) (l : List Ev) (v : Value) (wr : World) : Prop where
  f : Fresh w wr
  o : OwnS wr 41 7 v l.length (cells l)
  n : ∀ k, v.ownBlock = some k → w.heap.size ≤ k
theorem GI.app {w wr w2 : World} {l bq : List Ev} {v v' : Value} (h : GI w l v wr) (o : OwnS w2 41 7 v' (l.length + bq.length) (cells l ++ cells bq)) {W : World} (fW : Fresh wr W) (k : Keep (fun k => v.ownBlock = some k) W w2) (n : ∀ i, v'.ownBlock = some i → v.ownBlock = some i ∨ W.heap.size ≤ i) : GI w (l ++ bq) v' w2 :=
  ⟨(h.f.step fW (fun _ _ h => h)).step k (fun i hi e => by have := h.n i e; omega), by rw [List.length_append, cells_append]; exact o, fun i hi => by
    rcases n i hi with h1 | h1
    · exact h.n i h1
    · have := h.f.size; have := fW.size; omega⟩
set_option maxHeartbeats 2000000 in
set_option maxRecDepth 100000 in
theorem rbatch_any (g : Nat) (v1 v2 : Value) (L B : List Ev) (a : Int) (w : World) (h : RQ w g v1 v2 L B) (hl : L.length ≤ 100000) :
    Calls Tryz.prog 49 #[.pointer (some ⟨g, 0, none⟩), .int .i64 a] w (SortP (atT L a) w) := by
  have H := Lib.hid h
  obtain ⟨A1, c1, rfl, hc1, hm1⟩ := h.own1.shape
  have hm1 : c1 ≤ 9223372036854775807 := by unfold maxLen at hm1; omega
  clear h
  obtain ⟨i0, hi, hz0, hz1, hz2⟩ := info_parts info_ev
  have h07 : Hid (0 < 7) := Lib.hid (by omega)
  go_enter Tryz.func49, Tryz.ntmps49
  go_wp2_with fail
  go_loopg [5, 6] L.length (fun gk u5 u6 wr => ∃ (i : Nat) (v : Value), i ≤ L.length ∧ gk = L.length - i ∧ u5 = v ∧ u6 = .int .i64 i ∧ GI w (atT (L.take i) a) v wr)
  case atStart => exact ⟨0, _, by omega, rfl, rfl, rfl, ⟨Keep.refl _ _, OwnS.nil _ _ _, by simp [Value.ownBlock]⟩⟩
  case round =>
    obtain ⟨i, v, hi', rfl, rfl, rfl, hG⟩ := hrel
    have HG := Lib.hid hG
    have cQ := (H.out.fresh hG.f).blk.cell
    have lQ := (H.out.fresh hG.f).blk.lt
    obtain ⟨Av, cv, rfl, hcv, hmv⟩ := hG.o.shape
    have hgl : (atT (L.take i) a).length ≤ L.length := Nat.le_trans (List.length_filter_le _ _) (by rw [List.length_take]; omega)
    clear hG
    by_cases hlt : i < L.length
    · obtain ⟨y, hy⟩ : ∃ y, L[i]? = some y := ⟨_, List.getElem?_eq_getElem hlt⟩
      obtain ⟨g3, off3, _, hv3, hg3, _, _, hcc⟩ := (H.out.own1.fresh HG.out.f).form (by omega)
      injection hv3 with e1 e2 e3
      subst e1 e3
      obtain ⟨y0, y1, y2, y3, y4, y5, y6⟩ := cells_at L i y hy
      have y0 := hcc _ _ y0
      have y1 := hcc _ _ y1
      have y2 := hcc _ _ y2
      have y3 := hcc _ _ y3
      have y4 := hcc _ _ y4
      have y5 := hcc _ _ y5
      have y6 := hcc _ _ y6
      rw [← Nat.add_assoc] at y1 y2 y3 y4 y5 y6
      have HT : Hid (atT (L.take (i + 1)) a = atT (L.take i) a ++ (if (y.a == a) = true then [y] else [])) := Lib.hid (by
        unfold atT
        rw [List.take_add_one, hy, Option.toList_some, List.filter_append]
        congr 1
        cases hh : (y.a == a) <;> simp [List.filter, hh])
      clear hcc hy e2
      cases hq : (y.a == a)
      · rw [hq] at HT
        have HT2 : Hid (atT (L.take (i + 1)) a = atT (L.take i) a) := Lib.hid (HT.out.trans (by simp))
        go_wp2_with fail
        go_roundg (L.length - (i + 1))
        case measure => omega
        case rel => exact ⟨i + 1, _, by omega, rfl, rfl, by go_num, by rw [HT2.out]; exact HG.out⟩
      · rw [hq] at HT
        have HT2 : Hid (atT (L.take (i + 1)) a = atT (L.take i) a ++ [y]) := Lib.hid (HT.out.trans (by simp))
        have hL1 : (atT (L.take i) a).length + 1 ≤ maxLen := one_le_maxLen (by omega)
        have hL2 : ((atT (L.take i) a).length + 1) * 56 ≤ 140737488355328 := by omega
        have S2 : Hid (Src (wr.alloc (.cells #[.int .i64 y.a, .int .i64 y.s, .int .i64 y.t, .int .i64 y.n, .int .i64 y.d, .int .i64 y.k, .int .i64 y.x] 41)) 7 (.slice (some ⟨wr.heap.size, 0, none⟩) 1 1) 1 (cells [y])) := Lib.hid (Src.one_new wr 41 7 #[.int .i64 y.a, .int .i64 y.s, .int .i64 y.t, .int .i64 y.n, .int .i64 y.d, .int .i64 y.k, .int .i64 y.x] rfl)
        have fA : Hid (Fresh wr (wr.alloc (.cells #[.int .i64 y.a, .int .i64 y.s, .int .i64 y.t, .int .i64 y.n, .int .i64 y.d, .int .i64 y.k, .int .i64 y.x] 41))) := Lib.hid ((Keep.refl _ wr).alloc _)
        go_wp2_with (at_builtin; refine wpList_append_OwnS _ rfl (.tmp 27) (.tmp 35) 24 rfl 41 i0 (.agg #[.int .i64 0, .int .i64 0, .int .i64 0, .int .i64 0, .int .i64 0, .int .i64 0, .int .i64 0]) 7 56 Tryz.underlying24 hi hz0 hz1 hz2 rfl h07.out (.slice Av (atT (L.take i) a).length cv) (atT (L.take i) a).length (cells (atT (L.take i) a)) rfl (HG.out.o.alloc _) (.slice (some ⟨wr.heap.size, 0, none⟩) 1 1) 1 (cells [y]) rfl S2.out (cells_one _) hL1 hL2 ?_; intro v4 w4 o4 k4 n4; obtain ⟨A4, cap4, rfl, hc4, hm4⟩ := o4.shape; have G4 := Lib.hid (HG.out.app (bq := [y]) o4 fA.out k4 n4); clear o4 k4 n4)
        go_roundg (L.length - (i + 1))
        case measure => omega
        case rel => exact ⟨i + 1, _, by omega, rfl, rfl, by go_num, by rw [HT2.out]; exact G4.out⟩
    · obtain rfl : i = L.length := by omega
      rw [List.take_length] at HG hgl ⊢
      have HS := Lib.hid (sort_any _ _ wr HG.out.o.evs (by omega))
      go_wp2_with fail
      refine HS.out.mono ?_
      rintro e w5 ⟨v5, out, rfl, s1, s2, s3, s4, s5⟩
      obtain ⟨A5, c5, rfl, _, _⟩ := s3.shape
      have FIN : Hid (SortP (atT L a) w (.returned (.slice A5 out.length c5)) w5) := Lib.hid ⟨_, out, rfl, s1, s2, s3, HG.out.f.step s4 (fun _ _ h => h), fun k hk => by have := s5 k hk; have := HG.out.f.size; omega⟩
      clear s1 s2 s3 s4 s5
      go_wp2_with fail
      go_ret
      exact FIN.out
end Go.Proofs.YthbcdkeammhakaaGreat

/-
  The document's process where it lies; New.
-/
namespace Go.Proofs.YthbcdkeammhakaaGreat
open Go.RowKit
attribute [local go_sem ↓] Go.wp_at_zero Go.wp_at_succ
/-- the document's process' block -/
def rlarr (c : LC) (first : St) (gi go : Nat) (now fr steps : Int) : Array Value := #[.int .i64 c.md, .int .i64 c.id, .int .i64 first.s0, .int .i64 first.s1, .int .i64 first.s2, .int .i64 first.s3, .bool c.lz, .pointer (some ⟨gi, 0, none⟩), .pointer (some ⟨go, 0, none⟩), .int .i64 now, .int .i64 fr, .int .i64 steps]
structure RLp (w : World) (c : LC) (first : St) (g gi go : Nat) (v1 v2 : Value) (L B : List Ev) (now fr steps : Int) : Prop where
  blk : Blk w g 60 (rlarr c first gi go now fr steps)
  q : RQ w gi v1 v2 L B
section
variable {w w' : World} {c : LC} {first : St} {g gi go : Nat} {v1 v2 : Value} {L B : List Ev} {now fr steps : Int} {S : Nat → Prop}
def rlfoot (g gi : Nat) (v1 v2 : Value) (k : Nat) : Prop := k = g ∨ foot gi v1 v2 k
theorem RLp.kept (h : RLp w c first g gi go v1 v2 L B now fr steps) (k : Keep S w w') (hS : ∀ i, rlfoot g gi v1 v2 i → ¬ S i) : RLp w' c first g gi go v1 v2 L B now fr steps := ⟨h.blk.keep k (hS g (.inl rfl)), h.q.kept k (fun i hi => hS i (.inr hi))⟩
theorem RLp.fresh (h : RLp w c first g gi go v1 v2 L B now fr steps) (k : Fresh w w') : RLp w' c first g gi go v1 v2 L B now fr steps := h.kept k (fun _ _ h => h)
theorem RLp.lt (h : RLp w c first g gi go v1 v2 L B now fr steps) (k : Nat) (hk : rlfoot g gi v1 v2 k) : k < w.heap.size := by
  rcases hk with rfl | hk
  · exact h.blk.lt
  · exact h.q.lt k hk
end
/-- the least time above one, or -1 -/
def nxv (l : List Ev) (a : Int) : Int := match nx l a with | some c => c | none => -1
theorem rnext_is {g : Nat} {v1 v2 : Value} {L B l : List Ev} {a : Int} {w : World} (h : RQ w g v1 v2 L B) (pl : L.Perm l) (sl : Srt l) (hl : L.length ≤ 100000) (hp : ∀ z ∈ l, 0 ≤ z.a) :
    Calls Tryz.prog 47 #[.pointer (some ⟨g, 0, none⟩), .int .i64 a] w fun e w' => e = .returned (.int .i64 (nxv l a)) ∧ Fresh w w' := by
  refine (rnext_any g v1 v2 L B a w h hl (fun z hz => hp z (pl.mem_iff.1 hz))).mono ?_
  rintro e w' ⟨r, rfl, h1, h2⟩
  have h3 := h1.of pl sl
  refine ⟨?_, h2⟩
  unfold nxv nx
  rw [h3]
  cases nextE l a <;> rfl
theorem rbatch_is {g : Nat} {v1 v2 : Value} {L B l : List Ev} {a : Int} {w : World} (h : RQ w g v1 v2 L B) (pl : L.Perm l) (sl : Srt l) (hl : L.length ≤ 100000) :
    Calls Tryz.prog 49 #[.pointer (some ⟨g, 0, none⟩), .int .i64 a] w fun e w' => ∃ v, e = .returned v ∧ OwnS w' 41 7 v (bat l a).length (cells (bat l a)) ∧ Fresh w w' ∧ ∀ k, v.ownBlock = some k → w.heap.size ≤ k := by
  refine (rbatch_any g v1 v2 L B a w h hl).mono ?_
  rintro e w' ⟨v, out, rfl, h1, h2, h3, h4, h5⟩
  have he : out = bat l a := srt_ext h1 (sl.filter_ _) (fun z => by
    rw [cnt_count, cnt_count]
    exact (h2.trans (List.Perm.filter _ pl)).count_eq z)
  subst he
  exact ⟨v, rfl, h3, h4, h5⟩
theorem insAll_snoc (l : List Ev) (e : Ev) : insAll (l ++ [e]) = ins (insAll l) e := by unfold insAll; rw [List.foldl_append]; rfl
/-- while New puts the events -/
structure RnI (w : World) (c : LC) (first : St) (g gi go : Nat) (l : List Ev) (i : Nat) (v1 v2 : Value) (L : List Ev) (wr : World) : Prop where
  f : Fresh w wr
  r : RLp wr c first g gi go v1 v2 L [] (-1) 0 0
  p : L.Perm (insAll (l.take i))
  x : ∀ k, rlfoot g gi v1 v2 k → w.heap.size ≤ k
theorem RnI.next {w wr w' : World} {c : LC} {first : St} {g gi go : Nat} {l : List Ev} {i : Nat} {v1 v2 v1' v2' : Value} {L L' B' : List Ev} {e : Ev} (h : RnI w c first g gi go l i v1 v2 L wr) (he : l[i]? = some e) (hg : ¬ foot gi v1 v2 g) (r : RQ w' gi v1' v2' L' B') (pl : L'.Perm (putL (insAll (l.take i)) [] e false)) (pm : B'.Perm (putB (insAll (l.take i)) [] e false)) (t : Turn wr w' gi v1 v2 v1' v2') : RnI w c first g gi go l (i + 1) v1' v2' L' w' ∧ B' = [] ∧ ¬ foot gi v1' v2' g := by
  have hhas : has ([] : List Ev) e = false := by
    cases hh : has ([] : List Ev) e
    · rfl
    · have := (has_mem (List.Pairwise.nil : Srt []) e).1 hh; cases this
  have e1 : putL (insAll (l.take i)) [] e false = ins (insAll (l.take i)) e := by unfold putL; simp [hhas]
  have e2 : putB (insAll (l.take i)) [] e false = [] := by unfold putB; simp [hhas]
  rw [e2] at pm
  rw [e1] at pl
  have hB := List.Perm.eq_nil pm
  subst hB
  refine ⟨⟨h.f.step t.keep (fun k hk hf => by have := h.x k (.inr hf); omega), ⟨h.r.blk.keep t.keep hg, r⟩, ?_, fun k hk => ?_⟩, rfl, fun hf => ?_⟩
  · rw [List.take_add_one, he, Option.toList_some, insAll_snoc]
    exact pl
  · rcases hk with rfl | hk
    · exact h.x _ (.inl rfl)
    · rcases t.later k hk with h1 | h1
      · exact h.x k (.inr h1)
      · have := h.f.size; omega
  · rcases t.later g hf with h1 | h1
    · exact hg h1
    · have := h.r.blk.lt; omega
/-- what New answers, where all events may stand -/
def RNewP (c : LC) (first : St) (l : List Ev) (w : World) (e : Ending) (w' : World) : Prop := ∃ g gi go v1 v2 L, e = .returned (.tuple #[.pointer (some ⟨g, 0, none⟩), .int .i64 0]) ∧ RLp w' c first g gi go v1 v2 L [] (-1) 0 0 ∧ L.Perm (insAll l) ∧ Fresh w w' ∧ (∀ k, rlfoot g gi v1 v2 k → w.heap.size ≤ k) ∧ ¬ foot gi v1 v2 g ∧ w.heap.size ≤ go ∧ Blk w' go 108 #[.slice none 0 0, .slice none 0 0]
end Go.Proofs.YthbcdkeammhakaaGreat

/-
  The document's process: Fold.
-/
namespace Go.Proofs.YthbcdkeammhakaaGreat
open Go.RowKit
attribute [local go_sem] Oper.semAt_some
attribute [local go_sem ↓] Go.wp_at_zero Go.wp_at_succ
def sarr (s : St) : Array Value := #[.int .i64 s.s0, .int .i64 s.s1, .int .i64 s.s2, .int .i64 s.s3]
def FoS (g : Nat) (cs : Array Value) (sb : Nat) (W : World) : Prop := Blk W g 60 cs ∧ ∃ s : St, Blk W sb 23 (sarr s)
theorem FoS.fresh {g : Nat} {cs : Array Value} {sb : Nat} {w w' : World} (h : FoS g cs sb w) (f : Fresh w w') : FoS g cs sb w' := ⟨f.blk_ h.1, h.2.elim fun s hs => ⟨s, f.blk_ hs⟩⟩
/-- what the last batch sends -/
def LastIs (C : Cfg) (l : List Ev) (a : Int) (lst : List Ev) : Prop := (a = -1 ∧ lst = []) ∨ lst = (C.R (foldT C.R l (a - 1) (-1) C.first).2.1 (bat l a)).2
/-- while Fold goes through the batches -/
structure FoI (w : World) (c : LC) (first : St) (l : List Ev) (sb : Nat) (tu a : Int) (s : St) (all lst : List Ev) (va vl : Value) (wr : World) : Prop where
  f : Fresh w wr
  fold : foldT (cfg c first).R l a (-1) first = (a, s, all)
  lo : -1 ≤ a
  up : a ≤ tu
  sb : Blk wr sb 23 (sarr s)
  oa : OwnS wr 41 7 va all.length (cells all)
  ol : OwnS wr 41 7 vl lst.length (cells lst)
  na : ∀ k, va.ownBlock = some k → w.heap.size ≤ k
  nl : ∀ k, vl.ownBlock = some k → w.heap.size ≤ k
  d : ∀ k, va.ownBlock = some k → vl.ownBlock ≠ some k
  last : LastIs (cfg c first) l a lst
def FoldP (c : LC) (first : St) (l : List Ev) (tu : Int) (w : World) (e : Ending) (w' : World) : Prop := ∃ va vl lst, e = .returned (.tuple #[(foldT (cfg c first).R l tu (-1) first).2.1.val, vl, va]) ∧ OwnS w' 41 7 va (foldT (cfg c first).R l tu (-1) first).2.2.length (cells (foldT (cfg c first).R l tu (-1) first).2.2) ∧ OwnS w' 41 7 vl lst.length (cells lst) ∧ LastIs (cfg c first) l (foldT (cfg c first).R l tu (-1) first).1 lst ∧ Fresh w w' ∧ (∀ k, va.ownBlock = some k → w.heap.size ≤ k) ∧ ∀ k, vl.ownBlock = some k → w.heap.size ≤ k
theorem FoI.done {w wr : World} {c : LC} {first : St} {l : List Ev} {sb : Nat} {tu a : Int} {s : St} {all lst : List Ev} {va vl : Value} (h : FoI w c first l sb tu a s all lst va vl wr) (hs : Srt l) (hn : ∀ x, nx l a = some x → tu < x) : foldT (cfg c first).R l tu (-1) first = (a, s, all) := by
  have e := foldT_comp (cfg c first).R hs h.up (-1) first
  rw [h.fold] at e
  simp only at e
  rw [foldT_stop _ hn] at e
  simpa using e
theorem FoI.fold_next {w wr : World} {c : LC} {first : St} {l : List Ev} {sb : Nat} {tu a x : Int} {s : St} {all lst : List Ev} {va vl : Value} (h : FoI w c first l sb tu a s all lst va vl wr) (hs : Srt l) (hx : nx l a = some x) : foldT (cfg c first).R l x (-1) first = (x, ((cfg c first).R s (bat l x)).1, all ++ ((cfg c first).R s (bat l x)).2) ∧ LastIs (cfg c first) l x ((cfg c first).R s (bat l x)).2 := by
  have h1 := (nx_some hs hx).1
  constructor
  · have e := foldT_comp (cfg c first).R hs (show a ≤ x by omega) (-1) first
    rw [h.fold] at e
    simp only at e
    rw [foldT_step _ hs hx (Int.le_refl x), foldT_stop _ (fun c' hc' => (nx_some hs hc').1)] at e
    simpa using e
  · right
    have e := foldT_comp (cfg c first).R hs (show a ≤ x - 1 by omega) (-1) first
    rw [h.fold] at e
    simp only at e
    rw [foldT_stop (l := l) (tu := x - 1) (a := a) (s := s) _ (fun c' hc' => by rw [hx] at hc'; injection hc' with hc'; omega)] at e
    show ((cfg c first).R s (bat l x)).2 = ((cfg c first).R (foldT (cfg c first).R l (x - 1) (-1) first).2.1 (bat l x)).2
    rw [e]
theorem fo_keep (W : World) (sb : Nat) (t0 t1 t2 t3 : Value) : Keep (fun k => k = sb) W ((((W.setCell ⟨sb, 0, none⟩ t0).setCell ⟨sb, 1, none⟩ t1).setCell ⟨sb, 2, none⟩ t2).setCell ⟨sb, 3, none⟩ t3) :=
  ((((Keep.refl (fun k => k = sb) W).setCell (p := ⟨sb, 0, none⟩) (fun _ => rfl) _).setCell (p := ⟨sb, 1, none⟩) (fun _ => rfl) _).setCell (p := ⟨sb, 2, none⟩) (fun _ => rfl) _).setCell (p := ⟨sb, 3, none⟩) (fun _ => rfl) _
theorem fo_blk {W : World} {sb : Nat} {a b c d : Value} (h : Blk W sb 23 #[a, b, c, d]) (t0 t1 t2 t3 : Value) : Blk ((((W.setCell ⟨sb, 0, none⟩ t0).setCell ⟨sb, 1, none⟩ t1).setCell ⟨sb, 2, none⟩ t2).setCell ⟨sb, 3, none⟩ t3) sb 23 #[t0, t1, t2, t3] := by
  simpa using (((h.set_ 0 t0).set_ 1 t1).set_ 2 t2).set_ 3 t3
theorem FoS.set {g : Nat} {cs : Array Value} {sb : Nat} {W : World} (h : FoS g cs sb W) (hne : sb ≠ g) (t0 t1 t2 t3 : Int) : FoS g cs sb ((((W.setCell ⟨sb, 0, none⟩ (.int .i64 t0)).setCell ⟨sb, 1, none⟩ (.int .i64 t1)).setCell ⟨sb, 2, none⟩ (.int .i64 t2)).setCell ⟨sb, 3, none⟩ (.int .i64 t3)) := by
  obtain ⟨h1, s, h2⟩ := h
  exact ⟨h1.keep (fo_keep W sb _ _ _ _) (fun e => hne e.symm), ⟨t0, t1, t2, t3⟩, fo_blk h2 _ _ _ _⟩
theorem fo_fin {wr w4 : World} {sb : Nat} {vo : Value} {out : List Ev} {a b c d : Value} (o4 : OwnS w4 41 7 vo out.length (cells out)) (b4 : Blk w4 sb 23 #[a, b, c, d]) (f4 : Fresh wr w4) (n4 : ∀ k, vo.ownBlock = some k → wr.heap.size ≤ k) (t0 t1 t2 t3 : Value) :
    OwnS ((((w4.setCell ⟨sb, 0, none⟩ t0).setCell ⟨sb, 1, none⟩ t1).setCell ⟨sb, 2, none⟩ t2).setCell ⟨sb, 3, none⟩ t3) 41 7 vo out.length (cells out) ∧ (∀ k, vo.ownBlock = some k → wr.heap.size ≤ k) ∧ Blk ((((w4.setCell ⟨sb, 0, none⟩ t0).setCell ⟨sb, 1, none⟩ t1).setCell ⟨sb, 2, none⟩ t2).setCell ⟨sb, 3, none⟩ t3) sb 23 #[t0, t1, t2, t3] ∧ Keep (fun k => k = sb) wr ((((w4.setCell ⟨sb, 0, none⟩ t0).setCell ⟨sb, 1, none⟩ t1).setCell ⟨sb, 2, none⟩ t2).setCell ⟨sb, 3, none⟩ t3) := by
  have kk := fo_keep w4 sb t0 t1 t2 t3
  exact ⟨o4.kept kk (fun k hk e => o4.ne_blk b4 (by decide) (e ▸ hk)), n4, fo_blk b4 _ _ _ _, (f4.more (fun _ _ h => h.elim)).step kk (fun _ _ h => h)⟩
theorem FoI.ends_ {w wr : World} {c : LC} {first : St} {l : List Ev} {sb : Nat} {tu a : Int} {s : St} {all lst : List Ev} {va vl : Value} (h : FoI w c first l sb tu a s all lst va vl wr) (b : Blk wr w.heap.size 23 #[.int .i64 0, .int .i64 0, .int .i64 0, .int .i64 0]) (hd : foldT (cfg c first).R l tu (-1) first = (a, s, all)) :
    FoldP c first l tu w (.returned (.tuple #[.agg #[.int .i64 s.s0, .int .i64 s.s1, .int .i64 s.s2, .int .i64 s.s3], vl, va])) ((((wr.setCell ⟨w.heap.size, 0, none⟩ (.int .i64 s.s0)).setCell ⟨w.heap.size, 1, none⟩ (.int .i64 s.s1)).setCell ⟨w.heap.size, 2, none⟩ (.int .i64 s.s2)).setCell ⟨w.heap.size, 3, none⟩ (.int .i64 s.s3)) := by
  have n1 : va.ownBlock ≠ some w.heap.size := h.oa.ne_blk b (by decide)
  have n2 : vl.ownBlock ≠ some w.heap.size := h.ol.ne_blk b (by decide)
  unfold FoldP
  rw [hd]
  exact ⟨va, vl, lst, rfl, (((h.oa.far (p := ⟨w.heap.size, 0, none⟩) n1 _).far (p := ⟨w.heap.size, 1, none⟩) n1 _).far (p := ⟨w.heap.size, 2, none⟩) n1 _).far (p := ⟨w.heap.size, 3, none⟩) n1 _,
    (((h.ol.far (p := ⟨w.heap.size, 0, none⟩) n2 _).far (p := ⟨w.heap.size, 1, none⟩) n2 _).far (p := ⟨w.heap.size, 2, none⟩) n2 _).far (p := ⟨w.heap.size, 3, none⟩) n2 _, h.last,
    (((h.f.setCell (p := ⟨w.heap.size, 0, none⟩) (fun h => absurd h (Nat.lt_irrefl _)) _).setCell (p := ⟨w.heap.size, 1, none⟩) (fun h => absurd h (Nat.lt_irrefl _)) _).setCell (p := ⟨w.heap.size, 2, none⟩) (fun h => absurd h (Nat.lt_irrefl _)) _).setCell (p := ⟨w.heap.size, 3, none⟩) (fun h => absurd h (Nat.lt_irrefl _)) _, h.na, h.nl⟩
set_option maxRecDepth 100000 in
set_option maxHeartbeats 16000000 in
theorem rfold_any (c : LC) (first : St) (g gi go : Nat) (v1 v2 : Value) (L B l : List Ev) (now fr steps tu : Int) (w : World) (h : RLp w c first g gi go v1 v2 L B now fr steps) (pl : L.Perm l) (sl : Srt l) (hl : l.length ≤ 1000) (hev : EvOk SmE l) (hid : 0 ≤ c.id ∧ c.id ≤ 31) (hmd : c.md < 1000) (hok : OkS first) (htu : -1 ≤ tu) :
    Calls Tryz.prog 23 #[.pointer (some ⟨g, 0, none⟩), .int .i64 tu] w (FoldP c first l tu w) := by
  have H := Lib.hid h
  have SL := Lib.hid sl
  have HEV := Lib.hid hev
  have HID := Lib.hid hid
  have HMD := Lib.hid hmd
  have HOK := Lib.hid hok
  have HLL : L.length ≤ 1000 := by rw [pl.length_eq]; exact hl
  have HNX : Hid (∀ W, Fresh w W → ∀ a, Calls Tryz.prog 47 #[.pointer (some ⟨gi, 0, none⟩), .int .i64 a] W fun e w' => e = .returned (.int .i64 (nxv l a)) ∧ Fresh W w') := Lib.hid fun W f a => rnext_is (h.q.fresh f) pl sl (by omega) (fun z hz => (hev z hz).2.1)
  have HBA : Hid (∀ W, Fresh w W → ∀ a, Calls Tryz.prog 49 #[.pointer (some ⟨gi, 0, none⟩), .int .i64 a] W fun e w' => ∃ v, e = .returned v ∧ OwnS w' 41 7 v (bat l a).length (cells (bat l a)) ∧ Fresh W w' ∧ ∀ k, v.ownBlock = some k → W.heap.size ≤ k) := Lib.hid fun W f a => rbatch_is (h.q.fresh f) pl sl (by omega)
  have cg := h.blk.cell
  have lg := h.blk.lt
  have CS := Lib.hid (show rlarr c first gi go now fr steps = #[.int .i64 c.md, .int .i64 c.id, .int .i64 first.s0, .int .i64 first.s1, .int .i64 first.s2, .int .i64 first.s3, .bool c.lz, .pointer (some ⟨gi, 0, none⟩), .pointer (some ⟨go, 0, none⟩), .int .i64 now, .int .i64 fr, .int .i64 steps] from rfl)
  unfold rlarr at cg
  clear h pl sl hev hid hmd hok
  go_enter Tryz.func23, Tryz.ntmps23
  go_wp2_with (go_at_call 47; (with_reducible refine (HNX.out _ (by (repeat (first | (with_reducible exact Keep.refl _ _) | (with_reducible assumption) | (with_reducible refine Keep.drew ?_) | (with_reducible refine Keep.drewN ?_ _) | (with_reducible refine Keep.alloc ?_ _) | (with_reducible refine Keep.setCell ?_ ?_ _) | (with_reducible refine fun _ => rfl)))) _).mono ?_); rintro e w1 ⟨rfl, f1⟩; have F1 := Lib.hid f1; clear f1)
  have BR1 : Hid (Blk w1 w.heap.size 23 #[.int .i64 0, .int .i64 0, .int .i64 0, .int .i64 0]) := Lib.hid (F1.out.blk_ ((Blk.new w _ _).alloc _))
  have SB1 : Hid (Blk w1 (w.heap.size + 1) 23 (sarr first)) := Lib.hid (F1.out.blk_ (Blk.at_new (by simp) _ _))
  have FW1 : Hid (Fresh w w1) := Lib.hid ((((Keep.refl (fun _ => False) w).alloc _).alloc _).step F1.out (fun _ _ h => h))
  obtain ⟨sb, hsb⟩ : ∃ sb, w.heap.size + 1 = sb := ⟨_, rfl⟩
  have NSB : Hid (w.heap.size ≤ sb ∧ sb ≠ w.heap.size ∧ sb ≠ g) := Lib.hid (by have := H.out.blk.lt; omega)
  rw [hsb] at SB1 ⊢
  have H1 : Hid (FoI w c first l sb tu (-1) first [] [] (.slice none 0 0) (.slice none 0 0) w1) := Lib.hid ⟨FW1.out, foldT_stop _ (fun c' hc' => (nx_some SL.out hc').1), Int.le_refl _, htu, SB1.out, OwnS.nil _ _ _, OwnS.nil _ _ _, by simp [Value.ownBlock], by simp [Value.ownBlock], by simp [Value.ownBlock], .inl ⟨rfl, rfl⟩⟩
  clear cg lg F1 hsb SB1 FW1
  go_loopg [8, 9, 10] (above l (-1)) (fun gk u8 u9 u10 wr => ∃ (a : Int) (s : St) (all lst : List Ev), gk = above l a ∧ u10 = .int .i64 (nxv l a) ∧ FoI w c first l sb tu a s all lst u9 u8 wr ∧ Blk wr w.heap.size 23 #[.int .i64 0, .int .i64 0, .int .i64 0, .int .i64 0])
  case atStart => exact ⟨-1, first, [], [], rfl, rfl, H1.out, BR1.out⟩
  case round =>
    clear H1 BR1
    obtain ⟨a, s, all, lst, rfl, rfl, hI, hbr⟩ := hrel
    have HI := Lib.hid hI
    have BR := Lib.hid hbr
    have HLEN : Hid (all.length ≤ 1000) := Lib.hid (by
      have h1 := fold_len (run_laws first HID.out) SL.out HEV.out a (-1) first HOK.out
      rw [hI.fold] at h1
      have h2 : above l (-1) ≤ l.length := List.countP_le_length
      simp only at h1
      omega)
    have HSO : Hid (OkS s) := Lib.hid (by
      have h1 := (fold_ok (run_laws first HID.out) SL.out HEV.out a (-1) first HOK.out).1
      rw [hI.fold] at h1
      exact h1)
    obtain ⟨A8, c8, rfl, _, _⟩ := hI.ol.shape
    obtain ⟨A9, c9, rfl, _, _⟩ := hI.oa.shape
    clear hbr
    cases hx : nx l a with
    | none =>
      have hv : nxv l a = -1 := by unfold nxv; rw [hx]
      rw [hv]
      have HD := Lib.hid (hI.done SL.out (fun x h => by rw [hx] at h; cases h))
      have b1 := hI.sb.cell
      have b2 := BR.out.cell
      have b3 := BR.out.frozen
      have b4 := BR.out.lt
      unfold sarr at b1
      clear hI hx hv
      go_wp2_with fail
      have CF := ((((BR.out.set_ 0 (.int .i64 s.s0)).set_ 1 (.int .i64 s.s1)).set_ 2 (.int .i64 s.s2)).set_ 3 (.int .i64 s.s3)).cell
      exact bodyPost_ret (v := .tuple #[.agg #[.int .i64 s.s0, .int .i64 s.s1, .int .i64 s.s2, .int .i64 s.s3], .slice A8 lst.length c8, .slice A9 all.length c9]) (by simp [results, Tryz.results23, go_sem, CF]; try rfl) rfl (HI.out.ends_ BR.out HD.out)
    | some x =>
      have hv : nxv l a = x := by unfold nxv; rw [hx]
      rw [hv]
      obtain ⟨hax, ⟨ey, hey, hya⟩, _⟩ := nx_some SL.out hx
      have hyr := (HEV.out ey hey).2
      have t0 : decide ((0 : Int) ≤ x) = true := decide_eq_true (by omega)
      have HX := Lib.hid hx
      by_cases hxt : x ≤ tu
      · have t1 : decide (x ≤ tu) = true := decide_eq_true hxt
        have FN := Lib.hid (hI.fold_next SL.out hx)
        have HXT := Lib.hid hxt
        have HAX := Lib.hid hax
        clear hI hx hv hey hya hyr hxt hax
        obtain ⟨⟨⟨t0', t1', t2', t3'⟩, out⟩, hRP⟩ : ∃ RP, runP c.md c.id s (bat l x) = RP := ⟨_, rfl⟩
        have HBE : Hid (∀ e ∈ bat l x, SmE e ∧ 0 ≤ e.a ∧ e.a ≤ 1073741824) := Lib.hid (fun e he => HEV.out e (List.mem_filter.1 he).1)
        have HBL : Hid ((bat l x).length ≤ 1000) := Lib.hid (Nat.le_trans (List.length_filter_le _ _) hl)
        have HRN : Hid (∀ W v, EvAt W v (bat l x) → Calls Tryz.prog 48 #[.agg #[.int .i64 c.md], .int .i64 c.id, .agg #[.int .i64 s.s0, .int .i64 s.s1, .int .i64 s.s2, .int .i64 s.s3], v] W fun en w' => ∃ v', en = .returned (.tuple #[.agg #[.int .i64 t0', .int .i64 t1', .int .i64 t2', .int .i64 t3'], v']) ∧ OwnS w' 41 7 v' out.length (cells out) ∧ Fresh W w' ∧ ∀ k, v'.ownBlock = some k → W.heap.size ≤ k) := Lib.hid fun W v hv => by
          have h := run_any c.md c.id s v (bat l x) W HID.out HMD.out HSO.out HBE.out hv HBL.out
          rw [hRP] at h
          exact h
        have FN2 : Hid (foldT (cfg c first).R l x (-1) first = (x, ⟨t0', t1', t2', t3'⟩, all ++ out) ∧ LastIs (cfg c first) l x out) := Lib.hid (by
          have h := FN.out
          have e : (cfg c first).R s (bat l x) = (⟨t0', t1', t2', t3'⟩, out) := hRP
          rw [e] at h
          exact h)
        clear hRP FN HBE
        go_wp2_with fail
        go_cut [8] (fun u8 wx => OwnS wx 41 7 u8 out.length (cells out) ∧ (∀ k, u8.ownBlock = some k → wr.heap.size ≤ k) ∧ Blk wx sb 23 #[.int .i64 t0', .int .i64 t1', .int .i64 t2', .int .i64 t3'] ∧ Keep (fun k => k = sb) wr wx)
        case first =>
          have FD : Hid (Fresh wr wr.drew) := Lib.hid (Keep.refl _ wr).drew
          have FWD : Hid (Fresh w wr.drew) := Lib.hid HI.out.f.drew
          have SB0 : Hid (Blk wr.drew sb 23 #[.int .i64 s.s0, .int .i64 s.s1, .int .i64 s.s2, .int .i64 s.s3]) := Lib.hid (HI.out.sb.drew)
          have HB0 : Hid (FoS g (rlarr c first gi go now fr steps) sb wr.drew) := Lib.hid ⟨(HI.out.f.blk_ H.out.blk).drew, s, SB0.out⟩
          have ya : ∀ (W : World) (_ : FoS g (rlarr c first gi go now fr steps) sb W) (jj : Nat), W.cell? ⟨g, jj, none⟩ = (#[.int .i64 c.md, .int .i64 c.id, .int .i64 first.s0, .int .i64 first.s1, .int .i64 first.s2, .int .i64 first.s3, .bool c.lz, .pointer (some ⟨gi, 0, none⟩), .pointer (some ⟨go, 0, none⟩), .int .i64 now, .int .i64 fr, .int .i64 steps] : Array Value)[jj]? := fun W h jj => by rw [← CS.out]; exact h.1.cell jj
          have HNE := Lib.hid NSB.out.2.2
          -- <fold
          refine region_T (S := fun W' => FoS g (rlarr c first gi go now fr steps) sb W') (T := []) (by kernel_rfl) ?_
          refine anyT_take (i := 0) (oi := _) (v := ?vf0) rfl (by kernel_rfl) (by kernel_rfl) (by kernel_rfl) (by kernel_rfl) (fun _ _ _ h => h) (Or.inl ⟨by rfl, ?hyf0⟩) HB0.out ?restf0
          case hyf0 => (intro W hSw; go_simp; try with_reducible rfl)
          try simp only [List.getElem_toArray, List.getElem_cons_zero, List.getElem_cons_succ, Act.put, List.setIfInBounds_toArray, List.set_cons_zero, List.set_cons_succ]
          refine anyT_take (i := 1) (oi := _) (v := ?vf1) rfl (by kernel_rfl) (by kernel_rfl) (by kernel_rfl) (by kernel_rfl) (fun _ _ _ h => h) (Or.inl ⟨by rfl, ?hyf1⟩) HB0.out ?restf1
          case hyf1 => (intro W hSw; go_simp; try with_reducible rfl)
          try simp only [List.getElem_toArray, List.getElem_cons_zero, List.getElem_cons_succ, Act.put, List.setIfInBounds_toArray, List.set_cons_zero, List.set_cons_succ]
          refine anyT_take (i := 2) (oi := _) (v := ?vf2) rfl (by kernel_rfl) (by kernel_rfl) (by kernel_rfl) (by kernel_rfl) (fun _ _ _ h => h) (Or.inl ⟨by rfl, ?hyf2⟩) HB0.out ?restf2
          case hyf2 => (intro W hSw; go_simp; try with_reducible rfl)
          try simp only [List.getElem_toArray, List.getElem_cons_zero, List.getElem_cons_succ, Act.put, List.setIfInBounds_toArray, List.set_cons_zero, List.set_cons_succ]
          refine anyT_take (i := 3) (oi := _) (v := ?vf3) rfl (by kernel_rfl) (by kernel_rfl) (by kernel_rfl) (by kernel_rfl) (fun _ _ _ h => h) (Or.inl ⟨by rfl, ?hyf3⟩) HB0.out ?restf3
          case hyf3 => (intro W hSw; go_simp; try with_reducible rfl)
          try simp only [List.getElem_toArray, List.getElem_cons_zero, List.getElem_cons_succ, Act.put, List.setIfInBounds_toArray, List.set_cons_zero, List.set_cons_succ]
          refine anyT_take (i := 4) (oi := _) (v := ?vf4) rfl (by kernel_rfl) (by kernel_rfl) (by kernel_rfl) (by kernel_rfl) (fun _ _ _ h => h) (Or.inl ⟨by rfl, ?hyf4⟩) HB0.out ?restf4
          case hyf4 => (intro W hSw; go_simp; try with_reducible rfl)
          try simp only [List.getElem_toArray, List.getElem_cons_zero, List.getElem_cons_succ, Act.put, List.setIfInBounds_toArray, List.set_cons_zero, List.set_cons_succ]
          refine anyT_take (i := 5) (oi := _) (v := ?vf5) rfl (by kernel_rfl) (by kernel_rfl) (by kernel_rfl) (by kernel_rfl) (fun _ _ _ h => h) (Or.inl ⟨by rfl, ?hyf5⟩) HB0.out ?restf5
          case hyf5 => (intro W hSw; go_simp; try with_reducible rfl)
          try simp only [List.getElem_toArray, List.getElem_cons_zero, List.getElem_cons_succ, Act.put, List.setIfInBounds_toArray, List.set_cons_zero, List.set_cons_succ]
          refine anyT_take (i := 6) (oi := _) (v := ?vf6) rfl (by kernel_rfl) (by kernel_rfl) (by kernel_rfl) (by kernel_rfl) (fun _ _ _ h => h) (Or.inl ⟨by rfl, ?hyf6⟩) HB0.out ?restf6
          case hyf6 => (intro W hSw; go_simp; try with_reducible rfl)
          try simp only [List.getElem_toArray, List.getElem_cons_zero, List.getElem_cons_succ, Act.put, List.setIfInBounds_toArray, List.set_cons_zero, List.set_cons_succ]
          refine anyT_take (i := 7) (oi := _) (v := ?vf7) rfl (by kernel_rfl) (by kernel_rfl) (by kernel_rfl) (by kernel_rfl) (fun _ _ _ h => h) (Or.inl ⟨by rfl, ?hyf7⟩) HB0.out ?restf7
          case hyf7 => (intro W hSw; go_simp; try with_reducible rfl)
          try simp only [List.getElem_toArray, List.getElem_cons_zero, List.getElem_cons_succ, Act.put, List.setIfInBounds_toArray, List.set_cons_zero, List.set_cons_succ]
          refine anyT_take (i := 9) (oi := _) (v := ?vf9) rfl (by kernel_rfl) (by kernel_rfl) (by kernel_rfl) (by kernel_rfl) (fun _ _ _ h => h) (Or.inl ⟨by rfl, ?hyf9⟩) HB0.out ?restf9
          case hyf9 => (intro W hSw; go_simp; try with_reducible rfl)
          try simp only [List.getElem_toArray, List.getElem_cons_zero, List.getElem_cons_succ, Act.put, List.setIfInBounds_toArray, List.set_cons_zero, List.set_cons_succ]
          refine anyT_take (i := 10) (oi := _) (v := ?vf10) rfl (by kernel_rfl) (by kernel_rfl) (by kernel_rfl) (by kernel_rfl) (fun _ _ _ h => h) (Or.inl ⟨by rfl, ?hyf10⟩) HB0.out ?restf10
          case hyf10 => (intro W hSw; go_simp; try with_reducible rfl)
          try simp only [List.getElem_toArray, List.getElem_cons_zero, List.getElem_cons_succ, Act.put, List.setIfInBounds_toArray, List.set_cons_zero, List.set_cons_succ]
          refine anyT_take (i := 11) (oi := _) (v := ?vf11) rfl (by kernel_rfl) (by kernel_rfl) (by kernel_rfl) (by kernel_rfl) (fun _ _ _ h => h) (Or.inl ⟨by rfl, ?hyf11⟩) HB0.out ?restf11
          case hyf11 => (intro W hSw; go_simp; try with_reducible rfl)
          try simp only [List.getElem_toArray, List.getElem_cons_zero, List.getElem_cons_succ, Act.put, List.setIfInBounds_toArray, List.set_cons_zero, List.set_cons_succ]
          refine anyT_take (i := 12) (oi := _) (v := ?vf12) rfl (by kernel_rfl) (by kernel_rfl) (by kernel_rfl) (by kernel_rfl) (fun _ _ _ h => h) (Or.inl ⟨by rfl, ?hyf12⟩) HB0.out ?restf12
          case hyf12 => (intro W hSw; go_simp; try with_reducible rfl)
          try simp only [List.getElem_toArray, List.getElem_cons_zero, List.getElem_cons_succ, Act.put, List.setIfInBounds_toArray, List.set_cons_zero, List.set_cons_succ]
          refine anyT_take (i := 13) (oi := _) (v := ?vf13) rfl (by kernel_rfl) (by kernel_rfl) (by kernel_rfl) (by kernel_rfl) (fun _ _ _ h => h) (Or.inl ⟨by rfl, ?hyf13⟩) HB0.out ?restf13
          case hyf13 => (intro W hSw; go_simp; try with_reducible rfl)
          try simp only [List.getElem_toArray, List.getElem_cons_zero, List.getElem_cons_succ, Act.put, List.setIfInBounds_toArray, List.set_cons_zero, List.set_cons_succ]
          refine anyT_two (i := 8) (j := 14) (by kernel_rfl) rfl rfl (by rfl) (by rfl) (fun KQ hK => ?_) (fun KQ hK => ?_)
          · have sc0 := SB0.out.cell
            go_simp
            refine hK.out _ _ HB0.out ?_
            clear hK KQ sc0
            try simp only [List.getElem_toArray, List.getElem_cons_zero, List.getElem_cons_succ, Act.put, List.setIfInBounds_toArray, List.set_cons_zero, List.set_cons_succ]
            refine anyT_one' (i := 14) (by kernel_rfl) rfl (by rfl) (fun KQ hK => ?_)
            go_simp
            go_at_call 49
            (with_reducible refine (HBA.out _ FWD.out _).mono ?_)
            rintro en w3 ⟨vb, rfl, o3, f3, n3⟩
            have O3 := Lib.hid o3
            have F3 : Hid (Fresh wr w3) := Lib.hid (FD.out.step f3 (fun _ _ h => h))
            have N3 := Lib.hid n3
            have HB3 : Hid (FoS g (rlarr c first gi go now fr steps) sb w3) := Lib.hid (HB0.out.fresh f3)
            have SB3 : Hid (Blk w3 sb 23 #[.int .i64 s.s0, .int .i64 s.s1, .int .i64 s.s2, .int .i64 s.s3]) := Lib.hid (f3.blk_ SB0.out)
            clear o3 f3 n3
            refine hK.out _ _ HB3.out ?_
            clear hK KQ
            try simp only [List.getElem_toArray, List.getElem_cons_zero, List.getElem_cons_succ, Act.put, List.setIfInBounds_toArray, List.set_cons_zero, List.set_cons_succ]
            refine anyT_one' (i := 15) (by kernel_rfl) rfl (by rfl) (fun KQ hK => ?_)
            go_simp
            go_at_call 48
            (with_reducible refine (HRN.out _ _ O3.out.evs).mono ?_)
            rintro en w4 ⟨vo, rfl, o4, f4, n4⟩
            have O4 := Lib.hid o4
            have F4 : Hid (Fresh wr w4) := Lib.hid (F3.out.step f4 (fun _ _ h => h))
            have N4 := Lib.hid n4
            have HB4 : Hid (FoS g (rlarr c first gi go now fr steps) sb w4) := Lib.hid (HB3.out.fresh f4)
            have SB4 : Hid (Blk w4 sb 23 #[.int .i64 s.s0, .int .i64 s.s1, .int .i64 s.s2, .int .i64 s.s3]) := Lib.hid (f4.blk_ SB3.out)
            clear o4 f4 n4
            refine hK.out _ _ HB4.out ?_
            clear hK KQ
            try simp only [List.getElem_toArray, List.getElem_cons_zero, List.getElem_cons_succ, Act.put, List.setIfInBounds_toArray, List.set_cons_zero, List.set_cons_succ]
            refine anyT_take (i := 16) (oi := _) (v := ?vg16) rfl (by kernel_rfl) (by kernel_rfl) (by kernel_rfl) (by kernel_rfl) (fun _ _ _ h => h) (Or.inl ⟨by rfl, ?hyg16⟩) HB4.out ?restg16
            case hyg16 => (intro W hSw; go_simp; try with_reducible rfl)
            try simp only [List.getElem_toArray, List.getElem_cons_zero, List.getElem_cons_succ, Act.put, List.setIfInBounds_toArray, List.set_cons_zero, List.set_cons_succ]
            refine anyT_take (i := 17) (oi := _) (v := ?vg17) rfl (by kernel_rfl) (by kernel_rfl) (by kernel_rfl) (by kernel_rfl) (fun _ _ _ h => h) (Or.inl ⟨by rfl, ?hyg17⟩) HB4.out ?restg17
            case hyg17 => (intro W hSw; go_simp; try with_reducible rfl)
            try simp only [List.getElem_toArray, List.getElem_cons_zero, List.getElem_cons_succ, Act.put, List.setIfInBounds_toArray, List.set_cons_zero, List.set_cons_succ]
            refine anyT_take (i := 18) (oi := _) (v := ?vg18) rfl (by kernel_rfl) (by kernel_rfl) (by kernel_rfl) (by kernel_rfl) (fun _ _ _ h => h) (Or.inl ⟨by rfl, ?hyg18⟩) HB4.out ?restg18
            case hyg18 => (intro W hSw; go_simp; try with_reducible rfl)
            try simp only [List.getElem_toArray, List.getElem_cons_zero, List.getElem_cons_succ, Act.put, List.setIfInBounds_toArray, List.set_cons_zero, List.set_cons_succ]
            refine anyT_one' (i := 19) (by kernel_rfl) rfl (by rfl) (fun KQ hK => ?_)
            have sc4 := SB4.out.cell
            have sf4 := SB4.out.frozen
            have sl4 := SB4.out.lt
            go_simp
            refine hK.out _ _ (HB4.out.set HNE.out t0' t1' t2' t3') ?_
            clear hK KQ sc4 sf4 sl4
            try simp only [List.getElem_toArray, List.getElem_cons_zero, List.getElem_cons_succ, Act.put, List.setIfInBounds_toArray, List.set_cons_zero, List.set_cons_succ]
            refine anyT_take (i := 20) (oi := _) (v := ?vg20) rfl (by kernel_rfl) (by kernel_rfl) (by kernel_rfl) (by kernel_rfl) (fun _ _ _ h => h) (Or.inl ⟨by rfl, ?hyg20⟩) (HB4.out.set HNE.out t0' t1' t2' t3') ?restg20
            case hyg20 => (intro W hSw; go_simp; try with_reducible rfl)
            try simp only [List.getElem_toArray, List.getElem_cons_zero, List.getElem_cons_succ, Act.put, List.setIfInBounds_toArray, List.set_cons_zero, List.set_cons_succ]
            refine anyT_done (by kernel_rfl) ?_
            go_wp2_with fail
            go_meet
            exact fo_fin O4.out SB4.out F4.out (fun k hk => Nat.le_trans F3.out.size (N4.out k hk)) _ _ _ _
          · go_simp
            go_at_call 49
            (with_reducible refine (HBA.out _ FWD.out _).mono ?_)
            rintro en w3 ⟨vb, rfl, o3, f3, n3⟩
            have O3 := Lib.hid o3
            have F3 : Hid (Fresh wr w3) := Lib.hid (FD.out.step f3 (fun _ _ h => h))
            have N3 := Lib.hid n3
            have HB3 : Hid (FoS g (rlarr c first gi go now fr steps) sb w3) := Lib.hid (HB0.out.fresh f3)
            have SB3 : Hid (Blk w3 sb 23 #[.int .i64 s.s0, .int .i64 s.s1, .int .i64 s.s2, .int .i64 s.s3]) := Lib.hid (f3.blk_ SB0.out)
            clear o3 f3 n3
            refine hK.out _ _ HB3.out ?_
            clear hK KQ
            try simp only [List.getElem_toArray, List.getElem_cons_zero, List.getElem_cons_succ, Act.put, List.setIfInBounds_toArray, List.set_cons_zero, List.set_cons_succ]
            refine anyT_one' (i := 8) (by kernel_rfl) rfl (by rfl) (fun KQ hK => ?_)
            have sc3 := SB3.out.cell
            go_simp
            refine hK.out _ _ HB3.out ?_
            clear hK KQ sc3
            try simp only [List.getElem_toArray, List.getElem_cons_zero, List.getElem_cons_succ, Act.put, List.setIfInBounds_toArray, List.set_cons_zero, List.set_cons_succ]
            refine anyT_one' (i := 15) (by kernel_rfl) rfl (by rfl) (fun KQ hK => ?_)
            go_simp
            go_at_call 48
            (with_reducible refine (HRN.out _ _ O3.out.evs).mono ?_)
            rintro en w4 ⟨vo, rfl, o4, f4, n4⟩
            have O4 := Lib.hid o4
            have F4 : Hid (Fresh wr w4) := Lib.hid (F3.out.step f4 (fun _ _ h => h))
            have N4 := Lib.hid n4
            have HB4 : Hid (FoS g (rlarr c first gi go now fr steps) sb w4) := Lib.hid (HB3.out.fresh f4)
            have SB4 : Hid (Blk w4 sb 23 #[.int .i64 s.s0, .int .i64 s.s1, .int .i64 s.s2, .int .i64 s.s3]) := Lib.hid (f4.blk_ SB3.out)
            clear o4 f4 n4
            refine hK.out _ _ HB4.out ?_
            clear hK KQ
            try simp only [List.getElem_toArray, List.getElem_cons_zero, List.getElem_cons_succ, Act.put, List.setIfInBounds_toArray, List.set_cons_zero, List.set_cons_succ]
            refine anyT_take (i := 16) (oi := _) (v := ?vh16) rfl (by kernel_rfl) (by kernel_rfl) (by kernel_rfl) (by kernel_rfl) (fun _ _ _ h => h) (Or.inl ⟨by rfl, ?hyh16⟩) HB4.out ?resth16
            case hyh16 => (intro W hSw; go_simp; try with_reducible rfl)
            try simp only [List.getElem_toArray, List.getElem_cons_zero, List.getElem_cons_succ, Act.put, List.setIfInBounds_toArray, List.set_cons_zero, List.set_cons_succ]
            refine anyT_take (i := 17) (oi := _) (v := ?vh17) rfl (by kernel_rfl) (by kernel_rfl) (by kernel_rfl) (by kernel_rfl) (fun _ _ _ h => h) (Or.inl ⟨by rfl, ?hyh17⟩) HB4.out ?resth17
            case hyh17 => (intro W hSw; go_simp; try with_reducible rfl)
            try simp only [List.getElem_toArray, List.getElem_cons_zero, List.getElem_cons_succ, Act.put, List.setIfInBounds_toArray, List.set_cons_zero, List.set_cons_succ]
            refine anyT_take (i := 18) (oi := _) (v := ?vh18) rfl (by kernel_rfl) (by kernel_rfl) (by kernel_rfl) (by kernel_rfl) (fun _ _ _ h => h) (Or.inl ⟨by rfl, ?hyh18⟩) HB4.out ?resth18
            case hyh18 => (intro W hSw; go_simp; try with_reducible rfl)
            try simp only [List.getElem_toArray, List.getElem_cons_zero, List.getElem_cons_succ, Act.put, List.setIfInBounds_toArray, List.set_cons_zero, List.set_cons_succ]
            refine anyT_one' (i := 19) (by kernel_rfl) rfl (by rfl) (fun KQ hK => ?_)
            have sc4 := SB4.out.cell
            have sf4 := SB4.out.frozen
            have sl4 := SB4.out.lt
            go_simp
            refine hK.out _ _ (HB4.out.set HNE.out t0' t1' t2' t3') ?_
            clear hK KQ sc4 sf4 sl4
            try simp only [List.getElem_toArray, List.getElem_cons_zero, List.getElem_cons_succ, Act.put, List.setIfInBounds_toArray, List.set_cons_zero, List.set_cons_succ]
            refine anyT_take (i := 20) (oi := _) (v := ?vh20) rfl (by kernel_rfl) (by kernel_rfl) (by kernel_rfl) (by kernel_rfl) (fun _ _ _ h => h) (Or.inl ⟨by rfl, ?hyh20⟩) (HB4.out.set HNE.out t0' t1' t2' t3') ?resth20
            case hyh20 => (intro W hSw; go_simp; try with_reducible rfl)
            try simp only [List.getElem_toArray, List.getElem_cons_zero, List.getElem_cons_succ, Act.put, List.setIfInBounds_toArray, List.set_cons_zero, List.set_cons_succ]
            refine anyT_done (by kernel_rfl) ?_
            go_wp2_with fail
            go_meet
            exact fo_fin O4.out SB4.out F4.out (fun k hk => Nat.le_trans F3.out.size (N4.out k hk)) _ _ _ _
          -- fold>
        case rest =>
          obtain ⟨ho, hn, hsb, hk⟩ := hcut
          obtain ⟨A10, c10, rfl, _, _⟩ := ho.shape
          have NS := NSB.out
          have OO := Lib.hid ho
          have NO := Lib.hid hn
          have SC := Lib.hid hsb
          have KC := Lib.hid hk
          have FC : Hid (Fresh w wc) := Lib.hid (HI.out.f.step hk (fun k h e => by omega))
          have VC := Lib.hid (HI.out.oa.kept hk (fun k h e => HI.out.oa.ne_blk HI.out.sb (by decide) (e ▸ h)))
          have BC := Lib.hid (BR.out.keep hk (fun e => NS.2.1 e.symm))
          have DO : Hid (∀ k, (Value.slice A10 out.length c10).ownBlock = some k → ¬ (Value.slice A9 all.length c9).ownBlock = some k) := Lib.hid (fun k h1 h2 => by have := hn k h1; have := HI.out.oa.lt h2; omega)
          obtain ⟨i0, hi9, hz0, hz1, hz2⟩ := info_parts info_ev
          have h07 : Hid (0 < 7) := Lib.hid (by omega)
          have HOL : Hid (out.length ≤ 2000) := Lib.hid (by
            have h1 := fold_len (run_laws first HID.out) SL.out HEV.out x (-1) first HOK.out
            rw [FN2.out.1] at h1
            have h2 : above l (-1) ≤ l.length := List.countP_le_length
            simp only [List.length_append] at h1
            omega)
          have hL1 := Lib.hid (show all.length + out.length ≤ maxLen by have := HLEN.out; have := HOL.out; unfold maxLen; omega)
          have hL2 := Lib.hid (show (all.length + out.length) * 56 ≤ 140737488355328 by have := HLEN.out; have := HOL.out; omega)
          clear ho hn hsb hk NS HBL HRN HSO
          go_wp2_with (first
            | (at_builtin; refine wpList_append_OwnS _ rfl _ _ 24 rfl 41 i0 _ 7 56 Tryz.underlying24 hi9 hz0 hz1 hz2 rfl h07.out (.slice A9 all.length c9) all.length (cells all) rfl VC.out (.slice A10 out.length c10) out.length (cells out) rfl OO.out.src (cells_one _) hL1.out hL2.out ?_; intro v5 w5 o5 k5 n5; have O5 := Lib.hid o5; have K5 := Lib.hid k5; have N5 := Lib.hid n5; have F5 : Hid (Fresh w w5) := Lib.hid (FC.out.step k5 (fun k h e => by have := HI.out.na k e; omega)); have cg5 := (H.out.fresh F5.out).blk.cell; have lg5 := (H.out.fresh F5.out).blk.lt; unfold rlarr at cg5; clear o5 k5 n5)
            | (go_at_call 47; (with_reducible refine (HNX.out _ F5.out _).mono ?_); rintro e w6 ⟨rfl, f6⟩; have F6 : Hid (Fresh w5 w6) := Lib.hid f6; clear f6))
          go_roundg (above l x)
          case measure => exact above_lt HAX.out (nx_some SL.out HX.out).2.1
          case rel =>
            have hne : ∀ k, (Value.slice A9 all.length c9).ownBlock = some k → ¬ k = sb := fun k h e => VC.out.ne_blk SC.out (by decide) (e ▸ h)
            have hnr : ∀ k, (Value.slice A9 all.length c9).ownBlock = some k → ¬ k = w.heap.size := fun k h e => VC.out.ne_blk BC.out (by decide) (e ▸ h)
            refine ⟨x, ⟨t0', t1', t2', t3'⟩, all ++ out, out, rfl, rfl, ⟨F5.out.step F6.out (fun _ _ h => h), FN2.out.1, by have := HAX.out; have := HI.out.lo; omega, HXT.out, (SC.out.keep K5.out (fun e => hne _ e rfl)).keep F6.out (fun h => h), ?_, (OO.out.kept K5.out DO.out).fresh F6.out, fun k hk => ?_, fun k hk => Nat.le_trans HI.out.f.size (NO.out k hk), fun k hk h2 => ?_, FN2.out.2⟩, (BC.out.keep K5.out (fun e => hnr _ e rfl)).keep F6.out (fun h => h)⟩
            · rw [List.length_append, cells_append]
              exact O5.out.fresh F6.out
            · rcases N5.out k hk with h | h
              · exact HI.out.na k h
              · have := FC.out.size; omega
            · rcases N5.out k hk with h | h
              · exact DO.out k h2 h
              · have := OO.out.lt h2; omega
      · have t1 : decide (x ≤ tu) = false := decide_eq_false hxt
        have HD := Lib.hid (hI.done SL.out (fun y h => by rw [hx] at h; injection h with h; omega))
        have b1 := hI.sb.cell
        have b2 := BR.out.cell
        have b3 := BR.out.frozen
        have b4 := BR.out.lt
        unfold sarr at b1
        clear hI hx hv hey hya hyr hxt hax
        go_wp2_with fail
        have CF := ((((BR.out.set_ 0 (.int .i64 s.s0)).set_ 1 (.int .i64 s.s1)).set_ 2 (.int .i64 s.s2)).set_ 3 (.int .i64 s.s3)).cell
        exact bodyPost_ret (v := .tuple #[.agg #[.int .i64 s.s0, .int .i64 s.s1, .int .i64 s.s2, .int .i64 s.s3], .slice A8 lst.length c8, .slice A9 all.length c9]) (by simp [results, Tryz.results23, go_sem, CF]; try rfl) rfl (HI.out.ends_ BR.out HD.out)
end Go.Proofs.YthbcdkeammhakaaGreat

/-
  The document's process: New, where all events may stand.
-/
namespace Go.Proofs.YthbcdkeammhakaaGreat
open Go.RowKit
attribute [local go_sem] Oper.semAt_some
attribute [local go_sem ↓] Go.wp_at_zero Go.wp_at_succ
def RnS (w : World) (c : LC) (first : St) (g gi go : Nat) (W : World) : Prop := Fresh w W ∧ Blk W g 60 (rlarr c first gi go (-1) 0 0)
theorem RnI.fresh {w wr w' : World} {c : LC} {first : St} {g gi go : Nat} {l : List Ev} {i : Nat} {v1 v2 : Value} {L : List Ev} (h : RnI w c first g gi go l i v1 v2 L wr) (f : Fresh wr w') : RnI w c first g gi go l i v1 v2 L w' := ⟨h.f.step f (fun _ _ h => h), h.r.fresh f, h.p, h.x⟩
set_option maxRecDepth 100000 in
set_option maxHeartbeats 8000000 in
theorem rnew_ok (c : LC) (first : St) (A : Option Addr) (cA : Nat) (l : List Ev) (w : World) (h : EvAt w (.slice A l.length cA) l) (hl : l.length ≤ 1000) (hn : ∀ e ∈ l, e.d = c.id ∧ 0 ≤ e.a ∧ e.a ≤ 1073741824) :
    Calls Tryz.prog 21 #[.agg #[.int .i64 c.md], .int .i64 c.id, first.val, .bool c.lz, .slice A l.length cA] w (RNewP c first l w) := by
  obtain ⟨A', c', hv, hat⟩ := h
  injection hv with hv1 _ hv2
  subst hv1 hv2
  have HA := Lib.hid hat
  have HN := Lib.hid hn
  unfold St.val
  clear hat hn
  go_enter Tryz.func21, Tryz.ntmps21
  go_wp2_with fail
  obtain ⟨gi, hgi⟩ : ∃ gi, w.heap.size + 1 + 1 = gi := ⟨_, rfl⟩
  obtain ⟨W0, hW0⟩ : ∃ W0, (((((w.alloc (.cells #[.int .i64 c.md] 55)).alloc (.cells #[.int .i64 first.s0, .int .i64 first.s1, .int .i64 first.s2, .int .i64 first.s3] 23)).alloc (.cells #[.slice none 0 0, .slice none 0 0] 105)).alloc (.cells #[.slice none 0 0, .slice none 0 0] 108)).alloc (.cells #[.int .i64 c.md, .int .i64 c.id, .int .i64 first.s0, .int .i64 first.s1, .int .i64 first.s2, .int .i64 first.s3, .bool c.lz, .pointer (some ⟨w.heap.size + 1 + 1, 0, none⟩), .pointer (some ⟨w.heap.size + 1 + 1 + 1, 0, none⟩), .int .i64 (-1), .int .i64 0, .int .i64 0] 60)) = W0 := ⟨_, rfl⟩
  have BG : Hid (Blk W0 (w.heap.size + 1 + 1 + 1 + 1) 60 (rlarr c first (w.heap.size + 1 + 1) (w.heap.size + 1 + 1 + 1) (-1) 0 0)) := Lib.hid (hW0 ▸ Blk.at_new (by simp) _ _)
  have BI : Hid (Blk W0 (w.heap.size + 1 + 1) 105 #[.slice none 0 0, .slice none 0 0]) := Lib.hid (hW0 ▸ ((Blk.at_new (by simp) _ _).alloc _).alloc _)
  have BO : Hid (Blk W0 (w.heap.size + 1 + 1 + 1) 108 #[.slice none 0 0, .slice none 0 0]) := Lib.hid (hW0 ▸ (Blk.at_new (by simp) _ _).alloc _)
  have FW : Hid (Fresh w W0) := Lib.hid (hW0 ▸ (((((Keep.refl _ w).alloc _).alloc _).alloc _).alloc _).alloc _)
  rw [hW0]
  clear hW0 hgi gi
  obtain ⟨gi, hgi⟩ : ∃ gi, w.heap.size + 1 + 1 = gi := ⟨_, rfl⟩
  rw [hgi] at BG BI BO ⊢
  obtain ⟨go, hgo⟩ : ∃ go, gi + 1 = go := ⟨_, rfl⟩
  rw [hgo] at BG BO ⊢
  obtain ⟨g, hg⟩ : ∃ g, go + 1 = g := ⟨_, rfl⟩
  rw [hg] at BG ⊢
  have HGG : Hid (w.heap.size ≤ gi ∧ w.heap.size ≤ go ∧ w.heap.size ≤ g ∧ g ≠ gi ∧ go ≠ gi) := Lib.hid (by omega)
  have H0 : Hid (RnI w c first g gi go l 0 (.slice none 0 0) (.slice none 0 0) [] W0 ∧ ¬ foot gi (.slice none 0 0) (.slice none 0 0) g) := Lib.hid ⟨⟨FW.out, ⟨BG.out, ⟨BI.out, OwnS.nil _ _ _, OwnS.nil _ _ _, by simp [Value.ownBlock]⟩⟩, List.Perm.refl _, fun k hk => by
    rcases hk with rfl | rfl | hk | hk
    · exact HGG.out.2.2.1
    · exact HGG.out.1
    · simp [Value.ownBlock] at hk
    · simp [Value.ownBlock] at hk⟩, fun hk => by
    rcases hk with hk | hk | hk
    · exact HGG.out.2.2.2.1 hk
    · simp [Value.ownBlock] at hk
    · simp [Value.ownBlock] at hk⟩
  have H1 : Hid (¬ foot gi (.slice none 0 0) (.slice none 0 0) go ∧ Blk W0 go 108 #[.slice none 0 0, .slice none 0 0]) := Lib.hid ⟨fun hk => by
    rcases hk with hk | hk | hk
    · exact HGG.out.2.2.2.2 hk
    · simp [Value.ownBlock] at hk
    · simp [Value.ownBlock] at hk, BO.out⟩
  clear BG BI BO FW hgi hgo hg
  go_loopg [13, 14, 15] l.length (fun gk u13 u14 u15 wr => ∃ (i : Nat) (v1 v2 : Value) (L : List Ev), i ≤ l.length ∧ gk = l.length - i ∧ u13 = .int .i64 i ∧ RnI w c first g gi go l i v1 v2 L wr ∧ ¬ foot gi v1 v2 g ∧ ¬ foot gi v1 v2 go ∧ Blk wr go 108 #[.slice none 0 0, .slice none 0 0])
  case atStart => exact ⟨0, _, _, [], by omega, rfl, rfl, H0.out.1, H0.out.2, H1.out.1, H1.out.2⟩
  case round =>
    clear H0 H1
    obtain ⟨i, v1, v2, L, hi, rfl, rfl, hI, hg1, hg2, hbo⟩ := hrel
    have HI := Lib.hid hI
    have HG := Lib.hid hg1
    have HGO := Lib.hid hg2
    have BO := Lib.hid hbo
    clear hI hg1 hg2 hbo
    by_cases hlt : i < l.length
    · obtain ⟨e, he⟩ : ∃ e, l[i]? = some e := ⟨_, List.getElem?_eq_getElem hlt⟩
      have HE := Lib.hid he
      obtain ⟨b, off, rfl, ltb, hO⟩ := HA.out i e he
      have hne := HN.out e (List.mem_of_getElem? he)
      have CX : Hid (∀ W, Fresh w W → ∀ jj u, e.enc[jj]? = some u → W.cell? ⟨b, off + i * 7 + jj, none⟩ = some u) := Lib.hid (fun W f jj u hu => f.cell_ (hO jj u hu))
      have z4 := CX.out wr HI.out.f 4 _ rfl
      have td : (e.d == c.id) = true := by simpa using hne.1
      have td' : (e.d != c.id) = false := by simp [hne.1]
      have hLl : L.length ≤ 10000 := by have h1 := HI.out.p.length_eq; rw [insAll_len, List.length_take] at h1; omega
      have HP : Hid (∀ W, Fresh wr W → Calls Tryz.prog 22 #[.pointer (some ⟨gi, 0, none⟩), .agg #[.int .i64 e.a, .int .i64 e.s, .int .i64 e.t, .int .i64 e.n, .int .i64 e.d, .int .i64 e.k, .int .i64 e.x, .bool false]] W (RPutP gi v1 v2 (insAll (l.take i)) [] e false W)) := Lib.hid (fun W f => rput_any gi v1 v2 L [] _ [] e false W (HI.out.r.q.fresh f) (insAll_srt _) List.Pairwise.nil HI.out.p (List.Perm.refl _) hLl (by simp) hne.2)
      have tq : decide ((i : Int) < (l.length : Int)) = true := decide_eq_true (by omega)
      have tq' : decide (i < l.length) = true := decide_eq_true hlt
      have q1 : (i : Int) < (l.length : Int) := by omega
      have HB0 : Hid (RnS w c first g gi go wr.drew) := Lib.hid ⟨HI.out.f.drew, HI.out.r.blk.drew⟩
      clear he hO hne hLl ltb
      go_wp2_with fail
      clear z4
      have ya := fun (W : World) (h : RnS w c first g gi go W) (jj : Nat) => h.2.cell jj
      have z0 := fun (W : World) (h : RnS w c first g gi go W) => (Nat.add_zero (off + i * 7)) ▸ CX.out W h.1 0 _ rfl
      have z1 := fun (W : World) (h : RnS w c first g gi go W) => CX.out W h.1 1 _ rfl
      have z2 := fun (W : World) (h : RnS w c first g gi go W) => CX.out W h.1 2 _ rfl
      have z3 := fun (W : World) (h : RnS w c first g gi go W) => CX.out W h.1 3 _ rfl
      have z4 := fun (W : World) (h : RnS w c first g gi go W) => CX.out W h.1 4 _ rfl
      have z5 := fun (W : World) (h : RnS w c first g gi go W) => CX.out W h.1 5 _ rfl
      have z6 := fun (W : World) (h : RnS w c first g gi go W) => CX.out W h.1 6 _ rfl
      unfold rlarr at ya
      -- <new
      refine region_T (S := fun W' => RnS w c first g gi go W') (T := []) (by kernel_rfl) ?_
      refine anyT_take (i := 0) (oi := _) (v := ?vn0) rfl (by kernel_rfl) (by kernel_rfl) (by kernel_rfl) (by kernel_rfl) (fun _ _ _ h => h) (Or.inl ⟨by rfl, ?hyn0⟩) HB0.out ?restn0
      case hyn0 => (intro W hSw; go_simp; try with_reducible rfl)
      try simp only [List.getElem_toArray, List.getElem_cons_zero, List.getElem_cons_succ, Act.put, List.setIfInBounds_toArray, List.set_cons_zero, List.set_cons_succ]
      refine anyT_take (i := 1) (oi := _) (v := ?vn1) rfl (by kernel_rfl) (by kernel_rfl) (by kernel_rfl) (by kernel_rfl) (fun _ _ _ h => h) (Or.inl ⟨by rfl, ?hyn1⟩) HB0.out ?restn1
      case hyn1 => (intro W hSw; go_simp; try with_reducible rfl)
      try simp only [List.getElem_toArray, List.getElem_cons_zero, List.getElem_cons_succ, Act.put, List.setIfInBounds_toArray, List.set_cons_zero, List.set_cons_succ]
      refine anyT_take (i := 2) (oi := _) (v := ?vn2) rfl (by kernel_rfl) (by kernel_rfl) (by kernel_rfl) (by kernel_rfl) (fun _ _ _ h => h) (Or.inl ⟨by rfl, ?hyn2⟩) HB0.out ?restn2
      case hyn2 => (intro W hSw; go_simp; try with_reducible rfl)
      try simp only [List.getElem_toArray, List.getElem_cons_zero, List.getElem_cons_succ, Act.put, List.setIfInBounds_toArray, List.set_cons_zero, List.set_cons_succ]
      refine anyT_take (i := 3) (oi := _) (v := ?vn3) rfl (by kernel_rfl) (by kernel_rfl) (by kernel_rfl) (by kernel_rfl) (fun _ _ _ h => h) (Or.inl ⟨by rfl, ?hyn3⟩) HB0.out ?restn3
      case hyn3 => (intro W hSw; go_simp; try with_reducible rfl)
      try simp only [List.getElem_toArray, List.getElem_cons_zero, List.getElem_cons_succ, Act.put, List.setIfInBounds_toArray, List.set_cons_zero, List.set_cons_succ]
      refine anyT_take (i := 4) (oi := _) (v := ?vn4) rfl (by kernel_rfl) (by kernel_rfl) (by kernel_rfl) (by kernel_rfl) (fun _ _ _ h => h) (Or.inl ⟨by rfl, ?hyn4⟩) HB0.out ?restn4
      case hyn4 => (intro W hSw; go_simp; try with_reducible rfl)
      try simp only [List.getElem_toArray, List.getElem_cons_zero, List.getElem_cons_succ, Act.put, List.setIfInBounds_toArray, List.set_cons_zero, List.set_cons_succ]
      refine anyT_take (i := 5) (oi := _) (v := ?vn5) rfl (by kernel_rfl) (by kernel_rfl) (by kernel_rfl) (by kernel_rfl) (fun _ _ _ h => h) (Or.inl ⟨by rfl, ?hyn5⟩) HB0.out ?restn5
      case hyn5 => (intro W hSw; go_simp; try with_reducible rfl)
      try simp only [List.getElem_toArray, List.getElem_cons_zero, List.getElem_cons_succ, Act.put, List.setIfInBounds_toArray, List.set_cons_zero, List.set_cons_succ]
      refine anyT_take (i := 6) (oi := _) (v := ?vn6) rfl (by kernel_rfl) (by kernel_rfl) (by kernel_rfl) (by kernel_rfl) (fun _ _ _ h => h) (Or.inl ⟨by rfl, ?hyn6⟩) HB0.out ?restn6
      case hyn6 => (intro W hSw; go_simp; try with_reducible rfl)
      try simp only [List.getElem_toArray, List.getElem_cons_zero, List.getElem_cons_succ, Act.put, List.setIfInBounds_toArray, List.set_cons_zero, List.set_cons_succ]
      refine anyT_take (i := 7) (oi := _) (v := ?vn7) rfl (by kernel_rfl) (by kernel_rfl) (by kernel_rfl) (by kernel_rfl) (fun _ _ _ h => h) (Or.inl ⟨by rfl, ?hyn7⟩) HB0.out ?restn7
      case hyn7 => (intro W hSw; go_simp; try with_reducible rfl)
      try simp only [List.getElem_toArray, List.getElem_cons_zero, List.getElem_cons_succ, Act.put, List.setIfInBounds_toArray, List.set_cons_zero, List.set_cons_succ]
      refine anyT_take (i := 8) (oi := _) (v := ?vn8) rfl (by kernel_rfl) (by kernel_rfl) (by kernel_rfl) (by kernel_rfl) (fun _ _ _ h => h) (Or.inl ⟨by rfl, ?hyn8⟩) HB0.out ?restn8
      case hyn8 => (intro W hSw; go_simp; try with_reducible rfl)
      try simp only [List.getElem_toArray, List.getElem_cons_zero, List.getElem_cons_succ, Act.put, List.setIfInBounds_toArray, List.set_cons_zero, List.set_cons_succ]
      refine anyT_one' (i := 9) (by kernel_rfl) rfl (by rfl) (fun KQ hK => ?_)
      go_simp
      go_at_call 22
      (with_reducible refine (HP.out _ (Keep.refl _ wr).drew).mono ?_)
      rintro en w3 ⟨rfl, v1', v2', L', B', r3, p3, q3, t3⟩
      have HNX := Lib.hid ((HI.out.fresh (Keep.refl _ wr).drew).next HE.out HG.out r3 p3 q3 t3)
      have HB3 : Hid (RnS w c first g gi go w3) := Lib.hid ⟨HNX.out.1.f, HNX.out.1.r.blk⟩
      have BO3 : Hid (Blk w3 go 108 #[.slice none 0 0, .slice none 0 0]) := Lib.hid (BO.out.drew.keep t3.keep HGO.out)
      have GO3 : Hid (¬ foot gi v1' v2' go) := Lib.hid (fun hf => (t3.later go hf).elim HGO.out (fun h => absurd BO.out.drew.lt (Nat.not_lt_of_le h)))
      clear r3 p3 q3 t3
      refine hK.out _ _ HB3.out ?_
      clear hK KQ
      try simp only [List.getElem_toArray, List.getElem_cons_zero, List.getElem_cons_succ, Act.put, List.setIfInBounds_toArray, List.set_cons_zero, List.set_cons_succ]
      refine anyT_take (i := 10) (oi := _) (v := ?vn10) rfl (by kernel_rfl) (by kernel_rfl) (by kernel_rfl) (by kernel_rfl) (fun _ _ _ h => h) (Or.inl ⟨by rfl, ?hyn10⟩) HB3.out ?restn10
      case hyn10 => (intro W hSw; go_simp; try with_reducible rfl)
      try simp only [List.getElem_toArray, List.getElem_cons_zero, List.getElem_cons_succ, Act.put, List.setIfInBounds_toArray, List.set_cons_zero, List.set_cons_succ]
      refine anyT_take (i := 11) (oi := _) (v := ?vn11) rfl (by kernel_rfl) (by kernel_rfl) (by kernel_rfl) (by kernel_rfl) (fun _ _ _ h => h) (Or.inl ⟨by rfl, ?hyn11⟩) HB3.out ?restn11
      case hyn11 => (intro W hSw; go_simp; try with_reducible rfl)
      try simp only [List.getElem_toArray, List.getElem_cons_zero, List.getElem_cons_succ, Act.put, List.setIfInBounds_toArray, List.set_cons_zero, List.set_cons_succ]
      refine anyT_take (i := 12) (oi := _) (v := ?vn12) rfl (by kernel_rfl) (by kernel_rfl) (by kernel_rfl) (by kernel_rfl) (fun _ _ _ h => h) (Or.inl ⟨by rfl, ?hyn12⟩) HB3.out ?restn12
      case hyn12 => (intro W hSw; go_simp; try with_reducible rfl)
      try simp only [List.getElem_toArray, List.getElem_cons_zero, List.getElem_cons_succ, Act.put, List.setIfInBounds_toArray, List.set_cons_zero, List.set_cons_succ]
      refine anyT_take (i := 13) (oi := _) (v := ?vn13) rfl (by kernel_rfl) (by kernel_rfl) (by kernel_rfl) (by kernel_rfl) (fun _ _ _ h => h) (Or.inl ⟨by rfl, ?hyn13⟩) HB3.out ?restn13
      case hyn13 => (intro W hSw; go_simp; try with_reducible rfl)
      try simp only [List.getElem_toArray, List.getElem_cons_zero, List.getElem_cons_succ, Act.put, List.setIfInBounds_toArray, List.set_cons_zero, List.set_cons_succ]
      refine anyT_take (i := 14) (oi := _) (v := ?vn14) rfl (by kernel_rfl) (by kernel_rfl) (by kernel_rfl) (by kernel_rfl) (fun _ _ _ h => h) (Or.inl ⟨by rfl, ?hyn14⟩) HB3.out ?restn14
      case hyn14 => (intro W hSw; go_simp; try with_reducible rfl)
      try simp only [List.getElem_toArray, List.getElem_cons_zero, List.getElem_cons_succ, Act.put, List.setIfInBounds_toArray, List.set_cons_zero, List.set_cons_succ]
      refine anyT_done (by kernel_rfl) ?_
      -- new>
      clear ya z0 z1 z2 z3 z4 z5 z6
      go_wp2_with fail
      go_roundg (l.length - (i + 1))
      case measure => omega
      case rel => exact ⟨i + 1, v1', v2', L', by omega, rfl, by go_num, HNX.out.1, HNX.out.2.2, GO3.out, BO3.out⟩
    · obtain rfl : i = l.length := by omega
      have tq : decide ((l.length : Int) < (l.length : Int)) = false := decide_eq_false (by omega)
      have hp := HI.out.p
      rw [List.take_length] at hp
      have HP := Lib.hid hp
      clear hp
      go_wp2_with fail
      go_returns
      exact ⟨g, gi, go, v1, v2, L, rfl, HI.out.r, HP.out, HI.out.f, HI.out.x, HG.out, HGG.out.2.1, BO.out⟩
end Go.Proofs.YthbcdkeammhakaaGreat
