/-
  The document's answer: Often, Next, Batch.
-/
import Derived.Test.YtecobebndjnhnaaRPut
import Derived.Test.YtecobebndjnhnaaBatchP
namespace Go.Proofs.Ytecobebndjnhnaa
open Go.RowKit
attribute [local go_sem ↓] Go.wp_at_zero Go.wp_at_succ
attribute [local go_sem ↓] run_eql_ev

set_option maxHeartbeats 1000000 in
theorem often_any (v : Value) (l : List Ev) (x : Ev) (w : World) (hv : EvAt w v l) (hl : l.length ≤ 100000) :
    Calls Try.prog 29 #[v, x.val] w fun e w' => e = .returned (.int .i64 (cnt l x : Nat)) ∧ Fresh w w' := by
  obtain ⟨A, c, rfl, hv⟩ := hv
  have HV := Lib.hid hv
  have F0 : Hid (Fresh w (w.alloc (.cells #[.int .i64 x.a, .int .i64 x.s, .int .i64 x.t, .int .i64 x.n, .int .i64 x.d, .int .i64 x.k, .int .i64 x.x] 25))) := Lib.hid ((Keep.refl _ w).alloc _)
  have B0 := Lib.hid (Blk.new w 25 #[.int .i64 x.a, .int .i64 x.s, .int .i64 x.t, .int .i64 x.n, .int .i64 x.d, .int .i64 x.k, .int .i64 x.x])
  clear hv
  unfold Ev.val
  go_enter Try.func29, Try.ntmps29
  go_wp2_with fail
  obtain ⟨w0, hw0⟩ : ∃ w0, w.alloc (.cells #[.int .i64 x.a, .int .i64 x.s, .int .i64 x.t, .int .i64 x.n, .int .i64 x.d, .int .i64 x.k, .int .i64 x.x] 25) = w0 := ⟨_, rfl⟩
  rw [hw0] at F0 B0 ⊢
  clear hw0
  go_loopg [5, 6] l.length (fun gk u5 u6 wr => ∃ i : Nat, i ≤ l.length ∧ gk = l.length - i ∧ u5 = .int .i64 (cnt (l.take i) x : Nat) ∧ u6 = .int .i64 i ∧ Fresh w0 wr)
  case atStart => exact ⟨0, by omega, rfl, by simp [cnt], rfl, Keep.refl _ _⟩
  case round =>
    obtain ⟨i, hi', rfl, rfl, rfl, hF⟩ := hrel
    have HF := Lib.hid hF
    have FW : Hid (Fresh w wr) := Lib.hid (F0.out.step hF (fun _ _ h => h))
    have cx := (hF.blk_ B0.out).cell
    have lx := (hF.blk_ B0.out).lt
    clear hF
    by_cases hlt : i < l.length
    · obtain ⟨y, hy⟩ : ∃ y, l[i]? = some y := ⟨_, List.getElem?_eq_getElem hlt⟩
      obtain ⟨b0, off, rfl, lt0, hO⟩ := HV.out i y hy
      have y0 := FW.out.cell_ (hO 0 (.int .i64 y.a) rfl)
      have y1 := FW.out.cell_ (hO 1 (.int .i64 y.s) rfl)
      have y2 := FW.out.cell_ (hO 2 (.int .i64 y.t) rfl)
      have y3 := FW.out.cell_ (hO 3 (.int .i64 y.n) rfl)
      have y4 := FW.out.cell_ (hO 4 (.int .i64 y.d) rfl)
      have y5 := FW.out.cell_ (hO 5 (.int .i64 y.k) rfl)
      have y6 := FW.out.cell_ (hO 6 (.int .i64 y.x) rfl)
      rw [Nat.add_zero] at y0
      have lb0 : b0 < wr.heap.size := Nat.lt_of_lt_of_le lt0 FW.out.size
      have hs : cnt (l.take (i + 1)) x = cnt (l.take i) x + (if evB y x then 1 else 0) := by
        unfold cnt
        rw [List.take_add_one, hy, Option.toList_some, List.countP_append, List.countP_singleton]
      have hle : cnt (l.take i) x ≤ i := Nat.le_trans List.countP_le_length (List.length_take_le _ _)
      obtain ⟨N, hN⟩ : ∃ N, cnt (l.take i) x = N := ⟨_, rfl⟩
      rw [hN] at hs hle ⊢
      have HS := Lib.hid hs
      clear hO hy lt0 hs hN
      cases hq : evB y x
      · rw [hq] at HS
        unfold evB at hq
        go_wp2_with fail
        go_quiet (fail)
        go_wp2_with fail
        go_roundg (l.length - (i + 1))
        case measure => omega
        case rel => exact ⟨i + 1, by omega, rfl, by rw [HS.out]; rfl, by go_num, HF.out.drewN _⟩
      · rw [hq] at HS
        unfold evB at hq
        go_wp2_with fail
        go_quiet (fail)
        go_wp2_with fail
        go_roundg (l.length - (i + 1))
        case measure => omega
        case rel => exact ⟨i + 1, by omega, rfl, by rw [HS.out]; go_num, by go_num, HF.out.drewN _⟩
    · obtain rfl : i = l.length := by omega
      rw [List.take_length]
      go_wp2_with fail
      go_ret
      exact ⟨rfl, FW.out⟩
/-- the least time above one -/
def NX (p : List Ev) (a r : Int) : Prop := (r = -1 ∧ ∀ y ∈ p, ¬ a < y.a) ∨ (∃ y ∈ p, a < y.a ∧ r = y.a ∧ ∀ z ∈ p, a < z.a → y.a ≤ z.a)
theorem NX.snoc {p : List Ev} {a r : Int} (h : NX p a r) {y : Ev} (hr : ∀ z ∈ p, 0 ≤ z.a) : NX (p ++ [y]) a (if a < y.a ∧ (r < 0 ∨ y.a < r) then y.a else r) := by
  rcases h with ⟨rfl, h⟩ | ⟨u, hu, h1, rfl, h2⟩
  · by_cases hy : a < y.a
    · rw [if_pos ⟨hy, .inl (by omega)⟩]
      refine .inr ⟨y, by simp, hy, rfl, fun z hz hlt => ?_⟩
      rcases List.mem_append.1 hz with hz | hz
      · exact absurd hlt (h z hz)
      · rw [List.mem_singleton.1 hz]; omega
    · rw [if_neg (fun hh => hy hh.1)]
      refine .inl ⟨rfl, fun z hz => ?_⟩
      rcases List.mem_append.1 hz with hz | hz
      · exact h z hz
      · rw [List.mem_singleton.1 hz]; exact hy
  · have h0 := hr u hu
    by_cases hy : a < y.a ∧ (u.a < 0 ∨ y.a < u.a)
    · rw [if_pos hy]
      refine .inr ⟨y, by simp, hy.1, rfl, fun z hz hlt => ?_⟩
      rcases List.mem_append.1 hz with hz | hz
      · have := h2 z hz hlt; omega
      · rw [List.mem_singleton.1 hz]; omega
    · rw [if_neg hy]
      refine .inr ⟨u, by simp [hu], h1, rfl, fun z hz hlt => ?_⟩
      rcases List.mem_append.1 hz with hz | hz
      · exact h2 z hz hlt
      · rw [List.mem_singleton.1 hz] at hlt ⊢; omega
theorem NX.of {L l : List Ev} {a r : Int} (h : NX L a r) (p : L.Perm l) (s : Srt l) : r = match nextE l a with
    | some y => y.a
    | none => -1 := by
  cases hn : nextE l a with
  | none =>
    unfold nextE at hn
    rw [List.find?_eq_none] at hn
    rcases h with ⟨rfl, _⟩ | ⟨y, hy, h1, _, _⟩
    · rfl
    · have := hn y (p.mem_iff.1 hy)
      simp at this
      omega
  | some u =>
    obtain ⟨h1, h2, h3⟩ := next_some s hn
    rcases h with ⟨rfl, h⟩ | ⟨y, hy, h4, rfl, h5⟩
    · exact absurd h2 (h u (p.mem_iff.2 h1))
    · have := h3 y (p.mem_iff.1 hy) h4
      have := h5 u (p.mem_iff.2 h1) h2
      show y.a = u.a
      omega
set_option maxHeartbeats 2000000 in
theorem rnext_any (g : Nat) (v1 v2 : Value) (L B : List Ev) (a : Int) (w : World) (h : RQ w g v1 v2 L B) (hl : L.length ≤ 100000) (hp : ∀ z ∈ L, 0 ≤ z.a) :
    Calls Try.prog 45 #[.pointer (some ⟨g, 0, none⟩), .int .i64 a] w fun e w' => ∃ r, e = .returned (.int .i64 r) ∧ NX L a r ∧ Fresh w w' := by
  have H := Lib.hid h
  have HP := Lib.hid hp
  obtain ⟨A1, c1, rfl, hc1, hm1⟩ := h.own1.shape
  have hm1 : c1 ≤ 9223372036854775807 := by unfold maxLen at hm1; omega
  clear h hp
  go_enter Try.func45, Try.ntmps45
  go_wp2_with fail
  go_loopg [5, 6] L.length (fun gk u5 u6 wr => ∃ (i : Nat) (r : Int), i ≤ L.length ∧ gk = L.length - i ∧ u5 = .int .i64 r ∧ u6 = .int .i64 i ∧ NX (L.take i) a r ∧ Fresh w wr)
  case atStart => exact ⟨0, -1, by omega, rfl, rfl, rfl, .inl ⟨rfl, by simp⟩, Keep.refl _ _⟩
  case round =>
    obtain ⟨i, r, hi', rfl, rfl, rfl, hN, hF⟩ := hrel
    have HN := Lib.hid hN
    have HF := Lib.hid hF
    have cQ := (H.out.fresh hF).blk.cell
    have lQ := (H.out.fresh hF).blk.lt
    clear hF hN
    by_cases hlt : i < L.length
    · obtain ⟨y, hy⟩ : ∃ y, L[i]? = some y := ⟨_, List.getElem?_eq_getElem hlt⟩
      obtain ⟨g3, off3, _, hv3, hg3, _, _, hcc⟩ := (H.out.own1.fresh HF.out).form (by omega)
      injection hv3 with e1 e2 e3
      subst e1 e3
      have y0 := hcc _ _ (cells_at L i y hy).1
      have NXT := Lib.hid (HN.out.snoc (y := y) (fun z hz => HP.out z (List.mem_of_mem_take hz)))
      have HT := Lib.hid (show L.take i ++ [y] = L.take (i + 1) by rw [List.take_add_one, hy]; rfl)
      clear hcc hy e2
      by_cases h1 : a < y.a
      · have t1 : decide (a < y.a) = true := decide_eq_true h1
        by_cases h2 : r < 0
        · have t2 : decide (r < 0) = true := decide_eq_true h2
          have NX2 : Hid (NX (L.take (i + 1)) a y.a) := Lib.hid (by have := NXT.out; rw [if_pos ⟨h1, .inl h2⟩, HT.out] at this; exact this)
          clear h1 h2
          go_wp2_with fail
          go_roundg (L.length - (i + 1))
          case measure => omega
          case rel => exact ⟨i + 1, y.a, by omega, rfl, rfl, by go_num, NX2.out, HF.out⟩
        · have t2 : decide (r < 0) = false := decide_eq_false h2
          by_cases h3 : y.a < r
          · have t3 : decide (y.a < r) = true := decide_eq_true h3
            have NX2 : Hid (NX (L.take (i + 1)) a y.a) := Lib.hid (by have := NXT.out; rw [if_pos ⟨h1, .inr h3⟩, HT.out] at this; exact this)
            clear h1 h2 h3
            go_wp2_with fail
            go_roundg (L.length - (i + 1))
            case measure => omega
            case rel => exact ⟨i + 1, y.a, by omega, rfl, rfl, by go_num, NX2.out, HF.out⟩
          · have t3 : decide (y.a < r) = false := decide_eq_false h3
            have NX2 : Hid (NX (L.take (i + 1)) a r) := Lib.hid (by have := NXT.out; rw [if_neg (fun hh => by rcases hh.2 with hh | hh; exact h2 hh; exact h3 hh), HT.out] at this; exact this)
            clear h1 h2 h3
            go_wp2_with fail
            go_roundg (L.length - (i + 1))
            case measure => omega
            case rel => exact ⟨i + 1, r, by omega, rfl, rfl, by go_num, NX2.out, HF.out⟩
      · have t1 : decide (a < y.a) = false := decide_eq_false h1
        have NX2 : Hid (NX (L.take (i + 1)) a r) := Lib.hid (by have := NXT.out; rw [if_neg (fun hh => h1 hh.1), HT.out] at this; exact this)
        clear h1
        go_wp2_with fail
        go_roundg (L.length - (i + 1))
        case measure => omega
        case rel => exact ⟨i + 1, r, by omega, rfl, rfl, by go_num, NX2.out, HF.out⟩
    · obtain rfl : i = L.length := by omega
      have hn := HN.out
      rw [List.take_length] at hn
      have HN2 := Lib.hid hn
      clear hn
      go_wp2_with fail
      go_ret
      exact ⟨r, rfl, HN2.out, HF.out⟩
/-- a list of one's own that grows -/
structure GI (w : World) (l : List Ev) (v : Value) (wr : World) : Prop where
  f : Fresh w wr
  o : OwnS wr 25 7 v l.length (cells l)
  n : ∀ k, v.ownBlock = some k → w.heap.size ≤ k
theorem GI.app {w wr w2 : World} {l bq : List Ev} {v v' : Value} (h : GI w l v wr) (o : OwnS w2 25 7 v' (l.length + bq.length) (cells l ++ cells bq)) {W : World} (fW : Fresh wr W) (k : Keep (fun k => v.ownBlock = some k) W w2) (n : ∀ i, v'.ownBlock = some i → v.ownBlock = some i ∨ W.heap.size ≤ i) : GI w (l ++ bq) v' w2 :=
  ⟨(h.f.step fW (fun _ _ h => h)).step k (fun i hi e => by have := h.n i e; omega), by rw [List.length_append, cells_append]; exact o, fun i hi => by
    rcases n i hi with h1 | h1
    · exact h.n i h1
    · have := h.f.size; have := fW.size; omega⟩
set_option maxHeartbeats 2000000 in
set_option maxRecDepth 100000 in
theorem rbatch_any (g : Nat) (v1 v2 : Value) (L B : List Ev) (a : Int) (w : World) (h : RQ w g v1 v2 L B) (hl : L.length ≤ 100000) :
    Calls Try.prog 46 #[.pointer (some ⟨g, 0, none⟩), .int .i64 a] w (SortP (atT L a) w) := by
  have H := Lib.hid h
  obtain ⟨A1, c1, rfl, hc1, hm1⟩ := h.own1.shape
  have hm1 : c1 ≤ 9223372036854775807 := by unfold maxLen at hm1; omega
  clear h
  obtain ⟨i0, hi, hz0, hz1, hz2⟩ := info_parts info_ev
  have h07 : Hid (0 < 7) := Lib.hid (by omega)
  go_enter Try.func46, Try.ntmps46
  go_wp2_with fail
  go_loopg [5, 6] L.length (fun gk u5 u6 wr => ∃ (i : Nat) (v : Value), i ≤ L.length ∧ gk = L.length - i ∧ u5 = v ∧ u6 = .int .i64 i ∧ GI w (atT (L.take i) a) v wr)
  case atStart => exact ⟨0, _, by omega, rfl, rfl, rfl, ⟨Keep.refl _ _, OwnS.nil _ _ _, by simp [Value.ownBlock]⟩⟩
  case round =>
    obtain ⟨i, v, hi', rfl, rfl, rfl, hG⟩ := hrel
    have HG := Lib.hid hG
    have cQ := (H.out.fresh hG.f).blk.cell
    have lQ := (H.out.fresh hG.f).blk.lt
    obtain ⟨Av, cv, rfl, hcv, hmv⟩ := hG.o.shape
    have hgl : (atT (L.take i) a).length ≤ L.length := Nat.le_trans (List.length_filter_le _ _) (by rw [List.length_take]; omega)
    clear hG
    by_cases hlt : i < L.length
    · obtain ⟨y, hy⟩ : ∃ y, L[i]? = some y := ⟨_, List.getElem?_eq_getElem hlt⟩
      obtain ⟨g3, off3, _, hv3, hg3, _, _, hcc⟩ := (H.out.own1.fresh HG.out.f).form (by omega)
      injection hv3 with e1 e2 e3
      subst e1 e3
      obtain ⟨y0, y1, y2, y3, y4, y5, y6⟩ := cells_at L i y hy
      have y0 := hcc _ _ y0
      have y1 := hcc _ _ y1
      have y2 := hcc _ _ y2
      have y3 := hcc _ _ y3
      have y4 := hcc _ _ y4
      have y5 := hcc _ _ y5
      have y6 := hcc _ _ y6
      rw [← Nat.add_assoc] at y1 y2 y3 y4 y5 y6
      have HT : Hid (atT (L.take (i + 1)) a = atT (L.take i) a ++ (if (y.a == a) = true then [y] else [])) := Lib.hid (by
        unfold atT
        rw [List.take_add_one, hy, Option.toList_some, List.filter_append]
        congr 1
        cases hh : (y.a == a) <;> simp [List.filter, hh])
      clear hcc hy e2
      cases hq : (y.a == a)
      · rw [hq] at HT
        have HT2 : Hid (atT (L.take (i + 1)) a = atT (L.take i) a) := Lib.hid (HT.out.trans (by simp))
        go_wp2_with fail
        go_roundg (L.length - (i + 1))
        case measure => omega
        case rel => exact ⟨i + 1, _, by omega, rfl, rfl, by go_num, by rw [HT2.out]; exact HG.out⟩
      · rw [hq] at HT
        have HT2 : Hid (atT (L.take (i + 1)) a = atT (L.take i) a ++ [y]) := Lib.hid (HT.out.trans (by simp))
        have hL1 : (atT (L.take i) a).length + 1 ≤ maxLen := one_le_maxLen (by omega)
        have hL2 : ((atT (L.take i) a).length + 1) * 56 ≤ 140737488355328 := by omega
        have S2 : Hid (Src (wr.alloc (.cells #[.int .i64 y.a, .int .i64 y.s, .int .i64 y.t, .int .i64 y.n, .int .i64 y.d, .int .i64 y.k, .int .i64 y.x] 25)) 7 (.slice (some ⟨wr.heap.size, 0, none⟩) 1 1) 1 (cells [y])) := Lib.hid (Src.one_new wr 25 7 #[.int .i64 y.a, .int .i64 y.s, .int .i64 y.t, .int .i64 y.n, .int .i64 y.d, .int .i64 y.k, .int .i64 y.x] rfl)
        have fA : Hid (Fresh wr (wr.alloc (.cells #[.int .i64 y.a, .int .i64 y.s, .int .i64 y.t, .int .i64 y.n, .int .i64 y.d, .int .i64 y.k, .int .i64 y.x] 25))) := Lib.hid ((Keep.refl _ wr).alloc _)
        go_wp2_with (at_builtin; refine wpList_append_OwnS _ rfl (.tmp 27) (.tmp 35) 42 rfl 25 i0 (.agg #[.int .i64 0, .int .i64 0, .int .i64 0, .int .i64 0, .int .i64 0, .int .i64 0, .int .i64 0]) 7 56 Try.underlying42 hi hz0 hz1 hz2 rfl h07.out (.slice Av (atT (L.take i) a).length cv) (atT (L.take i) a).length (cells (atT (L.take i) a)) rfl (HG.out.o.alloc _) (.slice (some ⟨wr.heap.size, 0, none⟩) 1 1) 1 (cells [y]) rfl S2.out (cells_one _) hL1 hL2 ?_; intro v4 w4 o4 k4 n4; obtain ⟨A4, cap4, rfl, hc4, hm4⟩ := o4.shape; have G4 := Lib.hid (HG.out.app (bq := [y]) o4 fA.out k4 n4); clear o4 k4 n4)
        go_roundg (L.length - (i + 1))
        case measure => omega
        case rel => exact ⟨i + 1, _, by omega, rfl, rfl, by go_num, by rw [HT2.out]; exact G4.out⟩
    · obtain rfl : i = L.length := by omega
      rw [List.take_length] at HG hgl ⊢
      have HS := Lib.hid (sort_any _ _ wr HG.out.o.evs (by omega))
      go_wp2_with fail
      refine HS.out.mono ?_
      rintro e w5 ⟨v5, out, rfl, s1, s2, s3, s4, s5⟩
      obtain ⟨A5, c5, rfl, _, _⟩ := s3.shape
      have FIN : Hid (SortP (atT L a) w (.returned (.slice A5 out.length c5)) w5) := Lib.hid ⟨_, out, rfl, s1, s2, s3, HG.out.f.step s4 (fun _ _ h => h), fun k hk => by have := s5 k hk; have := HG.out.f.size; omega⟩
      clear s1 s2 s3 s4 s5
      go_wp2_with fail
      go_ret
      exact FIN.out
end Go.Proofs.Ytecobebndjnhnaa
