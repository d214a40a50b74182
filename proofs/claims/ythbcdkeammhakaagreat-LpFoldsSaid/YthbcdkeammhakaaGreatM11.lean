/- Chapter 13: EventD, OSort, OEvsE, OWrong. -/
import Derived.Test.YthbcdkeammhakaaGreatM02
import Derived.Test.YthbcdkeammhakaaGreatM10
/-
  inq.Compare once more: what it makes, and draws.
-/
namespace Go.Proofs.YthbcdkeammhakaaGreat
open Go.RowKit

/-- only new blocks, and draws -/
structure FreshD (w w' : World) : Prop where
  f : Fresh w w'
  d : w.drawn ≤ w'.drawn
theorem FreshD.drew {w w' : World} (h : FreshD w w') : FreshD w w'.drew := ⟨h.f.drew, Nat.le_succ_of_le h.d⟩
theorem FreshD.alloc {w w' : World} (h : FreshD w w') (o : Obj) : FreshD w (w'.alloc o) := ⟨h.f.alloc o, h.d⟩
theorem before_d (p q : Ev) (w : World) : Calls Tryz.prog 129 #[.agg #[.int .i64 p.a, .int .i64 p.s, .int .i64 p.t, .int .i64 p.n], .agg #[.int .i64 q.a, .int .i64 q.s, .int .i64 q.t, .int .i64 q.n]] w fun e w' => e = .returned (.bool (keyLt p q)) ∧ FreshD w w' := by
  obtain ⟨a, s, t, n, _, _, _⟩ := p
  obtain ⟨a', s', t', n', _, _, _⟩ := q
  unfold keyLt
  by_cases h1 : a = a'
  rotate_left
  · have g1 : (a != a') = true := by simpa using h1
    go_enter Tryz.func129, Tryz.ntmps129
    go_wp2
    go_ret
    exact ⟨by simp, ⟨by (repeat (first | (with_reducible exact Keep.refl _ _) | (with_reducible assumption) | (with_reducible refine Keep.drew ?_) | (with_reducible refine Keep.drewN ?_ _) | (with_reducible refine Keep.alloc ?_ _) | (with_reducible refine Keep.setCell ?_ ?_ _) | (with_reducible refine fun _ => rfl))), Nat.le_refl _⟩⟩
  subst h1
  by_cases h2 : s = s'
  rotate_left
  · have g2 : (s != s') = true := by simpa using h2
    go_enter Tryz.func129, Tryz.ntmps129
    go_wp2
    go_ret
    exact ⟨by simp, ⟨by (repeat (first | (with_reducible exact Keep.refl _ _) | (with_reducible assumption) | (with_reducible refine Keep.drew ?_) | (with_reducible refine Keep.drewN ?_ _) | (with_reducible refine Keep.alloc ?_ _) | (with_reducible refine Keep.setCell ?_ ?_ _) | (with_reducible refine fun _ => rfl))), Nat.le_refl _⟩⟩
  subst h2
  by_cases h3 : t = t'
  rotate_left
  · have g3 : (t != t') = true := by simpa using h3
    go_enter Tryz.func129, Tryz.ntmps129
    go_wp2
    go_ret
    exact ⟨by simp, ⟨by (repeat (first | (with_reducible exact Keep.refl _ _) | (with_reducible assumption) | (with_reducible refine Keep.drew ?_) | (with_reducible refine Keep.drewN ?_ _) | (with_reducible refine Keep.alloc ?_ _) | (with_reducible refine Keep.setCell ?_ ?_ _) | (with_reducible refine fun _ => rfl))), Nat.le_refl _⟩⟩
  subst h3
  go_enter Tryz.func129, Tryz.ntmps129
  go_wp2
  go_ret
  exact ⟨by simp, ⟨by (repeat (first | (with_reducible exact Keep.refl _ _) | (with_reducible assumption) | (with_reducible refine Keep.drew ?_) | (with_reducible refine Keep.drewN ?_ _) | (with_reducible refine Keep.alloc ?_ _) | (with_reducible refine Keep.setCell ?_ ?_ _) | (with_reducible refine fun _ => rfl))), Nat.le_refl _⟩⟩

set_option maxHeartbeats 1000000 in
theorem compare_d (p q : Ev) (w : World) : Calls Tryz.prog 93 #[p.val, q.val] w fun e w' => e = .returned (.int .i64 (evCmp p q)) ∧ FreshD w w' := by
  unfold Ev.val
  by_cases h1 : keyLt p q = true
  · rw [evCmp_before h1]
    go_enter Tryz.func93, Tryz.ntmps93
    go_wp2_with fail
    refine (before_d p q _).mono ?_
    rintro e w1 ⟨rfl, f1⟩
    rw [h1]
    go_wp2
    go_ret
    exact ⟨rfl, Keep.step (((Keep.refl _ _).alloc _).alloc _) f1.f (fun _ _ h => h), f1.d⟩
  have h1' : keyLt p q = false := by simpa using h1
  have hb : ∀ w : World, Blk ((w.alloc (.cells #[.int .i64 p.a, .int .i64 p.s, .int .i64 p.t, .int .i64 p.n, .int .i64 p.d, .int .i64 p.k, .int .i64 p.x] 41)).alloc (.cells #[.int .i64 q.a, .int .i64 q.s, .int .i64 q.t, .int .i64 q.n, .int .i64 q.d, .int .i64 q.k, .int .i64 q.x] 41)) w.heap.size 41 #[.int .i64 p.a, .int .i64 p.s, .int .i64 p.t, .int .i64 p.n, .int .i64 p.d, .int .i64 p.k, .int .i64 p.x] ∧
      Blk ((w.alloc (.cells #[.int .i64 p.a, .int .i64 p.s, .int .i64 p.t, .int .i64 p.n, .int .i64 p.d, .int .i64 p.k, .int .i64 p.x] 41)).alloc (.cells #[.int .i64 q.a, .int .i64 q.s, .int .i64 q.t, .int .i64 q.n, .int .i64 q.d, .int .i64 q.k, .int .i64 q.x] 41)) (w.heap.size + 1) 41 #[.int .i64 q.a, .int .i64 q.s, .int .i64 q.t, .int .i64 q.n, .int .i64 q.d, .int .i64 q.k, .int .i64 q.x] :=
    fun w => ⟨(Blk.at_new rfl _ _).alloc _, Blk.at_new (by simp) _ _⟩
  by_cases h2 : keyLt q p = true
  · rw [evCmp_after h2]
    have HB := Lib.hid hb
    clear hb
    go_enter Tryz.func93, Tryz.ntmps93
    go_wp2_with fail
    refine (before_d p q _).mono ?_
    rintro e w1 ⟨rfl, f1⟩
    rw [h1']
    have cP := (f1.f.blk_ (HB.out w).1).cell
    have cQ := (f1.f.blk_ (HB.out w).2).cell
    have F1 := Lib.hid f1
    clear f1
    go_wp2_with fail
    refine (before_d q p _).mono ?_
    rintro e w2 ⟨rfl, f2⟩
    rw [h2]
    go_wp2
    go_ret
    exact ⟨rfl, Keep.step (Keep.step (((Keep.refl _ _).alloc _).alloc _) F1.out.f (fun _ _ h => h)) f2.f (fun _ _ h => h), Nat.le_trans F1.out.d f2.d⟩
  have h2' : keyLt q p = false := by simpa using h2
  rw [evCmp_or h1' h2']
  have HB := Lib.hid hb
  clear hb
  go_enter Tryz.func93, Tryz.ntmps93
  go_wp2_with fail
  refine (before_d p q _).mono ?_
  rintro e w1 ⟨rfl, f1⟩
  rw [h1']
  have cP := (f1.f.blk_ (HB.out w).1).cell
  have cQ := (f1.f.blk_ (HB.out w).2).cell
  have F1 := Lib.hid f1
  clear f1
  go_wp2_with fail
  refine (before_d q p _).mono ?_
  rintro e w2 ⟨rfl, f2⟩
  rw [h2']
  have bP := f2.f.blk_ (F1.out.f.blk_ (HB.out w).1)
  have bQ := f2.f.blk_ (F1.out.f.blk_ (HB.out w).2)
  have F2 : FreshD w w2 := ⟨Keep.step (Keep.step (((Keep.refl _ _).alloc _).alloc _) F1.out.f (fun _ _ h => h)) f2.f (fun _ _ h => h), Nat.le_trans F1.out.d f2.d⟩
  have kP := fun (W : World) (h : Blk W w.heap.size 41 #[.int .i64 p.a, .int .i64 p.s, .int .i64 p.t, .int .i64 p.n, .int .i64 p.d, .int .i64 p.k, .int .i64 p.x]) (i : Nat) => h.cell i
  have kQ := fun (W : World) (h : Blk W (w.heap.size + 1) 41 #[.int .i64 q.a, .int .i64 q.s, .int .i64 q.t, .int .i64 q.n, .int .i64 q.d, .int .i64 q.k, .int .i64 q.x]) (i : Nat) => h.cell i
  clear cP cQ F1 f2
  have hA := Blk.at_new (w := w2) rfl 3 #[.int .i64 (cmpI p.d q.d), .int .i64 (cmpI p.k q.k), .int .i64 (cmpI p.x q.x)]
  have hOr := or3_any (cmpI p.d q.d) (cmpI p.k q.k) (cmpI p.x q.x) w2.heap.size (w2.alloc (.cells #[.int .i64 (cmpI p.d q.d), .int .i64 (cmpI p.k q.k), .int .i64 (cmpI p.x q.x)] 3)).drew (hA.drew.cell_ 0 rfl) (hA.drew.cell_ 1 rfl) (hA.drew.cell_ 2 rfl)
  clear hA
  go_wp2_with fail
  go_region_held3 (fun w' => Blk w' w.heap.size 41 #[.int .i64 p.a, .int .i64 p.s, .int .i64 p.t, .int .i64 p.n, .int .i64 p.d, .int .i64 p.k, .int .i64 p.x] ∧ Blk w' (w.heap.size + 1) 41 #[.int .i64 q.a, .int .i64 q.s, .int .i64 q.t, .int .i64 q.n, .int .i64 q.d, .int .i64 q.k, .int .i64 q.x] ∧ FreshD w w')
    (((try dsimp only); (repeat' apply And.intro) <;> (repeat (first
      | (with_reducible exact bP) | (with_reducible exact bQ) | (with_reducible exact F2) | (with_reducible assumption)
      | (with_reducible refine Blk.drew ?_) | (with_reducible refine FreshD.drew ?_) | (with_reducible refine Blk.alloc ?_ _) | (with_reducible refine FreshD.alloc ?_ _)))))
    (first
      | (go_at_call 131; refine (cmpI_any _ _ _).mono ?_; rintro e w' ⟨rfl, rfl⟩)
      | (go_at_call 130; refine hOr.mono ?_; rintro e w' ⟨rfl, rfl⟩))
  go_split_ands
  go_wp2
  go_ret
  exact ⟨rfl, by (repeat (first | (with_reducible assumption) | (with_reducible exact F2) | (with_reducible refine FreshD.drew ?_) | (with_reducible refine FreshD.alloc ?_ _)))⟩
end Go.Proofs.YthbcdkeammhakaaGreat

/-
  slices.SortFunc at events.
-/
namespace Go.Proofs.YthbcdkeammhakaaGreat
open Go.RowKit Go.Sort

instance : Inhabited Ev := ⟨⟨0, 0, 0, 0, 0, 0, 0⟩⟩
theorem FreshD.grown {w w' : World} (h : FreshD w w') : ∃ q os', w' = grow (w.drewN q) os' := by
  refine ⟨w'.drawn - w.drawn, w'.heap.extract w.heap.size w'.heap.size, ?_⟩
  have hd := h.d
  obtain ⟨h1, h2, h3, h4, h5⟩ := h.f
  obtain ⟨hp, tp, dr, o, out⟩ := w
  obtain ⟨hp', tp', dr', o', out'⟩ := w'
  simp only at h1 h2 h3 h4 h5 hd
  subst h1 h2 h3
  unfold grow World.drewN
  simp only
  congr 1
  · apply Array.ext_getElem?
    intro k
    by_cases hk : k < hp.size
    · rw [Array.getElem?_append_left hk]
      exact h5 k hk (fun h => h)
    · rw [Array.getElem?_append_right (by omega)]
      rw [Array.getElem?_extract]
      by_cases hk2 : k < hp'.size
      · rw [if_pos (by omega)]
        congr 1
        omega
      · rw [if_neg (by omega), Array.getElem?_eq_none (by omega)]
  · omega
theorem flat_get (l : List Ev) (t : Nat) (ht : t < l.length * 7) : (cells l)[t]? = some ((flatK Ev.enc 7 l.toArray)[t]!) := by
  rw [get_flatK _ _ _ t (by simpa using ht)]
  have hk : t / 7 < l.length := by omega
  have e : l.toArray[t / 7]! = l[t / 7] := by simp [hk]
  obtain ⟨c0, c1, c2, c3, c4, c5, c6⟩ := cells_at l (t / 7) _ (List.getElem?_eq_getElem hk)
  rw [e]
  generalize l[t / 7] = y at *
  have h7 : t % 7 < 7 := Nat.mod_lt _ (by omega)
  obtain ⟨r, hr⟩ : ∃ r, t % 7 = r := ⟨_, rfl⟩
  obtain ⟨k, hk'⟩ : ∃ k, t / 7 = k := ⟨_, rfl⟩
  have ht2 : t = k * 7 + r := by omega
  rw [hk'] at c0 c1 c2 c3 c4 c5 c6
  rw [hr] at h7 ⊢
  subst ht2
  unfold Ev.enc
  match r, h7 with
  | 0, _ => simpa using c0
  | 1, _ => simpa using c1
  | 2, _ => simpa using c2
  | 3, _ => simpa using c3
  | 4, _ => simpa using c4
  | 5, _ => simpa using c5
  | 6, _ => simpa using c6
theorem cells_holds {w : World} {g off cap : Nat} {l : List Ev} (h : OwnS w 41 7 (.slice (some ⟨g, off, none⟩) l.length cap) l.length (cells l)) : HoldsK Ev.enc 7 w g off l.toArray := by
  intro j hj
  simp at hj
  obtain ⟨_, f, _, _, c⟩ := OwnS.at_ h
  exact ⟨c j _ (flat_get l j hj), f _⟩
theorem flat_get' (d : Array Ev) (t : Nat) (ht : t < d.size * 7) : (cells d.toList)[t]? = some ((flatK Ev.enc 7 d)[t]!) := flat_get d.toList t (by simpa using ht)
theorem sorted_own {w : World} {g off cap : Nat} {l : List Ev} (h : OwnS w 41 7 (.slice (some ⟨g, off, none⟩) l.length cap) l.length (cells l)) (n : Nat) (d : Array Ev) (os : Array Obj) (hd : d.size = l.length) :
    OwnS (sortWorldK Ev.enc 7 w g off n d os) 41 7 (.slice (some ⟨g, off, none⟩) l.length cap) l.length (cells d.toList) ∧ Keep (fun k => k = g) w (sortWorldK Ev.enc 7 w g off n d os) := by
  rcases h.2 with ⟨h0, _⟩ | ⟨g', off', cap', cur, hv, hg, h1, h2, h3, h4⟩
  · cases h0
  injection hv with hv1 hv2 hv3
  injection hv1 with hv1
  injection hv1 with e1 e2 _
  subst e1 e2 hv3
  have hgs := (Array.getElem?_eq_some_iff.1 hg).1
  refine ⟨⟨by rw [cells_length]; simp [hd], .inr ⟨g, off, cap, putCells id off (flatK Ev.enc 7 d) cur, rfl, ?_, h1, h2, by simpa [putCells] using h3, fun j u hu => ?_⟩⟩, ⟨rfl, rfl, rfl, ?_, fun k hk hn => ?_⟩⟩
  · unfold sortWorldK putRowK putRow mapBlock grow Go.Sort.ahead
    simp only
    rw [Array.getElem?_append_left (by simpa using hgs), Array.getElem?_modify, if_pos rfl, hg]
    rfl
  · have hj : j < d.size * 7 := by
      have := (List.getElem?_eq_some_iff.1 hu).1
      rw [cells_length] at this
      simpa using this
    rw [flat_get' d j hj] at hu
    injection hu with hu
    subst hu
    have hjc : off + j < cur.size := by
      have : l.length * 7 ≤ cap * 7 := Nat.mul_le_mul_right 7 h1
      omega
    unfold putCells
    rw [Array.getElem?_mapIdx, Array.getElem?_eq_getElem hjc, Option.map_some, if_pos (by simp; omega), Nat.add_sub_cancel_left]
    rfl
  · unfold sortWorldK putRowK putRow mapBlock grow Go.Sort.ahead
    simp
  · unfold sortWorldK putRowK putRow mapBlock grow Go.Sort.ahead
    simp only
    rw [Array.getElem?_append_left (by simpa using hk), Array.getElem?_modify, if_neg (fun e => hn e.symm)]
theorem evLt_cmp (p q : Ev) : ltOf evCmp p q = evLt p q := by
  unfold ltOf evCmp
  cases h : evLt p q
  · cases h2 : evLt q p <;> simp
  · simp
theorem evLt_ntrans {p q r : Ev} (h : evLt p q = false) (h' : evLt q r = false) : evLt p r = false := by
  cases hc : evLt p r
  · rfl
  · exfalso
    cases hq : evLt q p
    · have := evLt_total h hq
      subst this
      rw [h'] at hc
      cases hc
    · rw [evLt_trans hq hc] at h'
      cases h'
theorem swo_ev : SWO (ltOf evCmp) where
  irrefl x := by rw [evLt_cmp]; exact evLt_irrefl x
  trans x y z h h' := by rw [evLt_cmp] at *; exact evLt_trans h h'
  ntrans x y z h h' := by rw [evLt_cmp] at *; exact evLt_ntrans h h'
theorem cmpLays_ev (g off size : Nat) (w : World) : CmpLays Tryz.prog 93 #[] Ev.enc 7 evCmp g off size w :=
  fun _ _ _ _ x y => (compare_d x y _).mono fun _ _ h => ⟨h.1, h.2.grown⟩
theorem sortE_some (g off cap : Nat) (l : List Ev) (w : World) (h : OwnS w 41 7 (.slice (some ⟨g, off, none⟩) l.length cap) l.length (cells l)) (hl : l.length ≤ 100000) :
    Calls Tryz.prog 92 #[.slice (some ⟨g, off, none⟩) l.length cap, .func (.func 93) #[] #[]] w fun e w' => e = .returned (.tuple #[]) ∧ ∃ s, s.Perm l ∧ Srt s ∧ OwnS w' 41 7 (.slice (some ⟨g, off, none⟩) s.length cap) s.length (cells s) ∧ Keep (fun k => k = g) w w' := by
  have eg : ∀ args w, (callFunc 93 args).run Tryz.prog w = .ok (.enter 93 args) w := enters_of Tryz.func93 (by kernel_rfl) rfl
  have hcon := AnyQ.slices_SortFunc sortEvL 7 Tryz.isAgg41 Tryz.sizeOf41 Ev.enc (fun _ => rfl) (fun x v hv => by simp [Ev.enc] at hv; rcases hv with rfl | rfl | rfl | rfl | rfl | rfl | rfl <;> rfl) evCmp swo_ev 93 #[] g off cap l.toArray w eg (cmpLays_ev g off _ w) (cells_holds h) (OwnS.at_ h).1 (by simp; omega)
  change Calls Tryz.prog 92 #[.slice (some ⟨g, off, none⟩) l.length cap, .func (.func 93) #[] #[]] _ _ at hcon
  refine hcon.mono ?_
  rintro e w' ⟨rfl, d', n, os, ⟨p1, _, p3⟩, hs, rfl⟩
  have hd : d'.size = l.length := by simpa using p1
  obtain ⟨o, k⟩ := sorted_own h n d' os hd
  have hp : d'.toList.Perm l := by
    have e1 : (d'.extract 0 l.toArray.size) = d' := by rw [show l.toArray.size = d'.size by simp [hd]]; simp
    have e2 : (l.toArray.extract 0 l.toArray.size) = l.toArray := by simp
    rw [e1, e2] at p3
    simpa using p3
  refine ⟨rfl, d'.toList, hp, ?_, ?_, k⟩
  · unfold Srt
    rw [List.pairwise_iff_getElem]
    intro i j hi hj hij
    have := hs i j (by omega) hij (by simp at hj ⊢; omega)
    rw [evLt_cmp] at this
    simp at hi hj
    rw [getElem!_pos d' j hj, getElem!_pos d' i hi] at this
    simpa using this
  · rw [hp.length_eq]
    exact o
theorem insertion_nil (c : Nat) (f : Value) (w : World) : Calls Tryz.prog 144 #[.slice none 0 c, .int .i64 0, .int .i64 0, f] w fun e w' => e = .returned (.tuple #[]) ∧ w' = w := by
  go_enter Tryz.func144, Tryz.ntmps144
  go_wp2_with fail
  go_loopg [8] 0 (fun gk u8 wr => gk = 0 ∧ u8 = .int .i64 1 ∧ wr = w)
  case atStart => exact ⟨rfl, rfl, rfl⟩
  case round =>
    obtain ⟨rfl, rfl, rfl⟩ := hrel
    go_wp2_with fail
    go_end0
    exact ⟨rfl, rfl⟩
set_option maxRecDepth 100000 in
set_option maxHeartbeats 1000000 in
theorem pdq_nil (c : Nat) (n : Int) (f : Value) (w : World) : Calls Tryz.prog 127 #[.slice none 0 c, .int .i64 0, .int .i64 0, .int .i64 n, f] w fun e w' => e = .returned (.tuple #[]) ∧ w' = w := by
  have H := Lib.hid (insertion_nil c f w)
  go_enter Tryz.func127, Tryz.ntmps127
  go_wp2_with fail
  go_loopg [1, 2, 3, 10, 11] 0 (fun gk u1 u2 u3 u10 u11 wr => gk = 0 ∧ u1 = .int .i64 0 ∧ u2 = .int .i64 0 ∧ u3 = .int .i64 n ∧ u10 = .bool true ∧ u11 = .bool true ∧ wr = w)
  case atStart => exact ⟨rfl, rfl, rfl, rfl, rfl, rfl, rfl⟩
  case round =>
    obtain ⟨rfl, rfl, rfl, rfl, rfl, rfl, rfl⟩ := hrel
    go_wp2_with ((with_reducible refine H.out.mono ?_); rintro e w1 ⟨rfl, rfl⟩)
    refine bodyPost_ret (results_none rfl _ _ _) rfl ?_
    exact ⟨rfl, rfl⟩
theorem bitsLen0 (w : World) : Calls Tryz.prog 128 #[.int .u64 0] w fun e w' => e = .returned (.int .i64 0) ∧ w' = w := by
  have h := Any.bits_Len (SlLaysF0.n15.bits (P := Tryz.prog) { sortEvL with }) 0 w (by omega) (by omega)
  change Calls Tryz.prog 128 _ _ _ at h
  exact h
theorem sortE_nil (w : World) :
    Calls Tryz.prog 92 #[.slice none 0 0, .func (.func 93) #[] #[]] w fun e w' => e = .returned (.tuple #[]) ∧ w' = w := by
  have H := Lib.hid (pdq_nil 0 0 (.func (.func 93) #[] #[]) w)
  have HB := Lib.hid (bitsLen0 w)
  have wr : IntKind.u64.wrap 0 = 0 := by decide
  go_enter Tryz.func92, Tryz.ntmps92
  go_wp2_with (first
    | (go_at_call 128; (with_reducible refine HB.out.mono ?_); rintro e w1 ⟨rfl, rfl⟩)
    | (go_at_call 127; (with_reducible refine H.out.mono ?_); rintro e w1 ⟨rfl, rfl⟩))
  go_end0
  exact ⟨rfl, rfl⟩
def OSortP (v : Value) (l : List Ev) (w : World) (e : Ending) (w' : World) : Prop :=
  e = .returned (.tuple #[]) ∧ ∃ s, s.Perm l ∧ Srt s ∧ OwnS w' 41 7 v s.length (cells s) ∧ Keep (fun k => v.ownBlock = some k) w w'
theorem sortE_any (v : Value) (l : List Ev) (w : World) (h : OwnS w 41 7 v l.length (cells l)) (hl : l.length ≤ 100000) :
    Calls Tryz.prog 92 #[v, .func (.func 93) #[] #[]] w (OSortP v l w) := by
  rcases h.2 with ⟨rfl, hn⟩ | ⟨g, off, cap, cur, rfl, _⟩
  · have : l = [] := List.eq_nil_of_length_eq_zero hn
    subst this
    refine (sortE_nil w).mono ?_
    rintro e w' ⟨rfl, rfl⟩
    exact ⟨rfl, [], .refl _, List.Pairwise.nil, OwnS.nil _ _ _, Keep.refl _ _⟩
  · refine (sortE_some g off cap l w h hl).mono ?_
    rintro e w' ⟨rfl, s, s1, s2, s3, s4⟩
    refine ⟨rfl, s, s1, s2, ?_, s4.more (fun k _ hk => by subst hk; rfl)⟩
    have := s3
    rw [s1.length_eq] at this ⊢
    exact this
end Go.Proofs.YthbcdkeammhakaaGreat

/-
  The law's Events: are two lists one?
-/
namespace Go.Proofs.YthbcdkeammhakaaGreat
open Go.RowKit
attribute [local go_sem ↓] Go.wp_at_zero Go.wp_at_succ
attribute [local go_sem ↓] run_eql_ev

attribute [local go_sem ↓] run_neq_ev
set_option maxHeartbeats 1000000 in
set_option maxRecDepth 100000 in
theorem oevents_any (v u : Value) (l m : List Ev) (w : World) (hv : EvAt w v l) (hu : EvAt w u m) (hl : l.length ≤ 1000000) (_hm : m.length ≤ 1000000) :
    Calls Tryz.prog 17 #[v, u] w fun e w' => e = .returned (.bool (decide (l = m))) ∧ Fresh w w' := by
  obtain ⟨A, c, rfl, hv⟩ := hv
  obtain ⟨B, d, rfl, hu⟩ := hu
  generalize hfin : decide (l = m) = fin
  have FIN := Lib.hid hfin
  have HV := Lib.hid hv
  have HU := Lib.hid hu
  clear hfin hv hu
  by_cases hlen : l.length = m.length
  rotate_left
  · have t1 : ((l.length : Int) != (m.length : Int)) = true := by simp; omega
    have t2 : (l.length != m.length) = true := by simp; omega
    obtain rfl : fin = false := by rw [← FIN.out]; exact decide_eq_false (fun h => hlen (by rw [h]))
    go_enter Tryz.func17, Tryz.ntmps17
    go_wp2_with fail
    go_ret
    exact ⟨rfl, Keep.refl _ _⟩
  rw [← hlen]
  have HL := Lib.hid hlen
  clear hlen _hm
  go_enter Tryz.func17, Tryz.ntmps17
  go_wp2_with fail
  go_loopg [5] l.length (fun gk u5 wr => ∃ q : Nat, q ≤ l.length ∧ gk = l.length - q ∧ u5 = .int .i64 q ∧ l.take q = m.take q ∧ Fresh w wr)
  case atStart => exact ⟨0, by omega, rfl, rfl, rfl, Keep.refl _ _⟩
  case round =>
    obtain ⟨q, hq, rfl, rfl, hT, hF⟩ := hrel
    have HF := Lib.hid hF
    have HT := Lib.hid hT
    clear hF hT
    by_cases hlt : q < l.length
    · obtain ⟨x, hx⟩ : ∃ x, l[q]? = some x := ⟨_, List.getElem?_eq_getElem hlt⟩
      obtain ⟨y, hy⟩ : ∃ y, m[q]? = some y := ⟨_, List.getElem?_eq_getElem (by have := HL.out; omega)⟩
      obtain ⟨b0, off, rfl, lt0, hO⟩ := HV.out q x hx
      obtain ⟨b1, off1, rfl, lt1, hP⟩ := HU.out q y hy
      have x0 := HF.out.cell_ (hO 0 (.int .i64 x.a) rfl)
      have x1 := HF.out.cell_ (hO 1 (.int .i64 x.s) rfl)
      have x2 := HF.out.cell_ (hO 2 (.int .i64 x.t) rfl)
      have x3 := HF.out.cell_ (hO 3 (.int .i64 x.n) rfl)
      have x4 := HF.out.cell_ (hO 4 (.int .i64 x.d) rfl)
      have x5 := HF.out.cell_ (hO 5 (.int .i64 x.k) rfl)
      have x6 := HF.out.cell_ (hO 6 (.int .i64 x.x) rfl)
      have y0 := HF.out.cell_ (hP 0 (.int .i64 y.a) rfl)
      have y1 := HF.out.cell_ (hP 1 (.int .i64 y.s) rfl)
      have y2 := HF.out.cell_ (hP 2 (.int .i64 y.t) rfl)
      have y3 := HF.out.cell_ (hP 3 (.int .i64 y.n) rfl)
      have y4 := HF.out.cell_ (hP 4 (.int .i64 y.d) rfl)
      have y5 := HF.out.cell_ (hP 5 (.int .i64 y.k) rfl)
      have y6 := HF.out.cell_ (hP 6 (.int .i64 y.x) rfl)
      rw [Nat.add_zero] at x0 y0
      have lb0 : b0 < wr.heap.size := Nat.lt_of_lt_of_le lt0 HF.out.size
      have lb1 : b1 < wr.heap.size := Nat.lt_of_lt_of_le lt1 HF.out.size
      have HX := Lib.hid hx
      have HY := Lib.hid hy
      clear hO hP hx hy lt0 lt1
      cases hq : evB x y
      · have hf := Lib.hid (show fin = false by
          rw [← FIN.out]
          refine decide_eq_false (fun h => ?_)
          have h1 := HX.out
          rw [h, HY.out] at h1
          injection h1 with h1
          rw [(evB_iff x y).2 h1.symm] at hq
          cases hq)
        unfold evB at hq
        go_wp2_with fail
        go_quiet (fail)
        go_wp2_with fail
        obtain rfl := hf.out
        go_ret
        exact ⟨rfl, HF.out.drewN _⟩
      · have HT2 := Lib.hid (show l.take (q + 1) = m.take (q + 1) by
          rw [List.take_add_one, List.take_add_one, HT.out, HX.out, HY.out, (evB_iff x y).1 hq])
        unfold evB at hq
        go_wp2_with fail
        go_quiet (fail)
        go_wp2_with fail
        go_roundg (l.length - (q + 1))
        case measure => omega
        case rel => exact ⟨q + 1, by omega, rfl, by go_num, HT2.out, HF.out.drewN _⟩
    · obtain rfl : q = l.length := by omega
      have hf := Lib.hid (show fin = true by
        rw [← FIN.out]
        have h1 := HT.out
        rw [List.take_length, HL.out, List.take_length] at h1
        exact decide_eq_true h1)
      go_wp2_with fail
      obtain rfl := hf.out
      go_ret
      exact ⟨rfl, HF.out⟩
end Go.Proofs.YthbcdkeammhakaaGreat

/-
  outq.Queue: why events can't be sent.
-/
namespace Go.Proofs.YthbcdkeammhakaaGreat
open Go.RowKit
attribute [local go_sem ↓] Go.wp_at_zero Go.wp_at_succ
attribute [local go_sem ↓] run_eql_ev

theorem isNilE (w : World) (a : Option Addr) (n c : Nat) : (binOp .eql 24 (.slice a n c) (.slice none 0 0)).run Tryz.prog w = .ok (.bool a.isNone) w := Lib.run_eql_slice_nil w _ _ a n c 0 0 Tryz.underlying24
attribute [local go_sem] isNilE
theorem EvAt.src {w : World} {v : Value} {l : List Ev} (h : EvAt w v l) : Src w 7 v l.length (cells l) := by
  obtain ⟨A, c, rfl, h⟩ := h
  refine ⟨cells_length l, ?_⟩
  cases l with
  | nil =>
    cases A with
    | none => exact .inl ⟨_, rfl, rfl⟩
    | some a => exact .inr ⟨a, c, rfl, fun j u hu => by simp [cells] at hu⟩
  | cons y r =>
    obtain ⟨b, off, rfl, _, _⟩ := h 0 y rfl
    refine .inr ⟨_, _, rfl, fun j u hu => ?_⟩
    have hj := (List.getElem?_eq_some_iff.1 hu).1
    rw [cells_length] at hj
    obtain ⟨x, hx⟩ : ∃ x, (y :: r)[j / 7]? = some x := ⟨_, List.getElem?_eq_getElem (by omega)⟩
    obtain ⟨b', off', e, _, hh⟩ := h _ _ hx
    injection e with e
    injection e with e1 e2 _
    subst e1 e2
    have := hh (j % 7) u (by
      obtain ⟨c0, c1, c2, c3, c4, c5, c6⟩ := cells_at _ _ _ hx
      have h7 : j % 7 < 7 := Nat.mod_lt _ (by omega)
      obtain ⟨q, hq⟩ : ∃ q, j / 7 = q := ⟨_, rfl⟩
      obtain ⟨m, hm⟩ : ∃ m, j % 7 = m := ⟨_, rfl⟩
      have e2 : j = q * 7 + m := by omega
      rw [hq] at c0 c1 c2 c3 c4 c5 c6
      rw [hm] at h7 ⊢
      rw [e2] at hu
      unfold Ev.enc
      match m, h7 with
      | 0, _ => rw [Nat.add_zero, c0] at hu; simpa using hu
      | 1, _ => rw [c1] at hu; simpa using hu
      | 2, _ => rw [c2] at hu; simpa using hu
      | 3, _ => rw [c3] at hu; simpa using hu
      | 4, _ => rw [c4] at hu; simpa using hu
      | 5, _ => rw [c5] at hu; simpa using hu
      | 6, _ => rw [c6] at hu; simpa using hu)
    rw [show off + j / 7 * 7 + j % 7 = off + j by omega] at this
    rw [show (⟨b, off, none⟩ : Addr).add j = ⟨b, off + j, none⟩ by cases j <;> simp [Addr.add]]
    exact this
/-- what a clone of events hands back -/
def CloneP (l : List Ev) (w : World) (e : Ending) (w' : World) : Prop := ∃ v', e = .returned v' ∧ OwnS w' 41 7 v' l.length (cells l) ∧ Fresh w w' ∧ ∀ k, v'.ownBlock = some k → w.heap.size ≤ k
theorem eclone_any (v : Value) (l : List Ev) (w : World) (h : EvAt w v l) (hn : l.length ≤ 1000000) :
    Calls Tryz.prog 91 #[v] w (CloneP l w) := by
  have HO := Lib.hid h.src
  obtain ⟨A, c, rfl, h⟩ := h
  cases A with
  | none =>
    have hx : l = [] := by
      cases l with
      | nil => rfl
      | cons y r => obtain ⟨b, off, e, _⟩ := h 0 y rfl; cases e
    subst hx
    clear h HO
    go_enter Tryz.func91, Tryz.ntmps91
    go_wp2_with fail
    go_ret
    exact ⟨_, rfl, OwnS.nil _ _ _, Keep.refl _ _, by simp [Value.ownBlock]⟩
  | some a =>
    have HS := Lib.hid (show Src (w.alloc (.cells #[] 41)) 7 (.slice (some a) l.length c) l.length (cells l) from by
      rcases HO.out with ⟨e, ⟨c', h0, _⟩ | ⟨a', c', h0, h2⟩⟩
      · cases h0
      · injection h0 with e1 _ _
        injection e1 with e1
        subst e1
        exact ⟨e, .inr ⟨_, _, rfl, fun j u hu => Fresh.cell_ ((Keep.refl _ w).alloc _) (h2 j u hu)⟩⟩)
    have H1 := Lib.hid (cells_one l)
    clear h HO
    obtain ⟨i0, hi, hz0, hz1, hz2⟩ := info_parts info_ev
    have h04 : 0 < 7 := by omega
    have hL1 : 0 + l.length ≤ maxLen := one_le_maxLen (by omega)
    have hL2 : (0 + l.length) * 56 ≤ 140737488355328 := by omega
    have HN : Hid (OwnS (w.alloc (.cells #[] 41)) 41 7 (.slice (some ⟨w.heap.size, 0, none⟩) 0 0) 0 []) := OwnS.new_ (Blk.at_new rfl _ #[]) rfl (Nat.zero_le _)
    go_enter Tryz.func91, Tryz.ntmps91
    go_wp2_with (at_builtin; refine wpList_append_OwnS _ rfl _ _ 24 rfl 41 i0 (.agg #[.int .i64 0, .int .i64 0, .int .i64 0, .int .i64 0, .int .i64 0, .int .i64 0, .int .i64 0]) 7 56 Tryz.underlying24 hi hz0 hz1 hz2 rfl h04 (.slice (some ⟨w.heap.size, 0, none⟩) 0 0) 0 [] rfl HN.out (.slice (some a) l.length c) l.length (cells l) rfl HS.out H1.out hL1 hL2 ?_; intro v' w1 ho1 hk1 hat1)
    go_ret
    refine ⟨v', rfl, by simpa using ho1, Keep.step ((Keep.refl _ w).alloc _) hk1 (fun k hk hk' => by simp [Value.ownBlock] at hk'; omega), fun k hk => ?_⟩
    have := hat1 k hk
    simp [Value.ownBlock] at this
    omega
theorem srt_nodup : ∀ {s : List Ev}, Srt s → (∀ j, j + 1 < s.length → s[j]? ≠ s[j + 1]?) → s.Nodup
  | [], _, _ => List.nodup_nil
  | a :: r, h, hd => by
    obtain ⟨h1, h2⟩ := List.pairwise_cons.1 h
    have ih := srt_nodup h2 (fun j hj => by simpa using hd (j + 1) (by simpa using hj))
    refine List.nodup_cons.2 ⟨fun ha => ?_, ih⟩
    cases r with
    | nil => simp at ha
    | cons b r' =>
      have hab : a ≠ b := fun e => hd 0 (by simp) (by simp [e])
      rcases List.mem_cons.1 ha with e | hm
      · exact hab e
      · exact hab (evLt_total ((List.pairwise_cons.1 h2).1 a hm) (h1 b (by simp)))
theorem nodup_adj {s : List Ev} (h : s.Nodup) {j : Nat} {x : Ev} (hj : s[j]? = some x) (hj1 : s[j + 1]? = some x) : False := by
  have := (List.getElem?_inj (List.getElem?_eq_some_iff.1 hj).1 h).1 (hj.trans hj1.symm)
  omega
def wrongE (a0 : Int) (l : List Ev) (q : List Rec) : Int :=
  if l.any (fun e => e.t != a0) then 1 else if l.Nodup then (if q.any (fun r => r.2 && decide (a0 ≤ r.1.t)) then 19 else 0) else 13
def WrongP (a0 : Int) (l : List Ev) (q : List Rec) (w : World) (e : Ending) (w' : World) : Prop := e = .returned (.int .i64 (wrongE a0 l q)) ∧ Fresh w w'
theorem WrongP.is {a0 : Int} {l : List Ev} {q : List Rec} {w w' : World} {r : Int} (hr : wrongE a0 l q = r) (f : Fresh w w') : WrongP a0 l q w (.returned (.int .i64 r)) w' := by
  subst hr
  exact ⟨rfl, f⟩
set_option maxHeartbeats 8000000 in
set_option maxRecDepth 100000 in
theorem wrong_any (g : Nat) (v u : Value) (q : List Rec) (a0 : Int) (l : List Ev) (w : World) (h : OQ w g v q) (hu : EvAt w u l) (hl : l.length ≤ 100000) (hq : q.length ≤ 100000) :
    Calls Tryz.prog 90 #[.pointer (some ⟨g, 0, none⟩), .int .i64 a0, u] w (WrongP a0 l q w) := by
  have H := Lib.hid h
  have HE := Lib.hid (fun (W : World) (f : Fresh w W) => eclone_any u l W (hu.fresh f) (by omega))
  have HSo := Lib.hid (fun (W : World) (v1 : Value) (o : OwnS W 41 7 v1 l.length (cells l)) => sortE_any v1 l W o hl)
  obtain ⟨B, d, rfl, hU⟩ := hu
  have HU := Lib.hid hU
  obtain ⟨A, cap, rfl, hca, hcm⟩ := h.own.shape
  have hcm : cap ≤ 9223372036854775807 := by unfold maxLen at hcm; omega
  clear h hU
  go_enter Tryz.func90, Tryz.ntmps90
  go_wp2_with fail
  go_loopg [17] l.length (fun gk u17 wr => ∃ i : Nat, i ≤ l.length ∧ gk = l.length - i ∧ u17 = .int .i64 i ∧ (∀ j e, j < i → l[j]? = some e → e.t = a0) ∧ Fresh w wr)
  case atStart => exact ⟨0, by omega, rfl, rfl, fun j r h => absurd h (by omega), Keep.refl _ _⟩
  case round =>
    obtain ⟨i, hi, rfl, rfl, hb, hF⟩ := hrel
    have HB := Lib.hid hb
    have HF := Lib.hid hF
    clear hb hF
    by_cases hlt : i < l.length
    · obtain ⟨y, hy⟩ : ∃ y, l[i]? = some y := ⟨_, List.getElem?_eq_getElem hlt⟩
      obtain ⟨b0, off, rfl, lt0, hO⟩ := HU.out i y hy
      have x0 := HF.out.cell_ (hO 0 (.int .i64 y.a) rfl)
      have x1 := HF.out.cell_ (hO 1 (.int .i64 y.s) rfl)
      have x2 := HF.out.cell_ (hO 2 (.int .i64 y.t) rfl)
      have x3 := HF.out.cell_ (hO 3 (.int .i64 y.n) rfl)
      have x4 := HF.out.cell_ (hO 4 (.int .i64 y.d) rfl)
      have x5 := HF.out.cell_ (hO 5 (.int .i64 y.k) rfl)
      have x6 := HF.out.cell_ (hO 6 (.int .i64 y.x) rfl)
      rw [Nat.add_zero] at x0
      have HY := Lib.hid hy
      clear hO hy
      by_cases ht : y.t = a0
      · have t1 : (y.t != a0) = false := by simp [ht]
        have HB2 := Lib.hid (show ∀ j e, j < i + 1 → l[j]? = some e → e.t = a0 from fun j e hj he => by
          by_cases hji : j = i
          · subst hji
            rw [HY.out] at he
            injection he with he
            subst he
            exact ht
          · exact HB.out j e (by omega) he)
        clear ht
        go_wp2_with fail
        go_roundg (l.length - (i + 1))
        case measure => omega
        case rel => exact ⟨i + 1, by omega, rfl, by go_num, HB2.out, HF.out.alloc _⟩
      · have t1 : (y.t != a0) = true := by simp [ht]
        have EQ : Hid (wrongE a0 l q = 1) := Lib.hid (by unfold wrongE; rw [if_pos (List.any_eq_true.2 ⟨y, List.mem_of_getElem? HY.out, t1⟩)])
        clear ht
        go_wp2_with fail
        go_ret
        exact WrongP.is EQ.out (HF.out.alloc _)
    · obtain rfl : i = l.length := by omega
      have NA : Hid (l.any (fun e => e.t != a0) = false) := Lib.hid (by
        rw [List.any_eq_false]
        intro e he
        obtain ⟨j, hj⟩ := List.mem_iff_getElem?.1 he
        simp [HB.out j e (List.getElem?_eq_some_iff.1 hj).1 hj])
      clear HB
      go_wp2_with (first
        | (go_at_call 91; (with_reducible refine (HE.out _ HF.out).mono ?_); rintro e w1 ⟨v1, rfl, o1, f1, n1⟩; have O1 := Lib.hid o1; have F1 := Lib.hid f1; have N1 := Lib.hid n1; clear o1 f1 n1)
        | (go_at_call 92; (with_reducible refine (HSo.out _ _ O1.out).mono ?_); rintro e w2 ⟨rfl, s, s1, s2, s3, s4⟩; have S1 := Lib.hid s1; have S2 := Lib.hid s2; have S3 := Lib.hid s3; have S4 := Lib.hid s4; clear s1 s2 s3 s4))
      have F2 : Hid (Fresh w w2) := Lib.hid ((HF.out.step F1.out (fun _ _ h => h)).step S4.out (fun k hk h => by have := N1.out k h; have := HF.out.size; omega))
      have hsl : s.length ≤ 100000 := by rw [S1.out.length_eq]; exact hl
      obtain ⟨A1, cap1, rfl, hc1, hm1⟩ := S3.out.shape
      have hm1 : cap1 ≤ 9223372036854775807 := by unfold maxLen at hm1; omega
      clear O1 F1 N1 HE HSo S4
      go_loopg [10] s.length (fun gk u10 wr => ∃ k : Nat, k ≤ s.length ∧ gk = s.length - k ∧ u10 = .int .i64 ((k : Int) + 1) ∧ (∀ j, j < k → j + 1 < s.length → s[j]? ≠ s[j + 1]?) ∧ Fresh w2 wr)
      case atStart => exact ⟨0, by omega, rfl, by simp, fun j h => absurd h (by omega), Keep.refl _ _⟩
      case round =>
        obtain ⟨k, hk, rfl, rfl, hb, hF⟩ := hrel
        have HB := Lib.hid hb
        have HG := Lib.hid hF
        clear hb hF
        by_cases hlt : k + 1 < s.length
        · obtain ⟨x, hx⟩ : ∃ x, s[k + 1]? = some x := ⟨_, List.getElem?_eq_getElem hlt⟩
          obtain ⟨y, hy⟩ : ∃ y, s[k]? = some y := ⟨_, List.getElem?_eq_getElem (by omega)⟩
          obtain ⟨g3, off3, _, hv3, hg3, _, _, hcc⟩ := (S3.out.fresh HG.out).form (by omega)
          injection hv3 with e1 e2 e3
          subst e1 e3
          obtain ⟨x0, x1, x2, x3, x4, x5, x6⟩ := cells_at s _ x hx
          obtain ⟨y0, y1, y2, y3, y4, y5, y6⟩ := cells_at s _ y hy
          have x0 := hcc _ _ x0
          have x1 := hcc _ _ x1
          have x2 := hcc _ _ x2
          have x3 := hcc _ _ x3
          have x4 := hcc _ _ x4
          have x5 := hcc _ _ x5
          have x6 := hcc _ _ x6
          have y0 := hcc _ _ y0
          have y1 := hcc _ _ y1
          have y2 := hcc _ _ y2
          have y3 := hcc _ _ y3
          have y4 := hcc _ _ y4
          have y5 := hcc _ _ y5
          have y6 := hcc _ _ y6
          rw [← Nat.add_assoc] at x1 x2 x3 x4 x5 x6 y1 y2 y3 y4 y5 y6
          have tk : ((k : Int) + 1).toNat = k + 1 := by omega
          have hk1 : (k : Int) + 1 < (s.length : Int) := by omega
          have hk0 : 0 ≤ (k : Int) + 1 := by omega
          have hk2 : (k : Int) < (s.length : Int) := by omega
          have hk3 : 0 ≤ (k : Int) := by omega
          have wk : IntKind.i64.wrap ((k : Int) + 1 - 1) = k := by rw [IntWalk.i64_in _ (by omega)]; omega
          have wk' : IntKind.i64.wrap (k : Int) = k := IntWalk.i64_in _ (by omega)
          have wk2 : IntKind.i64.wrap ((k : Int) + 1 + 1) = (k : Int) + 1 + 1 := IntWalk.i64_in _ (by omega)
          have HX := Lib.hid hx
          have HY := Lib.hid hy
          clear hcc hx hy e2
          by_cases he : x = y
          · subst he
            have EQ : Hid (wrongE a0 l q = 13) := Lib.hid (by
              unfold wrongE
              rw [if_neg (by rw [NA.out]; simp), if_neg (fun hn => nodup_adj ((S1.out.nodup_iff).2 hn) HY.out HX.out)])
            go_wp2_with fail
            go_quiet (fail)
            go_wp2_with fail
            go_ret
            exact WrongP.is EQ.out (F2.out.step (HG.out.drewN _) (fun _ _ h => h))
          · have hb1 : (x.a == y.a && (x.s == y.s && (x.t == y.t && (x.n == y.n && (x.d == y.d && (x.k == y.k && x.x == y.x)))))) = false := by
              have := mt (evB_iff x y).1 he
              simpa [evB] using this
            have HB2 := Lib.hid (show ∀ j, j < k + 1 → j + 1 < s.length → s[j]? ≠ s[j + 1]? from fun j hj hj1 => by
              by_cases hjk : j = k
              · subst hjk
                rw [HX.out, HY.out]
                exact fun h => he (by injection h with h; exact h.symm)
              · exact HB.out j (by omega) hj1)
            clear he
            go_wp2_with fail
            go_quiet (fail)
            go_wp2_with fail
            go_roundg (s.length - (k + 1))
            case measure => omega
            case rel => exact ⟨k + 1, by omega, rfl, by simp, HB2.out, HG.out.drewN _⟩
        · have hk1 : decide ((k : Int) + 1 < (s.length : Int)) = false := decide_eq_false (by omega)
          have ND : Hid (l.Nodup) := Lib.hid ((S1.out.nodup_iff).1 (srt_nodup S2.out (fun j hj => HB.out j (by omega) hj)))
          have cq := ((H.out.fresh F2.out).fresh HG.out).blk.cell
          have F3 : Hid (Fresh w wr) := Lib.hid (F2.out.step HG.out (fun _ _ h => h))
          clear HB HG F2
          go_wp2_with fail
          go_loopg [52] q.length (fun gk u52 wq => ∃ i : Nat, i ≤ q.length ∧ gk = q.length - i ∧ u52 = .int .i64 i ∧ (∀ j r, j < i → q[j]? = some r → (r.2 && decide (a0 ≤ r.1.t)) = false) ∧ Fresh w wq)
          case atStart => exact ⟨0, by omega, rfl, rfl, fun j r h => absurd h (by omega), F3.out⟩
          case round =>
            obtain ⟨i, hi, rfl, rfl, hb, hF⟩ := hrel
            have HB := Lib.hid hb
            have HF := Lib.hid hF
            clear hb hF
            by_cases hli : i < q.length
            · obtain ⟨y, hy⟩ : ∃ y, q[i]? = some y := ⟨_, List.getElem?_eq_getElem hli⟩
              obtain ⟨g3, off3, _, hv3, hg3, _, _, hcc⟩ := (H.out.own.fresh HF.out).form (by omega)
              injection hv3 with e1 e2 e3
              subst e1 e3
              obtain ⟨y0, y1, y2, y3, y4, y5, y6, y7⟩ := rcells_at q i y hy
              have y0 := hcc _ _ y0
              have y1 := hcc _ _ y1
              have y2 := hcc _ _ y2
              have y3 := hcc _ _ y3
              have y4 := hcc _ _ y4
              have y5 := hcc _ _ y5
              have y6 := hcc _ _ y6
              have y7 := hcc _ _ y7
              rw [← Nat.add_assoc] at y1 y2 y3 y4 y5 y6 y7
              have HY := Lib.hid hy
              clear hcc hy e2
              obtain ⟨y, b⟩ := y
              simp only at y0 y1 y2 y3 y4 y5 y6 y7
              have NX : (b && decide (a0 ≤ y.t)) = false → Hid (∀ j r, j < i + 1 → q[j]? = some r → (r.2 && decide (a0 ≤ r.1.t)) = false) := fun hb => Lib.hid fun j r hj hr => by
                by_cases hji : j = i
                · subst hji
                  rw [HY.out] at hr
                  injection hr with hr
                  subst hr
                  exact hb
                · exact HB.out j r (by omega) hr
              cases b
              · have HB2 := NX (by simp)
                clear NX
                go_wp2_with fail
                go_roundg (q.length - (i + 1))
                case measure => omega
                case rel => exact ⟨i + 1, by omega, rfl, by go_num, HB2.out, HF.out.alloc _⟩
              · by_cases ht : a0 ≤ y.t
                · have t1 : decide (a0 ≤ y.t) = true := decide_eq_true ht
                  have EQ : Hid (wrongE a0 l q = 19) := Lib.hid (by
                    unfold wrongE
                    rw [if_neg (by rw [NA.out]; simp), if_pos ND.out, if_pos (List.any_eq_true.2 ⟨_, List.mem_of_getElem? HY.out, by simp [ht]⟩)])
                  clear ht NX
                  go_wp2_with fail
                  go_ret
                  exact WrongP.is EQ.out (HF.out.alloc _)
                · have t1 : decide (a0 ≤ y.t) = false := decide_eq_false ht
                  have HB2 := NX (by simp [ht])
                  clear NX ht
                  go_wp2_with fail
                  go_roundg (q.length - (i + 1))
                  case measure => omega
                  case rel => exact ⟨i + 1, by omega, rfl, by go_num, HB2.out, HF.out.alloc _⟩
            · obtain rfl : i = q.length := by omega
              have EQ : Hid (wrongE a0 l q = 0) := Lib.hid (by
                unfold wrongE
                rw [if_neg (by rw [NA.out]; simp), if_pos ND.out, if_neg (by
                  rw [List.any_eq_true]
                  rintro ⟨r, hr, h⟩
                  obtain ⟨j, hj⟩ := List.mem_iff_getElem?.1 hr
                  rw [HB.out j r (List.getElem?_eq_some_iff.1 hj).1 hj] at h
                  cases h)])
              go_wp2_with fail
              go_ret
              exact WrongP.is EQ.out HF.out
end Go.Proofs.YthbcdkeammhakaaGreat
