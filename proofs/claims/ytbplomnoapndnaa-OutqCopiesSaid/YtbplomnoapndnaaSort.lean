/-
  slices.SortFunc at events.
-/
import Derived.Test.YtbplomnoapndnaaSortP
import Derived.Test.YtbplomnoapndnaaEventD
namespace Go.Proofs.Ytbplomnoapndnaa
open Go.RowKit Go.Sort

instance : Inhabited Ev := ⟨⟨0, 0, 0, 0, 0, 0, 0⟩⟩
theorem FreshD.grown {w w' : World} (h : FreshD w w') : ∃ q os', w' = grow (w.drewN q) os' := by
  refine ⟨w'.drawn - w.drawn, w'.heap.extract w.heap.size w'.heap.size, ?_⟩
  have hd := h.d
  obtain ⟨h1, h2, h3, h4, h5⟩ := h.f
  obtain ⟨hp, tp, dr, o, out⟩ := w
  obtain ⟨hp', tp', dr', o', out'⟩ := w'
  simp only at h1 h2 h3 h4 h5 hd
  subst h1 h2 h3
  unfold grow World.drewN
  simp only
  congr 1
  · apply Array.ext_getElem?
    intro k
    by_cases hk : k < hp.size
    · rw [Array.getElem?_append_left hk]
      exact h5 k hk (fun h => h)
    · rw [Array.getElem?_append_right (by omega)]
      rw [Array.getElem?_extract]
      by_cases hk2 : k < hp'.size
      · rw [if_pos (by omega)]
        congr 1
        omega
      · rw [if_neg (by omega), Array.getElem?_eq_none (by omega)]
  · omega
theorem flat_get (l : List Ev) (t : Nat) (ht : t < l.length * 7) : (cells l)[t]? = some ((flatK Ev.enc 7 l.toArray)[t]!) := by
  rw [get_flatK _ _ _ t (by simpa using ht)]
  have hk : t / 7 < l.length := by omega
  have e : l.toArray[t / 7]! = l[t / 7] := by simp [hk]
  obtain ⟨c0, c1, c2, c3, c4, c5, c6⟩ := cells_at l (t / 7) _ (List.getElem?_eq_getElem hk)
  rw [e]
  generalize l[t / 7] = y at *
  have h7 : t % 7 < 7 := Nat.mod_lt _ (by omega)
  obtain ⟨r, hr⟩ : ∃ r, t % 7 = r := ⟨_, rfl⟩
  obtain ⟨k, hk'⟩ : ∃ k, t / 7 = k := ⟨_, rfl⟩
  have ht2 : t = k * 7 + r := by omega
  rw [hk'] at c0 c1 c2 c3 c4 c5 c6
  rw [hr] at h7 ⊢
  subst ht2
  unfold Ev.enc
  match r, h7 with
  | 0, _ => simpa using c0
  | 1, _ => simpa using c1
  | 2, _ => simpa using c2
  | 3, _ => simpa using c3
  | 4, _ => simpa using c4
  | 5, _ => simpa using c5
  | 6, _ => simpa using c6
theorem cells_holds {w : World} {g off cap : Nat} {l : List Ev} (h : OwnS w 44 7 (.slice (some ⟨g, off, none⟩) l.length cap) l.length (cells l)) : HoldsK Ev.enc 7 w g off l.toArray := by
  intro j hj
  simp at hj
  obtain ⟨_, f, _, _, c⟩ := OwnS.at_ h
  exact ⟨c j _ (flat_get l j hj), f _⟩
theorem flat_get' (d : Array Ev) (t : Nat) (ht : t < d.size * 7) : (cells d.toList)[t]? = some ((flatK Ev.enc 7 d)[t]!) := flat_get d.toList t (by simpa using ht)
theorem sorted_own {w : World} {g off cap : Nat} {l : List Ev} (h : OwnS w 44 7 (.slice (some ⟨g, off, none⟩) l.length cap) l.length (cells l)) (n : Nat) (d : Array Ev) (os : Array Obj) (hd : d.size = l.length) :
    OwnS (sortWorldK Ev.enc 7 w g off n d os) 44 7 (.slice (some ⟨g, off, none⟩) l.length cap) l.length (cells d.toList) ∧ Keep (fun k => k = g) w (sortWorldK Ev.enc 7 w g off n d os) := by
  rcases h.2 with ⟨h0, _⟩ | ⟨g', off', cap', cur, hv, hg, h1, h2, h3, h4⟩
  · cases h0
  injection hv with hv1 hv2 hv3
  injection hv1 with hv1
  injection hv1 with e1 e2 _
  subst e1 e2 hv3
  have hgs := (Array.getElem?_eq_some_iff.1 hg).1
  refine ⟨⟨by rw [cells_length]; simp [hd], .inr ⟨g, off, cap, putCells id off (flatK Ev.enc 7 d) cur, rfl, ?_, h1, h2, by simpa [putCells] using h3, fun j u hu => ?_⟩⟩, ⟨rfl, rfl, rfl, ?_, fun k hk hn => ?_⟩⟩
  · unfold sortWorldK putRowK putRow mapBlock grow Go.Sort.ahead
    simp only
    rw [Array.getElem?_append_left (by simpa using hgs), Array.getElem?_modify, if_pos rfl, hg]
    rfl
  · have hj : j < d.size * 7 := by
      have := (List.getElem?_eq_some_iff.1 hu).1
      rw [cells_length] at this
      simpa using this
    rw [flat_get' d j hj] at hu
    injection hu with hu
    subst hu
    have hjc : off + j < cur.size := by
      have : l.length * 7 ≤ cap * 7 := Nat.mul_le_mul_right 7 h1
      omega
    unfold putCells
    rw [Array.getElem?_mapIdx, Array.getElem?_eq_getElem hjc, Option.map_some, if_pos (by simp; omega), Nat.add_sub_cancel_left]
    rfl
  · unfold sortWorldK putRowK putRow mapBlock grow Go.Sort.ahead
    simp
  · unfold sortWorldK putRowK putRow mapBlock grow Go.Sort.ahead
    simp only
    rw [Array.getElem?_append_left (by simpa using hk), Array.getElem?_modify, if_neg (fun e => hn e.symm)]
theorem evLt_cmp (p q : Ev) : ltOf evCmp p q = evLt p q := by
  unfold ltOf evCmp
  cases h : evLt p q
  · cases h2 : evLt q p <;> simp
  · simp
theorem evLt_ntrans {p q r : Ev} (h : evLt p q = false) (h' : evLt q r = false) : evLt p r = false := by
  cases hc : evLt p r
  · rfl
  · exfalso
    cases hq : evLt q p
    · have := evLt_total h hq
      subst this
      rw [h'] at hc
      cases hc
    · rw [evLt_trans hq hc] at h'
      cases h'
theorem swo_ev : SWO (ltOf evCmp) where
  irrefl x := by rw [evLt_cmp]; exact evLt_irrefl x
  trans x y z h h' := by rw [evLt_cmp] at *; exact evLt_trans h h'
  ntrans x y z h h' := by rw [evLt_cmp] at *; exact evLt_ntrans h h'
theorem cmpLays_ev (g off size : Nat) (w : World) : CmpLays Try.prog 42 #[] Ev.enc 7 evCmp g off size w :=
  fun _ _ _ _ x y => (compare_d x y _).mono fun _ _ h => ⟨h.1, h.2.grown⟩
theorem sortE_some (g off cap : Nat) (l : List Ev) (w : World) (h : OwnS w 44 7 (.slice (some ⟨g, off, none⟩) l.length cap) l.length (cells l)) (hl : l.length ≤ 100000) :
    Calls Try.prog 41 #[.slice (some ⟨g, off, none⟩) l.length cap, .func (.func 42) #[] #[]] w fun e w' => e = .returned (.tuple #[]) ∧ ∃ s, s.Perm l ∧ Srt s ∧ OwnS w' 44 7 (.slice (some ⟨g, off, none⟩) s.length cap) s.length (cells s) ∧ Keep (fun k => k = g) w w' := by
  have eg : ∀ args w, (callFunc 42 args).run Try.prog w = .ok (.enter 42 args) w := enters_of Try.func42 (by kernel_rfl) rfl
  have hcon := AnyQ.slices_SortFunc sortEvL 7 Try.isAgg44 Try.sizeOf44 Ev.enc (fun _ => rfl) (fun x v hv => by simp [Ev.enc] at hv; rcases hv with rfl | rfl | rfl | rfl | rfl | rfl | rfl <;> rfl) evCmp swo_ev 42 #[] g off cap l.toArray w eg (cmpLays_ev g off _ w) (cells_holds h) (OwnS.at_ h).1 (by simp; omega)
  change Calls Try.prog 41 #[.slice (some ⟨g, off, none⟩) l.length cap, .func (.func 42) #[] #[]] _ _ at hcon
  refine hcon.mono ?_
  rintro e w' ⟨rfl, d', n, os, ⟨p1, _, p3⟩, hs, rfl⟩
  have hd : d'.size = l.length := by simpa using p1
  obtain ⟨o, k⟩ := sorted_own h n d' os hd
  have hp : d'.toList.Perm l := by
    have e1 : (d'.extract 0 l.toArray.size) = d' := by rw [show l.toArray.size = d'.size by simp [hd]]; simp
    have e2 : (l.toArray.extract 0 l.toArray.size) = l.toArray := by simp
    rw [e1, e2] at p3
    simpa using p3
  refine ⟨rfl, d'.toList, hp, ?_, ?_, k⟩
  · unfold Srt
    rw [List.pairwise_iff_getElem]
    intro i j hi hj hij
    have := hs i j (by omega) hij (by simp at hj ⊢; omega)
    rw [evLt_cmp] at this
    simp at hi hj
    rw [getElem!_pos d' j hj, getElem!_pos d' i hi] at this
    simpa using this
  · rw [hp.length_eq]
    exact o
theorem insertion_nil (c : Nat) (f : Value) (w : World) : Calls Try.prog 67 #[.slice none 0 c, .int .i64 0, .int .i64 0, f] w fun e w' => e = .returned (.tuple #[]) ∧ w' = w := by
  go_enter Try.func67, Try.ntmps67
  go_wp2_with fail
  go_loopg [8] 0 (fun gk u8 wr => gk = 0 ∧ u8 = .int .i64 1 ∧ wr = w)
  case atStart => exact ⟨rfl, rfl, rfl⟩
  case round =>
    obtain ⟨rfl, rfl, rfl⟩ := hrel
    go_wp2_with fail
    go_end0
    exact ⟨rfl, rfl⟩
set_option maxRecDepth 100000 in
set_option maxHeartbeats 1000000 in
theorem pdq_nil (c : Nat) (n : Int) (f : Value) (w : World) : Calls Try.prog 55 #[.slice none 0 c, .int .i64 0, .int .i64 0, .int .i64 n, f] w fun e w' => e = .returned (.tuple #[]) ∧ w' = w := by
  have H := Lib.hid (insertion_nil c f w)
  go_enter Try.func55, Try.ntmps55
  go_wp2_with fail
  go_loopg [1, 2, 3, 10, 11] 0 (fun gk u1 u2 u3 u10 u11 wr => gk = 0 ∧ u1 = .int .i64 0 ∧ u2 = .int .i64 0 ∧ u3 = .int .i64 n ∧ u10 = .bool true ∧ u11 = .bool true ∧ wr = w)
  case atStart => exact ⟨rfl, rfl, rfl, rfl, rfl, rfl, rfl⟩
  case round =>
    obtain ⟨rfl, rfl, rfl, rfl, rfl, rfl, rfl⟩ := hrel
    go_wp2_with ((with_reducible refine H.out.mono ?_); rintro e w1 ⟨rfl, rfl⟩)
    refine bodyPost_ret (results_none rfl _ _ _) rfl ?_
    exact ⟨rfl, rfl⟩
theorem bitsLen0 (w : World) : Calls Try.prog 56 #[.int .u64 0] w fun e w' => e = .returned (.int .i64 0) ∧ w' = w := by
  have h := Any.bits_Len (SlLaysF0.n15.bits (P := Try.prog) { sortEvL with }) 0 w (by omega) (by omega)
  change Calls Try.prog 56 _ _ _ at h
  exact h
theorem sortE_nil (w : World) :
    Calls Try.prog 41 #[.slice none 0 0, .func (.func 42) #[] #[]] w fun e w' => e = .returned (.tuple #[]) ∧ w' = w := by
  have H := Lib.hid (pdq_nil 0 0 (.func (.func 42) #[] #[]) w)
  have HB := Lib.hid (bitsLen0 w)
  have wr : IntKind.u64.wrap 0 = 0 := by decide
  go_enter Try.func41, Try.ntmps41
  go_wp2_with (first
    | (go_at_call 56; (with_reducible refine HB.out.mono ?_); rintro e w1 ⟨rfl, rfl⟩)
    | (go_at_call 55; (with_reducible refine H.out.mono ?_); rintro e w1 ⟨rfl, rfl⟩))
  go_end0
  exact ⟨rfl, rfl⟩
def SortP (v : Value) (l : List Ev) (w : World) (e : Ending) (w' : World) : Prop :=
  e = .returned (.tuple #[]) ∧ ∃ s, s.Perm l ∧ Srt s ∧ OwnS w' 44 7 v s.length (cells s) ∧ Keep (fun k => v.ownBlock = some k) w w'
theorem sortE_any (v : Value) (l : List Ev) (w : World) (h : OwnS w 44 7 v l.length (cells l)) (hl : l.length ≤ 100000) :
    Calls Try.prog 41 #[v, .func (.func 42) #[] #[]] w (SortP v l w) := by
  rcases h.2 with ⟨rfl, hn⟩ | ⟨g, off, cap, cur, rfl, _⟩
  · have : l = [] := List.eq_nil_of_length_eq_zero hn
    subst this
    refine (sortE_nil w).mono ?_
    rintro e w' ⟨rfl, rfl⟩
    exact ⟨rfl, [], .refl _, List.Pairwise.nil, OwnS.nil _ _ _, Keep.refl _ _⟩
  · refine (sortE_some g off cap l w h hl).mono ?_
    rintro e w' ⟨rfl, s, s1, s2, s3, s4⟩
    refine ⟨rfl, s, s1, s2, ?_, s4.more (fun k _ hk => by subst hk; rfl)⟩
    have := s3
    rw [s1.length_eq] at this ⊢
    exact this
end Go.Proofs.Ytbplomnoapndnaa
