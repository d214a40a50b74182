/-
  The reference's Row: each method by a contract.
-/
import Derived.Test.YtehiakdagmocjaaTimes
namespace Go.Proofs.Ytehiakdagmocjaa
open Go.RowKit R_int
attribute [local go_sem ↓] run_max run_min

/-- The reference's row: times va, things vx. -/
structure SRef (w : World) (g : Nat) (va vx : Value) (l : List (Int × Int)) : Prop where
  blk : Blk w g 65 #[va, vx]
  oa : OwnS w 3 1 va l.length (ints (l.map (·.1)))
  ox : OwnS w 3 1 vx l.length (ints (l.map (·.2)))
  ne : ∀ k, va.ownBlock = some k → vx.ownBlock ≠ some k
def rfoot (g : Nat) (va vx : Value) (k : Nat) : Prop := k = g ∨ va.ownBlock = some k ∨ vx.ownBlock = some k
theorem SRef.kept {w w' : World} {g : Nat} {va vx : Value} {l : List (Int × Int)} {S : Nat → Prop} (h : SRef w g va vx l) (hk : Keep S w w') (hn : ∀ k, rfoot g va vx k → ¬ S k) : SRef w' g va vx l :=
  ⟨h.blk.keep hk (hn g (.inl rfl)), h.oa.kept hk (fun k e => hn k (.inr (.inl e))), h.ox.kept hk (fun k e => hn k (.inr (.inr e))), h.ne⟩
theorem SRef.fresh {w w' : World} {g : Nat} {va vx : Value} {l : List (Int × Int)} (h : SRef w g va vx l) (hk : Fresh w w') : SRef w' g va vx l := h.kept hk (fun _ _ h => h)
theorem SRef.lt {w : World} {g : Nat} {va vx : Value} {l : List (Int × Int)} (h : SRef w g va vx l) : ∀ k, rfoot g va vx k → k < w.heap.size := by
  rintro k (rfl | hk | hk)
  · exact h.blk.lt
  · exact h.oa.lt hk
  · exact h.ox.lt hk
/-- where its slices lie when a call is over -/
def RLater (w : World) (g : Nat) (va vx va' vx' : Value) : Prop := ∀ k, rfoot g va' vx' k → rfoot g va vx k ∨ w.heap.size ≤ k

theorem ints_at (l : List (Int × Int)) (f : Int × Int → Int) (k : Nat) (s : Int × Int) (h : l[k]? = some s) : (ints (l.map f))[k]? = some (.int .i64 (f s)) := by
  simp [ints, h]

theorem rnew_any (x : Int) (w : World) : Calls Try.prog 13 #[.int .i64 x] w fun e w' => ∃ g va vx, e = .returned (.pointer (some ⟨g, 0, none⟩)) ∧ SRef w' g va vx [(-1, x)] ∧ Fresh w w' ∧ ∀ k, rfoot g va vx k → w.heap.size ≤ k := by
  go_enter Try.func13, Try.ntmps13
  go_wp2
  go_ret
  refine ⟨w.heap.size + 2, .slice (some ⟨w.heap.size, 0, none⟩) 1 1, .slice (some ⟨w.heap.size + 1, 0, none⟩) 1 1, rfl, ⟨Blk.at_new (by simp) _ _, ?_, ?_, ?_⟩, (((Keep.refl _ w).alloc _).alloc _).alloc _, ?_⟩
  · exact ((OwnS.new_ (Blk.at_new rfl 3 #[.int .i64 (-1)]) rfl (one_le_maxLen (by omega))).alloc _).alloc _
  · exact (OwnS.new_ (Blk.at_new (by simp) 3 #[.int .i64 x]) rfl (one_le_maxLen (by omega))).alloc _
  · intro k hk
    simp [Value.ownBlock] at hk ⊢
    omega
  · rintro k (rfl | hk | hk)
    · omega
    · simp [Value.ownBlock] at hk; omega
    · simp [Value.ownBlock] at hk; omega

/-- the last place with a time below one; -1: none -/
def lastP (l : List (Int × Int)) (below : Int) : Nat → Int
  | 0 => -1
  | k + 1 => match l[k]? with
    | some s => if s.1 < below then k else lastP l below k
    | none => lastP l below k
theorem lastP_lt (l : List (Int × Int)) (below : Int) : ∀ k, -1 ≤ lastP l below k ∧ lastP l below k < k
  | 0 => by simp [lastP]
  | k + 1 => by
    have := lastP_lt l below k
    unfold lastP
    split
    · split
      · omega
      · omega
    · omega

theorem rlast_any (g : Nat) (va vx : Value) (l : List (Int × Int)) (below : Int) (w : World) (h : SRef w g va vx l) :
    Calls Try.prog 33 #[.pointer (some ⟨g, 0, none⟩), .int .i64 below] w fun e w' => e = .returned (.int .i64 (lastP l below l.length)) ∧ w = w' := by
  have hb := h.blk.cell_ 0 rfl
  obtain ⟨A, cap, hv, hn, hm⟩ := h.oa.shape
  subst hv
  have HO := Lib.hid h.oa
  clear h
  have hm : cap ≤ 9223372036854775807 := by unfold maxLen at hm; omega
  go_enter Try.func33, Try.ntmps33
  go_wp2_with fail
  go_loop [5, 6] (fun o i => ∃ k : Nat, k ≤ l.length ∧ i = .int .i64 k ∧ o = .int .i64 (lastP l below k)) (fun _ i => l.length - (intOf i).toNat)
  case atStart => exact ⟨0, Nat.zero_le _, rfl, rfl⟩
  case round =>
    obtain ⟨k, hk, rfl, rfl⟩ := hrel
    by_cases hlt : k < l.length
    · obtain ⟨g', off, cap', hv, _, _, _, hc⟩ := HO.out.form (by omega)
      injection hv with e1 e2 e3
      subst e1 e3
      obtain ⟨s, hs⟩ : ∃ s, l[k]? = some s := ⟨_, List.getElem?_eq_getElem hlt⟩
      have hcell := hc k _ (ints_at l (·.1) k s hs)
      by_cases hb2 : s.1 < below
      · have hstep : lastP l below (k + 1) = k := by simp [lastP, hs, hb2]
        have HT := Lib.hid hstep
        clear hc hs hstep
        go_wp2_with fail
        go_round
        case rel => exact ⟨k + 1, by omega, by go_num, by rw [HT.out]⟩
        case measure => simp [intOf]; omega
      · have hstep : lastP l below (k + 1) = lastP l below k := by simp [lastP, hs, hb2]
        have HT := Lib.hid hstep
        have hd : decide (s.1 < below) = false := by simpa using hb2
        clear hc hs hstep
        go_wp2_with fail
        go_round
        case rel => exact ⟨k + 1, by omega, by go_num, by rw [HT.out]⟩
        case measure => simp [intOf]; omega
    · obtain rfl : k = l.length := by omega
      go_wp2_with fail
      go_ret
      exact ⟨rfl, rfl⟩

theorem rkeep_any (g : Nat) (va vx : Value) (l : List (Int × Int)) (lo hi : Int) (w : World) (h : SRef w g va vx l) (h0 : 0 ≤ lo) (h1 : lo < hi) (h2 : hi ≤ l.length) :
    Calls Try.prog 41 #[.pointer (some ⟨g, 0, none⟩), .int .i64 lo, .int .i64 hi] w fun e w' => e = .returned (.int .i64 (l.length - (hi - lo))) ∧ ∃ va' vx', SRef w' g va' vx' ((l.drop lo.toNat).take (hi.toNat - lo.toNat)) ∧ Keep (· = g) w w' ∧ RLater w g va vx va' vx' := by
  have hb := h.blk.cell
  have hf := h.blk.frozen
  have hg := h.blk.lt
  obtain ⟨a, rfl⟩ := Int.eq_ofNat_of_zero_le h0
  obtain ⟨b, rfl⟩ := Int.eq_ofNat_of_zero_le (show 0 ≤ hi by omega)
  obtain ⟨g1, off1, cap1, hv1, hlt1, hn1, hm1, _⟩ := h.oa.form (by omega)
  obtain ⟨g2, off2, cap2, hv2, hlt2, hn2, hm2, _⟩ := h.ox.form (by omega)
  subst hv1 hv2
  have ne1 := h.oa.ne_blk h.blk (by decide)
  have ne2 := h.ox.ne_blk h.blk (by decide)
  have hm1 : cap1 ≤ 9223372036854775807 := by unfold maxLen at hm1; omega
  have hm2 : cap2 ≤ 9223372036854775807 := by unfold maxLen at hm2; omega
  have HS := Lib.hid h
  have N1 := Lib.hid ne1
  have N2 := Lib.hid ne2
  clear h ne1 ne2
  go_enter Try.func41, Try.ntmps41
  go_wp2
  go_ret
  have la : (l.drop (a : Int).toNat).take ((b : Int).toNat - (a : Int).toNat) = (l.drop a).take (b - a) := by simp
  have ll : ((l.drop a).take (b - a)).length = b - a := by rw [List.length_take, List.length_drop]; omega
  refine ⟨?_, .slice (some ⟨g1, off1 + a, none⟩) (b - a) (cap1 - a), .slice (some ⟨g2, off2 + a, none⟩) (b - a) (cap2 - a), ?_, ?_, ?_⟩
  · show Ending.returned (.int .i64 _) = _
    congr 2
    omega
  · rw [la]
    have oa := (HS.out.oa.cut (lo := a) (hi := b) (off' := off1 + a) (by omega) (by omega) (.inl (by omega)))
    have ox := (HS.out.ox.cut (lo := a) (hi := b) (off' := off2 + a) (by omega) (by omega) (.inl (by omega)))
    refine ⟨(HS.out.blk.set_ 0 _).set_ 1 _, ?_, ?_, HS.out.ne⟩
    · rw [ll]
      have := (oa.far (p := ⟨g, 0, none⟩) N1.out (.slice (some ⟨g1, off1 + a, none⟩) (b - a) (cap1 - a))).far (p := ⟨g, 1, none⟩) N1.out (.slice (some ⟨g2, off2 + a, none⟩) (b - a) (cap2 - a))
      simpa [ints, List.map_take, List.map_drop] using this
    · rw [ll]
      have := (ox.far (p := ⟨g, 0, none⟩) N2.out (.slice (some ⟨g1, off1 + a, none⟩) (b - a) (cap1 - a))).far (p := ⟨g, 1, none⟩) N2.out (.slice (some ⟨g2, off2 + a, none⟩) (b - a) (cap2 - a))
      simpa [ints, List.map_take, List.map_drop] using this
  · exact ((Keep.refl (· = g) w).setCell (p := ⟨g, 0, none⟩) (fun _ => rfl) _).setCell (p := ⟨g, 1, none⟩) (fun _ => rfl) _
  · exact fun k hk => .inl hk

def lastN (l : List (Int × Int)) (below : Int) : Nat := (max 0 (lastP l below l.length)).toNat
theorem lastN_lt (l : List (Int × Int)) (below : Int) (h : 0 < l.length) : lastN l below < l.length := by
  have := lastP_lt l below l.length
  unfold lastN
  omega
theorem lastN_eq (l : List (Int × Int)) (below : Int) : max 0 (lastP l below l.length) = (lastN l below : Int) := by
  unfold lastN
  omega

theorem rcut_any (g : Nat) (va vx : Value) (l : List (Int × Int)) (from_ : Int) (w : World) (h : SRef w g va vx l) (h1 : 0 < l.length) (hl : l.length ≤ 100000) :
    Calls Try.prog 31 #[.pointer (some ⟨g, 0, none⟩), .int .i64 from_] w fun e w' => e = .returned (.int .i64 (l.length - (lastN l from_ + 1) : Nat)) ∧ ∃ va' vx', SRef w' g va' vx' (l.take (lastN l from_ + 1)) ∧ Keep (· = g) w w' ∧ RLater w g va vx va' vx' := by
  have HS := Lib.hid h
  clear h
  have hlt := lastN_lt l from_ h1
  have HE := Lib.hid (lastN_eq l from_)
  have hb := lastP_lt l from_ l.length
  go_enter Try.func31, Try.ntmps31
  go_wp2_with (go_at_call 33; refine (rlast_any g va vx l from_ _ HS.out).mono ?_; rintro e w1 ⟨rfl, rfl⟩)
  go_wp2_with fail
  rw [HE.out]
  refine (rkeep_any g va vx l 0 _ _ HS.out (by omega) (by omega) (by omega)).mono ?_
  rintro e w1 ⟨rfl, va', vx', hs1, hk1, hl1⟩
  have P1 := Lib.hid hs1
  have P2 := Lib.hid hk1
  have P3 := Lib.hid hl1
  clear hs1 hk1 hl1
  go_wp2
  go_ret
  have e1 : (l.drop (0 : Int).toNat).take (((lastN l from_ : Int) + 1).toNat - (0 : Int).toNat) = l.take (lastN l from_ + 1) := by
    rw [show ((lastN l from_ : Int) + 1).toNat = lastN l from_ + 1 by omega]; simp
  refine ⟨?_, va', vx', e1 ▸ P1.out, P2.out, P3.out⟩
  show Ending.returned (.int .i64 _) = _
  congr 2
  omega

theorem rfree_any (g : Nat) (va vx : Value) (l : List (Int × Int)) (below : Int) (w : World) (h : SRef w g va vx l) (h1 : 0 < l.length) (hl : l.length ≤ 100000) :
    Calls Try.prog 32 #[.pointer (some ⟨g, 0, none⟩), .int .i64 below] w fun e w' => e = .returned (.int .i64 (lastN l below)) ∧ ∃ va' vx', SRef w' g va' vx' (l.drop (lastN l below)) ∧ Keep (· = g) w w' ∧ RLater w g va vx va' vx' := by
  have hb0 := h.blk.cell
  have hg := h.blk.lt
  obtain ⟨A, cap, hv, hn, hm⟩ := h.oa.shape
  subst hv
  have hm : cap ≤ 9223372036854775807 := by unfold maxLen at hm; omega
  have HS := Lib.hid h
  clear h
  have hlt := lastN_lt l below h1
  have HE := Lib.hid (lastN_eq l below)
  have hb := lastP_lt l below l.length
  go_enter Try.func32, Try.ntmps32
  go_wp2_with fail
  go_still_tail 10, (by kernel_rfl)
  still_call ((rlast_any g (.slice A l.length cap) vx l below _ (HS.out.fresh ((Keep.refl _ w).drew))).mono fun _ _ h => ⟨h.1, h.2.symm⟩)
  repeat still_step
  refine wpStill_nil ?_
  change wpList _ _ _ _ _ w.drew
  go_wp2_with fail
  rw [HE.out]
  refine (rkeep_any g _ vx l _ _ _ (HS.out.fresh ((Keep.refl _ w).drew)) (by omega) (by omega) (by omega)).mono ?_
  rintro e w1 ⟨rfl, va', vx', hs1, hk1, hl1⟩
  have P1 := Lib.hid hs1
  have P2 := Lib.hid hk1
  have P3 := Lib.hid hl1
  clear hs1 hk1 hl1
  go_wp2
  go_ret
  have e1 : (l.drop ((lastN l below : Int)).toNat).take (((l.length : Int)).toNat - ((lastN l below : Int)).toNat) = l.drop (lastN l below) := by
    rw [Int.toNat_natCast, Int.toNat_natCast]
    exact List.take_of_length_le (by simp)
  refine ⟨?_, va', vx', e1 ▸ P1.out, (Keep.refl _ w).drew.step P2.out (fun _ _ h => h), P3.out⟩
  show Ending.returned (.int .i64 _) = _
  congr 2
  omega

theorem rsave_no (g : Nat) (va vx : Value) (l : List (Int × Int)) (at_ x : Int) (w : World) (h : SRef w g va vx l) (hno : (∃ s ∈ l, at_ ≤ s.1) ∨ 1073741824 < at_) :
    Calls Try.prog 30 #[.pointer (some ⟨g, 0, none⟩), .int .i64 at_, .int .i64 x] w fun e w' => e = .returned (.int .i64 18) ∧ w = w' := by
  have hb := h.blk.cell_ 0 rfl
  obtain ⟨A, cap, hv, hn, hm⟩ := h.oa.shape
  subst hv
  have HO := Lib.hid h.oa
  clear h
  have hm : cap ≤ 9223372036854775807 := by unfold maxLen at hm; omega
  have HN := Lib.hid hno
  clear hno
  go_enter Try.func30, Try.ntmps30
  go_wp2_with fail
  go_loop [7] (fun i => ∃ k : Nat, k ≤ l.length ∧ i = .int .i64 k ∧ ∀ j s, j < k → l[j]? = some s → s.1 < at_) (fun i => l.length - (intOf i).toNat)
  case atStart => exact ⟨0, Nat.zero_le _, rfl, fun j s h => absurd h (by omega)⟩
  case round =>
    obtain ⟨k, hk, rfl, hall⟩ := hrel
    have HA := Lib.hid hall
    clear hall
    by_cases hlt : k < l.length
    · obtain ⟨g', off, cap', hv, _, _, _, hc⟩ := HO.out.form (by omega)
      injection hv with e1 e2 e3
      subst e1 e3
      obtain ⟨s, hs⟩ : ∃ s, l[k]? = some s := ⟨_, List.getElem?_eq_getElem hlt⟩
      have hcell := hc k _ (ints_at l (·.1) k s hs)
      have HS := Lib.hid hs
      clear hc hs
      by_cases hb2 : at_ ≤ s.1
      · go_wp2_with fail
        go_ret
        exact ⟨rfl, rfl⟩
      · have hd : decide (at_ ≤ s.1) = false := by simpa using hb2
        go_wp2_with fail
        go_round
        case rel => exact ⟨k + 1, by omega, by go_num, fun j s' hj hs' => by
          by_cases hjk : j = k
          · subst hjk
            rw [HS.out] at hs'
            injection hs' with hs'
            subst hs'
            omega
          · exact HA.out j s' (by omega) hs'⟩
        case measure => simp [intOf]; omega
    · obtain rfl : k = l.length := by omega
      have h2 : 1073741824 < at_ := by
        rcases HN.out with ⟨s, hs, hle⟩ | h
        · obtain ⟨j, hj, rfl⟩ := List.mem_iff_getElem.1 hs
          have := HA.out j _ hj (List.getElem?_eq_getElem hj)
          omega
        · exact h
      go_wp2_with fail
      go_ret
      exact ⟨rfl, rfl⟩

set_option maxHeartbeats 1000000 in
theorem rsave_ok (g : Nat) (va vx : Value) (l : List (Int × Int)) (at_ x : Int) (w : World) (h : SRef w g va vx l) (hall : ∀ s ∈ l, s.1 < at_) (h2 : at_ ≤ 1073741824) (hl : l.length ≤ 100000) :
    Calls Try.prog 30 #[.pointer (some ⟨g, 0, none⟩), .int .i64 at_, .int .i64 x] w fun e w' => e = .returned (.int .i64 0) ∧ ∃ va' vx', SRef w' g va' vx' (l ++ [(at_, x)]) ∧ Keep (rfoot g va vx) w w' ∧ RLater w g va vx va' vx' := by
  have hb := h.blk.cell
  have hf := h.blk.frozen
  have hg := h.blk.lt
  obtain ⟨A, cap, hv, hn, hm⟩ := h.oa.shape
  obtain ⟨A2, cap2, hv2, hn2, hm2⟩ := h.ox.shape
  subst hv hv2
  have HS := Lib.hid h
  have HA := Lib.hid hall
  have N1 := Lib.hid (h.oa.ne_blk h.blk (by decide))
  have N2 := Lib.hid (h.ox.ne_blk h.blk (by decide))
  clear h hall
  have hm : cap ≤ 9223372036854775807 := by unfold maxLen at hm; omega
  obtain ⟨i0, hi, hz0, hz1, hz2⟩ := info_parts info_int
  have h01 : 0 < 1 := by omega
  have hL1 : l.length + 1 ≤ maxLen := one_le_maxLen (by omega)
  have hL2 : (l.length + 1) * 8 ≤ 140737488355328 := by omega
  go_enter Try.func30, Try.ntmps30
  go_wp2_with fail
  go_loop [7] (fun i => ∃ k : Nat, k ≤ l.length ∧ i = .int .i64 k) (fun i => l.length - (intOf i).toNat)
  case atStart => exact ⟨0, Nat.zero_le _, rfl⟩
  case round =>
    obtain ⟨k, hk, rfl⟩ := hrel
    by_cases hlt : k < l.length
    · obtain ⟨g', off, cap', hv, _, _, _, hc⟩ := HS.out.oa.form (by omega)
      injection hv with e1 e2 e3
      subst e1 e3
      obtain ⟨s, hs⟩ : ∃ s, l[k]? = some s := ⟨_, List.getElem?_eq_getElem hlt⟩
      have hcell := hc k _ (ints_at l (·.1) k s hs)
      have hd : decide (at_ ≤ s.1) = false := by
        have := HA.out s (List.mem_of_getElem? hs)
        simp
        omega
      clear hc hs
      go_wp2_with fail
      go_round
      case rel => exact ⟨k + 1, by omega, by go_num⟩
      case measure => simp [intOf]; omega
    · have hd : decide (k < l.length) = false := by simpa using hlt
      have HC : Hid (Src (w.alloc (.cells #[.int .i64 at_] 3)) 1 (.slice (some ⟨w.heap.size, 0, none⟩) 1 1) 1 (ints [at_])) := Src.one_new w 3 1 #[.int .i64 at_] rfl
      go_wp2_with (first | (at_builtin; refine wpList_append_OwnS _ rfl (.tmp 32) (.tmp 34) 33 rfl 3 i0 (.int .i64 0) 1 8 Try.underlying33 hi hz0 hz1 hz2 rfl h01 (.slice A l.length cap) l.length (ints (l.map (·.1))) rfl (HS.out.oa.alloc _) (.slice (some ⟨w.heap.size, 0, none⟩) 1 1) 1 (ints [at_]) rfl HC.out (ints_one _) hL1 hL2 ?_; intro v1 w1 o1 k1 n1; obtain ⟨A3, cap3, rfl, _, _⟩ := o1.shape; have b1 := (HS.out.blk.alloc (.cells #[.int .i64 at_] 3)).keep k1 N1.out; have x1 := (HS.out.ox.alloc (.cells #[.int .i64 at_] 3)).kept k1 (fun k e1 e2 => HS.out.ne k e2 e1); have c1 := b1.cell; have f1 := b1.frozen; have g1 := b1.lt; have U1 := Lib.hid b1; have U2 := Lib.hid x1; have U3 := Lib.hid o1; have U4 := Lib.hid k1; have U5 := Lib.hid n1; clear b1 x1 o1 k1 n1) | (at_builtin; refine wpList_append_OwnS _ rfl (.tmp 42) (.tmp 44) 33 rfl 3 i0 (.int .i64 0) 1 8 Try.underlying33 hi hz0 hz1 hz2 rfl h01 (.slice A2 l.length cap2) l.length (ints (l.map (·.2))) rfl ((U2.out.far (p := ⟨g, 0, none⟩) N2.out (.slice A3 (l.length + 1) cap3)).alloc _) (.slice (some ⟨w1.heap.size, 0, none⟩) 1 1) 1 (ints [x]) rfl ?hsrc (ints_one _) hL1 hL2 ?_; rotate_left; intro v2 w2 o2 k2 n2; obtain ⟨A4, cap4, rfl, _, _⟩ := o2.shape; have b2 := ((U1.out.set_ 0 (.slice A3 (l.length + 1) cap3)).alloc (.cells #[.int .i64 x] 3)).keep k2 N2.out; have c2 := b2.cell; have f2 := b2.frozen; have g2 := b2.lt; have V1 := Lib.hid b2; have V3 := Lib.hid o2; have V4 := Lib.hid k2; have V5 := Lib.hid n2; clear b2 o2 k2 n2))
      rotate_left
      case hsrc =>
        have := Src.one_new (w1.setCell ⟨g, 0, none⟩ (.slice A3 (l.length + 1) cap3)) 3 1 #[.int .i64 x] rfl
        simpa [ints] using this
      go_ret
      have d3 : ∀ k', (Value.slice A3 (l.length + 1) cap3).ownBlock = some k' → (Value.slice A2 l.length cap2).ownBlock ≠ some k' := by
        intro k' e1 e2
        rcases U5.out k' e1 with h | h
        · exact HS.out.ne k' h e2
        · have := HS.out.ox.lt e2
          simp at h
          omega
      have n3 := U3.out.ne_blk U1.out (by decide)
      have o3 := ((((U3.out.far (p := ⟨g, 0, none⟩) n3 (.slice A3 (l.length + 1) cap3)).alloc (.cells #[.int .i64 x] 3)).kept V4.out (fun k' e1 e2 => d3 k' e1 e2)))
      have sz1 := U4.out.size
      have sz2 := V4.out.size
      simp at sz1 sz2
      refine ⟨rfl, .slice A3 (l.length + 1) cap3, .slice A4 (l.length + 1) cap4, ⟨V1.out.set_ 1 _, ?_, ?_, ?_⟩, ?_, ?_⟩
      · have := o3.far (p := ⟨g, 1, none⟩) (o3.ne_blk V1.out (by decide)) (.slice A4 (l.length + 1) cap4)
        simpa [ints] using this
      · have := V3.out.far (p := ⟨g, 1, none⟩) (V3.out.ne_blk V1.out (by decide)) (.slice A4 (l.length + 1) cap4)
        simpa [ints] using this
      · intro k' e1 e2
        rcases V5.out k' e2 with h | h
        · exact d3 k' e1 h
        · have := U3.out.lt e1
          simp at h
          omega
      · refine Keep.setCell ?_ (fun _ => .inl rfl) _
        refine Keep.step ((Keep.setCell ?_ (fun _ => .inl rfl) _).alloc _) V4.out (fun k' _ h => .inr (.inr h))
        exact ((Keep.refl _ w).alloc _).step U4.out (fun k' _ h => .inr (.inl h))
      · rintro k' (rfl | h | h)
        · exact .inl (.inl rfl)
        · rcases U5.out k' h with h | h
          · exact .inl (.inr (.inl h))
          · simp at h; exact .inr (by omega)
        · rcases V5.out k' h with h | h
          · exact .inl (.inr (.inr h))
          · simp at h; exact .inr (by omega)
end Go.Proofs.Ytehiakdagmocjaa
