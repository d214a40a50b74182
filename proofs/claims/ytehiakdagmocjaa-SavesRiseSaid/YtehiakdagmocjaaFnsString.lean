/-
  saves.Row[string]: each method by a contract.
-/
import Derived.Test.YtehiakdagmocjaaRows
import Derived.Test.YtehiakdagmocjaaOwn
import Derived.Handy
import Derived.BigQuiet
import Derived.BigRegion
import Derived.Deep.QuietTactic
import Derived.Deep.RegionHeld3
import Derived.Deep.LoopGhost
import Derived.StillTailTactics
import Derived.LaidEqlPtr
import Derived.Lib.LazyBuf
namespace Go.Proofs.Ytehiakdagmocjaa.R_str
open Go.RowKit

/-- A row's saves, as they lie. -/
def cells (l : List (Int × ByteArray)) : List Value := l.flatMap fun s => [.int .i64 s.1, Value.string s.2]
theorem cells_length (l : List (Int × ByteArray)) : (cells l).length = l.length * 2 := by
  induction l with
  | nil => rfl
  | cons a l ih => simp only [cells, List.flatMap_cons, List.length_append, List.length_cons, List.length_nil] at ih ⊢; omega
theorem cells_append (l m : List (Int × ByteArray)) : cells (l ++ m) = cells l ++ cells m := by simp [cells]
theorem cells_at : ∀ (l : List (Int × ByteArray)) (k : Nat) (s : Int × ByteArray), l[k]? = some s → (cells l)[k * 2]? = some (.int .i64 s.1) ∧ (cells l)[k * 2 + 1]? = some (Value.string s.2)
  | [], _, _, h => by simp at h
  | a :: l, 0, s, h => by
    simp at h
    subst h
    exact ⟨rfl, rfl⟩
  | a :: l, k + 1, s, h => by
    have := cells_at l k s (by simpa using h)
    have e : cells (a :: l) = .int .i64 a.1 :: Value.string a.2 :: cells l := rfl
    rw [e, show (k + 1) * 2 = k * 2 + 2 by omega, show k * 2 + 2 + 1 = (k * 2 + 1) + 2 by omega]
    exact this
theorem cells_drop (l : List (Int × ByteArray)) (a : Nat) : (cells l).drop (a * 2) = cells (l.drop a) := by
  induction a generalizing l with
  | zero => simp
  | succ a ih =>
    cases l with
    | nil => simp [cells]
    | cons s l => rw [show (a + 1) * 2 = a * 2 + 2 by omega]; exact ih l
theorem cells_take (l : List (Int × ByteArray)) (a : Nat) : (cells l).take (a * 2) = cells (l.take a) := by
  induction a generalizing l with
  | zero => simp [cells]
  | succ a ih =>
    cases l with
    | nil => simp [cells]
    | cons s l =>
      have e : cells (s :: l) = .int .i64 s.1 :: Value.string s.2 :: cells l := rfl
      rw [e, show (a + 1) * 2 = a * 2 + 2 by omega, List.take_succ_cons, List.take_succ_cons, ih, List.take_succ_cons]
      rfl
theorem cells_one (l : List (Int × ByteArray)) : ∀ u ∈ cells l, u.oneCell' = true := by
  intro u hu
  simp only [cells, List.mem_flatMap] at hu
  obtain ⟨s, _, hs⟩ := hu
  simp at hs
  rcases hs with rfl | rfl <;> rfl

/-- A row with its slice: v. -/
structure SRow (w : World) (g : Nat) (v : Value) (l : List (Int × ByteArray)) : Prop where
  blk : Blk w g 74 #[v]
  own : OwnS w 69 2 v l.length (cells l)
/-- what may turn with it -/
def foot (g : Nat) (v : Value) (k : Nat) : Prop := k = g ∨ v.ownBlock = some k
/-- where the slice lies when a call is over -/
def Later (w : World) (v v' : Value) : Prop := ∀ k, v'.ownBlock = some k → v.ownBlock = some k ∨ w.heap.size ≤ k

theorem SRow.kept {w w' : World} {g : Nat} {v : Value} {l : List (Int × ByteArray)} {S : Nat → Prop} (h : SRow w g v l) (hk : Keep S w w') (hg : ¬ S g) (hv : ∀ k, v.ownBlock = some k → ¬ S k) : SRow w' g v l :=
  ⟨h.blk.keep hk hg, h.own.kept hk hv⟩
theorem SRow.fresh {w w' : World} {g : Nat} {v : Value} {l : List (Int × ByteArray)} (h : SRow w g v l) (hk : Fresh w w') : SRow w' g v l := h.kept hk (fun h => h) (fun _ _ h => h)
theorem SRow.lt {w : World} {g : Nat} {v : Value} {l : List (Int × ByteArray)} (h : SRow w g v l) : ∀ k, foot g v k → k < w.heap.size := by
  rintro k (rfl | hk)
  · exact h.blk.lt
  · exact h.own.lt hk

/-- how many are ahead of a time, from the first on -/
def upTo (l : List (Int × ByteArray)) (below : Int) : Nat := (l.takeWhile fun s => decide (s.1 < below)).length
theorem upTo_le (l : List (Int × ByteArray)) (below : Int) : upTo l below ≤ l.length := (List.takeWhile_prefix _).length_le
theorem upTo_eq : ∀ (l : List (Int × ByteArray)) (below : Int) (k : Nat), (∀ j s, j < k → l[j]? = some s → s.1 < below) → k ≤ l.length → (∀ s, l[k]? = some s → ¬ s.1 < below) → upTo l below = k
  | [], _, k, _, hk, _ => by simp at hk; subst hk; rfl
  | a :: l, b, 0, _, _, h => by
    have := h a rfl
    simp [upTo, List.takeWhile_cons, this]
  | a :: l, b, k + 1, h1, h2, h3 => by
    have ha := h1 0 a (by omega) rfl
    have := upTo_eq l b k (fun j s hj hs => h1 (j + 1) s (by omega) (by simpa using hs)) (by simpa using h2) (fun s hs => h3 s (by simpa using hs))
    simp only [upTo, List.takeWhile_cons, ha, decide_true, if_true, List.length_cons] at this ⊢
    omega

theorem upTo_any (g : Nat) (v : Value) (l : List (Int × ByteArray)) (below : Int) (w : World) (h : SRow w g v l) :
    Calls Try.prog 39 #[.pointer (some ⟨g, 0, none⟩), .int .i64 below] w fun e w' => e = .returned (.int .i64 (upTo l below)) ∧ w = w' := by
  have hb := h.blk.cell_ 0 rfl
  obtain ⟨A, cap, hv, hn, hm⟩ := h.own.shape
  subst hv
  have HO := Lib.hid h.own
  clear h
  have hm : cap ≤ 9223372036854775807 := by unfold maxLen at hm; omega
  go_enter Try.func39, Try.ntmps39
  go_wp2_with fail
  go_loop [5] (fun v => ∃ k : Nat, k ≤ l.length ∧ v = .int .i64 k ∧ ∀ j s, j < k → l[j]? = some s → s.1 < below) (fun v => l.length - (intOf v).toNat)
  case atStart => exact ⟨0, Nat.zero_le _, rfl, fun j s h => absurd h (by omega)⟩
  case round =>
    obtain ⟨k, hk, rfl, hlt⟩ := hrel
    have HL := Lib.hid hlt
    clear hlt
    by_cases hkl : k < l.length
    · obtain ⟨g', off, cap', hv, _, _, _, hc⟩ := HO.out.form (by omega)
      injection hv with e1 e2 e3
      subst e1 e3
      obtain ⟨s, hs⟩ : ∃ s, l[k]? = some s := ⟨_, List.getElem?_eq_getElem hkl⟩
      have hcell := hc _ _ (cells_at l k s hs).1
      have HS := Lib.hid hs
      clear hc hs
      by_cases hb2 : s.1 < below
      · go_wp2_with fail
        go_round
        case rel => exact ⟨k + 1, by omega, by go_num, fun j s' hj hs' => by
          by_cases hjk : j = k
          · subst hjk
            rw [HS.out] at hs'
            injection hs' with hs'
            subst hs'
            exact hb2
          · exact HL.out j s' (by omega) hs'⟩
        case measure => simp [intOf]; omega
      · have hfin : upTo l below = k := upTo_eq l below k HL.out hk (fun s' hs' => by rw [HS.out] at hs'; injection hs' with hs'; subst hs'; exact hb2)
        have HF := Lib.hid hfin
        clear hfin
        have hd : decide (s.1 < below) = false := by simpa using hb2
        go_wp2_with fail
        go_ret
        exact ⟨by rw [HF.out]; rfl, rfl⟩
    · have hfin : upTo l below = k := upTo_eq l below k HL.out hk (fun s' hs' => absurd (List.getElem?_eq_some_iff.1 hs').1 hkl)
      have HF := Lib.hid hfin
      clear hfin
      have hd : decide (k < l.length) = false := by simpa using hkl
      go_wp2_with fail
      go_ret
      exact ⟨by rw [HF.out]; rfl, rfl⟩

theorem save_nil (at_ : Int) (x : ByteArray) (w : World) : Calls Try.prog 25 #[.pointer none, .int .i64 at_, Value.string x] w fun e w' => e = .returned (.int .i64 2) ∧ w = w' := by
  go_enter Try.func25, Try.ntmps25
  go_wp2
  go_ret
  exact ⟨rfl, rfl⟩

theorem save_no (g : Nat) (v : Value) (l : List (Int × ByteArray)) (last : Int × ByteArray) (at_ : Int) (x : ByteArray) (w : World) (h : SRow w g v (l ++ [last])) (hno : at_ ≤ last.1 ∨ 1073741824 < at_) :
    Calls Try.prog 25 #[.pointer (some ⟨g, 0, none⟩), .int .i64 at_, Value.string x] w fun e w' => e = .returned (.int .i64 18) ∧ w = w' := by
  have hb := h.blk.cell_ 0 rfl
  obtain ⟨g', off, cap, hv, hlt, hn, hm, hc⟩ := h.own.form (by simp)
  subst hv
  have hm : cap ≤ 9223372036854775807 := by unfold maxLen at hm; omega
  have hcell := hc _ _ (cells_at (l ++ [last]) l.length last (by simp)).1
  rw [List.length_append, List.length_singleton] at *
  clear hc h
  have hp : (0 : Int) < (l.length : Int) + 1 := by omega
  by_cases h1 : at_ ≤ last.1
  · clear hno
    go_enter Try.func25, Try.ntmps25
    go_wp2
    go_ret
    exact ⟨rfl, rfl⟩
  · have h2 : 1073741824 < at_ := by omega
    have h1' : decide (at_ ≤ last.1) = false := by simpa using h1
    clear hno
    go_enter Try.func25, Try.ntmps25
    go_wp2
    go_ret
    exact ⟨rfl, rfl⟩

theorem info_save : (Try.prog.info? 69).map (fun i => (i.zero, i.size, i.bytes)) = some (some (.agg #[.int .i64 0, .string ByteArray.empty]), 2, 24) := by kernel_rfl

theorem save_ok (g : Nat) (v : Value) (l : List (Int × ByteArray)) (last : Int × ByteArray) (at_ : Int) (x : ByteArray) (w : World) (h : SRow w g v (l ++ [last])) (h1 : last.1 < at_) (h2 : at_ ≤ 1073741824) (hl : l.length ≤ 100000) :
    Calls Try.prog 25 #[.pointer (some ⟨g, 0, none⟩), .int .i64 at_, Value.string x] w fun e w' => e = .returned (.int .i64 0) ∧ ∃ v', SRow w' g v' (l ++ [last] ++ [(at_, x)]) ∧ Keep (foot g v) w w' ∧ Later w v v' := by
  have hb := h.blk.cell_ 0 rfl
  have hf := h.blk.frozen 0
  have hg := h.blk.lt
  obtain ⟨g', off, cap, hv, hlt, hn, hm, hc⟩ := h.own.form (by simp)
  subst hv
  have HS := Lib.hid h
  have hm : cap ≤ 9223372036854775807 := by unfold maxLen at hm; omega
  have hcell := hc _ _ (cells_at (l ++ [last]) l.length last (by simp)).1
  rw [List.length_append, List.length_singleton] at hb hn
  clear hc h
  have hp : (0 : Int) < (l.length : Int) + 1 := by omega
  have h1' : decide (at_ ≤ last.1) = false := by simp; omega
  have hown : OwnS w 69 2 (.slice (some ⟨g', off, none⟩) (l.length + 1) cap) (l.length + 1) (cells (l ++ [last])) := by simpa using HS.out.own
  have hblk : Blk w g 74 #[.slice (some ⟨g', off, none⟩) (l.length + 1) cap] := by simpa using HS.out.blk
  have hne := hown.ne_blk hblk (by decide)
  have HO := Lib.hid hown
  have HB := Lib.hid hblk
  have HN := Lib.hid hne
  clear hown hblk hne HS
  obtain ⟨i0, hi, hz0, hz1, hz2⟩ := info_parts info_save
  have HC : Hid (Src (w.alloc (.cells #[.int .i64 at_, Value.string x] 69)) 2 (.slice (some ⟨w.heap.size, 0, none⟩) 1 1) 1 (cells [(at_, x)])) := Src.one_new w 69 2 #[.int .i64 at_, Value.string x] rfl
  have h02 : 0 < 2 := by omega
  have hL1 : l.length + 1 + 1 ≤ maxLen := one_le_maxLen (by omega)
  have hL2 : (l.length + 1 + 1) * 24 ≤ 140737488355328 := by omega
  go_enter Try.func25, Try.ntmps25
  go_wp2_with (at_builtin; refine wpList_append_OwnS _ rfl _ _ 70 rfl 69 i0 (.agg #[.int .i64 0, .string ByteArray.empty]) 2 24 Try.underlying70 hi hz0 hz1 hz2 rfl h02 (.slice (some ⟨g', off, none⟩) (l.length + 1) cap) (l.length + 1) (cells (l ++ [last])) rfl (HO.out.alloc _) (.slice (some ⟨w.heap.size, 0, none⟩) 1 1) 1 (cells [(at_, x)]) rfl HC.out (cells_one _) hL1 hL2 ?_; intro v' w1 ho1 hk1 hat1; obtain ⟨A', cap', rfl, _, _⟩ := ho1.shape; have hb1 := (HB.out.alloc _).keep hk1 HN.out; have hat2 : Later w (.slice (some ⟨g', off, none⟩) (l.length + 1) cap) (.slice A' (l.length + 1 + 1) cap') := fun k hk => (hat1 k hk).imp id (fun h => by simp at h; omega); have hk2 : Keep (foot g (.slice (some ⟨g', off, none⟩) (l.length + 1) cap)) w w1 := Keep.step ((Keep.refl _ w).alloc _) hk1 (fun k _ hk => .inr hk); have hne1 := ho1.ne_blk hb1 (by decide); have hc1 := hb1.cell; have hf1 := hb1.frozen; have hg1 := hb1.lt; have P1 := Lib.hid hb1; have P2 := Lib.hid ho1; have P3 := Lib.hid hk2; have P4 := Lib.hid hat2; have P5 := Lib.hid hne1; clear hb1 ho1 hk1 hk2 hat1 hat2 hne1 HO HB HN)
  go_ret
  refine ⟨rfl, .slice A' (l.length + 1 + 1) cap', ⟨?_, ?_⟩, P3.out.setCell (fun _ => .inl rfl) _, ?_⟩
  · exact P1.out.set_ 0 _
  · have := P2.out.far P5.out (p := ⟨g, 0, none⟩) (.slice A' (l.length + 1 + 1) cap')
    rw [cells_append, List.length_append, List.length_append]
    exact this
  · exact P4.out


theorem new_any (x : ByteArray) (w : World) : Calls Try.prog 24 #[Value.string x] w fun e w' => ∃ g v, e = .returned (.pointer (some ⟨g, 0, none⟩)) ∧ SRow w' g v [(-1, x)] ∧ Fresh w w' ∧ w.heap.size ≤ g ∧ ∀ k, v.ownBlock = some k → w.heap.size ≤ k := by
  go_enter Try.func24, Try.ntmps24
  go_wp2
  go_ret
  refine ⟨w.heap.size + 1, .slice (some ⟨w.heap.size, 0, none⟩) 1 1, rfl, ⟨Blk.at_new (by simp) _ _, ?_⟩, ((Keep.refl _ w).alloc _).alloc _, by omega, fun k hk => ?_⟩
  · exact (OwnS.new_ (Blk.at_new rfl 69 #[.int .i64 (-1), Value.string x]) rfl (one_le_maxLen (by omega))).alloc _
  · simp [Value.ownBlock] at hk
    omega

theorem isNil (w : World) (a : Option Addr) (n c : Nat) : (binOp .eql 70 (.slice a n c) (.slice none 0 0)).run Try.prog w = .ok (.bool a.isNone) w := Lib.run_eql_slice_nil w _ _ a n c 0 0 Try.underlying70
attribute [local go_sem] isNil
theorem clone_any (g' off n cap : Nat) (xs : List Value) (w : World) (h : OwnS w 69 2 (.slice (some ⟨g', off, none⟩) n cap) n xs) (h1 : ∀ u ∈ xs, u.oneCell' = true) (hn : n ≤ 1000000) :
    Calls Try.prog 38 #[.slice (some ⟨g', off, none⟩) n cap] w fun e w' => ∃ v, e = .returned v ∧ OwnS w' 69 2 v n xs ∧ Fresh w w' ∧ ∀ k, v.ownBlock = some k → w.heap.size ≤ k := by
  have HO := Lib.hid h
  have H1 := Lib.hid h1
  clear h h1
  obtain ⟨i0, hi, hz0, hz1, hz2⟩ := info_parts info_save
  have h02 : 0 < 2 := by omega
  have hL1 : 0 + n ≤ maxLen := one_le_maxLen (by omega)
  have hL2 : (0 + n) * 24 ≤ 140737488355328 := by omega
  have HN : Hid (OwnS (w.alloc (.cells #[] 69)) 69 2 (.slice (some ⟨w.heap.size, 0, none⟩) 0 0) 0 []) := OwnS.new_ (Blk.at_new rfl _ #[]) rfl (Nat.zero_le _)
  go_enter Try.func38, Try.ntmps38
  go_wp2_with (at_builtin; refine wpList_append_OwnS _ rfl _ _ 70 rfl 69 i0 (.agg #[.int .i64 0, .string ByteArray.empty]) 2 24 Try.underlying70 hi hz0 hz1 hz2 rfl h02 (.slice (some ⟨w.heap.size, 0, none⟩) 0 0) 0 [] rfl HN.out (.slice (some ⟨g', off, none⟩) n cap) n xs rfl (HO.out.alloc _).src H1.out hL1 hL2 ?_; intro v' w1 ho1 hk1 hat1)
  go_ret
  refine ⟨v', rfl, by simpa using ho1, Keep.step ((Keep.refl _ w).alloc _) hk1 (fun k hk hk' => by simp [Value.ownBlock] at hk'; omega), fun k hk => ?_⟩
  have := hat1 k hk
  simp [Value.ownBlock] at this
  omega

theorem keep_any (g : Nat) (v : Value) (l : List (Int × ByteArray)) (lo hi : Int) (w : World) (h : SRow w g v l) (h0 : 0 ≤ lo) (h1 : lo < hi) (h2 : hi ≤ l.length) (hl : l.length ≤ 100000) :
    Calls Try.prog 40 #[.pointer (some ⟨g, 0, none⟩), .int .i64 lo, .int .i64 hi] w fun e w' => e = .returned (.tuple #[]) ∧ ∃ v', SRow w' g v' ((l.drop lo.toNat).take (hi.toNat - lo.toNat)) ∧ Keep (foot g v) w w' ∧ Later w v v' := by
  have hb := h.blk.cell_ 0 rfl
  have hf := h.blk.frozen 0
  have hg := h.blk.lt
  obtain ⟨g', off, cap, hv, hlt, hn, hm, _⟩ := h.own.form (by omega)
  subst hv
  have hm : cap ≤ 9223372036854775807 := by unfold maxLen at hm; omega
  have HO := Lib.hid h.own
  have HB := Lib.hid h.blk
  clear h
  obtain ⟨a, rfl⟩ := Int.eq_ofNat_of_zero_le h0
  obtain ⟨b, rfl⟩ := Int.eq_ofNat_of_zero_le (show 0 ≤ hi by omega)
  go_enter Try.func40, Try.ntmps40
  go_wp2_with fail
  have hcut := HO.out.cut (lo := a) (hi := b) (off' := off + a * 2) (by omega) (by omega) (.inl rfl)
  refine (clone_any g' _ _ _ _ w hcut (fun u hu => cells_one _ u (List.mem_of_mem_drop (List.mem_of_mem_take hu))) (by omega)).mono ?_
  rintro e w1 ⟨v1, rfl, ho1, hk1, hn1⟩
  rw [cells_drop, cells_take] at ho1
  have hb1 := hk1.blk_ HB.out
  have hne := ho1.ne_blk hb1 (by decide)
  obtain ⟨A', cap', rfl, _, _⟩ := ho1.shape
  have hc1 := hb1.cell
  have hf1 := hb1.frozen
  have hg1 := hb1.lt
  have P1 := Lib.hid hb1
  have P2 := Lib.hid ho1
  have P3 := Lib.hid hk1
  have P4 := Lib.hid hn1
  have P5 := Lib.hid hne
  clear hb1 ho1 hk1 hn1 hne HB HO hcut hb hf
  go_wp2
  go_returns
  refine ⟨rfl, .slice A' (b - a) cap', ⟨P1.out.set_ 0 _, ?_⟩, (P3.out.more (fun _ _ h => h.elim)).setCell (fun _ => .inl rfl) _, fun k hk => .inr (P4.out k hk)⟩
  have := P2.out.far P5.out (p := ⟨g, 0, none⟩) (.slice A' (b - a) cap')
  rw [Int.toNat_natCast, Int.toNat_natCast, List.length_take, List.length_drop, show min (b - a) (l.length - a) = b - a by omega]
  exact this

theorem cut_nil (below : Int) (w : World) : Calls Try.prog 29 #[.pointer none, .int .i64 below] w fun e w' => e = .returned (.int .i64 0) ∧ w = w' := by
  go_enter Try.func29, Try.ntmps29
  go_wp2
  go_ret
  exact ⟨rfl, rfl⟩
theorem free_nil (below : Int) (w : World) : Calls Try.prog 28 #[.pointer none, .int .i64 below] w fun e w' => e = .returned (.int .i64 0) ∧ w = w' := by
  go_enter Try.func28, Try.ntmps28
  go_wp2
  go_ret
  exact ⟨rfl, rfl⟩

theorem run_max (P : Program) (w : World) (ts : Array TypeId) (t : TypeId) (k : IntKind) (x y : Int) : (Builtin.max_ ts t #[.int k x, .int k y]).run P w = .ok (.int k (max x y)) w := by
  simp [Builtin.max_, Builtin.max2]
  split <;> omega
theorem run_min (P : Program) (w : World) (ts : Array TypeId) (t : TypeId) (k : IntKind) (x y : Int) : (Builtin.min_ ts t #[.int k x, .int k y]).run P w = .ok (.int k (min x y)) w := by
  simp [Builtin.min_, Builtin.min2]
  split <;> omega
attribute [local go_sem ↓] run_max run_min

theorem SRow.drew {w : World} {g : Nat} {v : Value} {l : List (Int × ByteArray)} (h : SRow w g v l) : SRow w.drew g v l := ⟨h.blk, h.own⟩
theorem SRow.drewN {w : World} {g : Nat} {v : Value} {l : List (Int × ByteArray)} (h : SRow w g v l) (n : Nat) : SRow (w.drewN n) g v l := ⟨h.blk, h.own⟩

theorem cut_any (g : Nat) (v : Value) (l : List (Int × ByteArray)) (from_ : Int) (w : World) (h : SRow w g v l) (h1 : 0 < l.length) (hl : l.length ≤ 100000) :
    Calls Try.prog 29 #[.pointer (some ⟨g, 0, none⟩), .int .i64 from_] w fun e w' => e = .returned (.int .i64 (l.length - max (upTo l from_) 1 : Nat)) ∧ ∃ v', SRow w' g v' (l.take (max (upTo l from_) 1)) ∧ Keep (foot g v) w w' ∧ Later w v v' := by
  have hb := h.blk.cell_ 0 rfl
  have hg := h.blk.lt
  have ha := upTo_le l from_
  obtain ⟨A, cap, hv, hn, hm⟩ := h.own.shape
  subst hv
  have HS := Lib.hid h
  clear h
  go_enter Try.func29, Try.ntmps29
  go_wp2_with fail
  go_still_tail 11, (by kernel_rfl)
  still_call ((upTo_any g (.slice A l.length cap) l from_ _ HS.out.drew).mono fun _ _ h => ⟨h.1, h.2.symm⟩)
  repeat still_step
  refine wpStill_nil ?_
  change wpList _ _ _ _ _ w.drew
  have hmm : min (max ((upTo l from_ : Nat) : Int) 1) (l.length : Int) = (max (upTo l from_) 1 : Nat) := by omega
  have HM := Lib.hid hmm
  clear hmm
  go_wp2_with fail
  rw [HM.out]
  refine (keep_any g _ l 0 _ _ HS.out.drew (by omega) (by omega) (by omega) hl).mono ?_
  rintro e w1 ⟨rfl, v', hs1, hk1, hl1⟩
  have e1 : (l.drop (0 : Int).toNat).take (((max (upTo l from_) 1 : Nat) : Int).toNat - (0 : Int).toNat) = l.take (max (upTo l from_) 1) := by simp
  rw [e1] at hs1
  have hb1 := hs1.blk.cell
  obtain ⟨A', cap', rfl, _, _⟩ := hs1.own.shape
  have hlen : (l.take (max (upTo l from_) 1)).length = max (upTo l from_) 1 := by rw [List.length_take]; omega
  have P1 := Lib.hid hs1
  have P2 := Lib.hid hk1
  have P3 := Lib.hid hl1
  have HL := Lib.hid hlen
  clear hs1 hk1 hl1 hlen e1 HM
  have hx : (0 : Int) ≤ ((l.take (max (upTo l from_) 1)).length : Int) := by omega
  have hx2 : ((l.take (max (upTo l from_) 1)).length : Int) ≤ l.length := by rw [HL.out]; omega
  go_wp2
  go_ret
  refine ⟨?_, _, P1.out, (Keep.refl _ w).drew.step P2.out (fun _ _ h => h), P3.out⟩
  show Ending.returned (.int .i64 _) = _
  congr 2
  omega

theorem free_few (g : Nat) (v : Value) (l : List (Int × ByteArray)) (below : Int) (w : World) (h : SRow w g v l) (h1 : upTo l below < 2) :
    Calls Try.prog 28 #[.pointer (some ⟨g, 0, none⟩), .int .i64 below] w fun e w' => e = .returned (.int .i64 0) ∧ w = w' := by
  go_enter Try.func28, Try.ntmps28
  go_wp2_with (go_at_call 39; refine (upTo_any g v l below _ h).mono ?_; rintro e w1 ⟨rfl, rfl⟩)
  go_ret
  exact ⟨rfl, rfl⟩

theorem free_any (g : Nat) (v : Value) (l : List (Int × ByteArray)) (below : Int) (w : World) (h : SRow w g v l) (h1 : 2 ≤ upTo l below) (hl : l.length ≤ 100000) :
    Calls Try.prog 28 #[.pointer (some ⟨g, 0, none⟩), .int .i64 below] w fun e w' => e = .returned (.int .i64 (upTo l below - 1 : Nat)) ∧ ∃ v', SRow w' g v' (l.drop (upTo l below - 1)) ∧ Keep (foot g v) w w' ∧ Later w v v' := by
  have hb := h.blk.cell_ 0 rfl
  have hg := h.blk.lt
  have ha := upTo_le l below
  obtain ⟨A, cap, hv, hn, hm⟩ := h.own.shape
  subst hv
  have HS := Lib.hid h
  clear h
  have g1 : decide ((upTo l below : Int) < 2) = false := by simp; omega
  go_enter Try.func28, Try.ntmps28
  go_wp2_with (go_at_call 39; refine (upTo_any g (.slice A l.length cap) l below _ HS.out).mono ?_; rintro e w1 ⟨rfl, rfl⟩)
  go_still_tail 11, (by kernel_rfl)
  change wpList _ _ _ _ _ w.drew
  go_wp2_with fail
  refine (keep_any g _ l _ _ _ HS.out.drew (by omega) (by omega) (by omega) hl).mono ?_
  rintro e w1 ⟨rfl, v', hs1, hk1, hl1⟩
  have P1 := Lib.hid hs1
  have P2 := Lib.hid hk1
  have P3 := Lib.hid hl1
  clear hs1 hk1 hl1
  go_wp2
  go_ret
  have e1 : (l.drop ((upTo l below : Int) - 1).toNat).take ((l.length : Int).toNat - ((upTo l below : Int) - 1).toNat) = l.drop (upTo l below - 1) := by
    rw [show ((upTo l below : Int) - 1).toNat = upTo l below - 1 by omega, Int.toNat_natCast]
    exact List.take_of_length_le (by simp)
  refine ⟨?_, v', e1 ▸ P1.out, (Keep.refl _ w).drew.step P2.out (fun _ _ h => h), P3.out⟩
  show Ending.returned (.int .i64 _) = _
  congr 2
  omega

theorem copy_nil (w : World) : Calls Try.prog 26 #[.pointer none] w fun e w' => e = .returned (.pointer none) ∧ w = w' := by
  go_enter Try.func26, Try.ntmps26
  go_wp2
  go_ret
  exact ⟨rfl, rfl⟩
theorem copy_any (g : Nat) (v : Value) (l : List (Int × ByteArray)) (w : World) (h : SRow w g v l) (h1 : 0 < l.length) (hl : l.length ≤ 100000) :
    Calls Try.prog 26 #[.pointer (some ⟨g, 0, none⟩)] w fun e w' => ∃ g' v', e = .returned (.pointer (some ⟨g', 0, none⟩)) ∧ SRow w' g' v' l ∧ Fresh w w' ∧ w.heap.size ≤ g' ∧ ∀ k, v'.ownBlock = some k → w.heap.size ≤ k := by
  have hb := h.blk.cell_ 0 rfl
  have hg := h.blk.lt
  obtain ⟨g', off, cap, hv, hlt, hn, hm, _⟩ := h.own.form h1
  subst hv
  have HO := Lib.hid h.own
  clear h
  go_enter Try.func26, Try.ntmps26
  go_wp2_with fail
  refine (clone_any g' off l.length cap (cells l) w HO.out (cells_one l) (by omega)).mono ?_
  rintro e w1 ⟨v1, rfl, ho1, hk1, hn1⟩
  obtain ⟨A', cap', rfl, _, _⟩ := ho1.shape
  have P1 := Lib.hid ho1
  have P2 := Lib.hid hk1
  have P3 := Lib.hid hn1
  clear ho1 hk1 hn1
  go_wp2
  go_ret
  exact ⟨w1.heap.size, .slice A' l.length cap', rfl, ⟨Blk.at_new rfl _ _, P1.out.alloc _⟩, P2.out.alloc _, P2.out.size, P3.out⟩

theorem last_nil (below : Int) (w : World) : Calls Try.prog 27 #[.pointer none, .int .i64 below] w fun e w' => e = .returned (.tuple #[.int .i64 0, .string ByteArray.empty, .int .i64 2]) ∧ w = w' := by
  go_enter Try.func27, Try.ntmps27
  go_wp2
  go_ret3
  exact ⟨rfl, rfl⟩
theorem last_none (g : Nat) (v : Value) (l : List (Int × ByteArray)) (below : Int) (w : World) (h : SRow w g v l) (h1 : upTo l below = 0) :
    Calls Try.prog 27 #[.pointer (some ⟨g, 0, none⟩), .int .i64 below] w fun e w' => e = .returned (.tuple #[.int .i64 0, .string ByteArray.empty, .int .i64 14]) ∧ w = w' := by
  have ha := upTo_any g v l below w h
  rw [h1] at ha
  have HA := Lib.hid ha
  clear ha h1 h
  go_enter Try.func27, Try.ntmps27
  go_wp2_with (go_at_call 39; refine (HA.out).mono ?_; rintro e w1 ⟨rfl, rfl⟩)
  go_ret3
  exact ⟨rfl, rfl⟩
theorem last_some (g : Nat) (v : Value) (l : List (Int × ByteArray)) (below : Int) (s : Int × ByteArray) (w : World) (h : SRow w g v l) (h1 : 0 < upTo l below) (hs : l[upTo l below - 1]? = some s) :
    Calls Try.prog 27 #[.pointer (some ⟨g, 0, none⟩), .int .i64 below] w fun e w' => e = .returned (.tuple #[.int .i64 s.1, Value.string s.2, .int .i64 0]) ∧ Fresh w w' := by
  have hb := h.blk.cell_ 0 rfl
  have ha := upTo_le l below
  have hg := h.blk.lt
  obtain ⟨g', off, cap, hv, hlt, hn, hm, hc⟩ := h.own.form (by omega)
  subst hv
  have hm : cap ≤ 9223372036854775807 := by unfold maxLen at hm; omega
  obtain ⟨c1, c2⟩ := cells_at l _ s hs
  have c1 := hc _ _ c1
  have c2 := hc _ _ c2
  have HS := Lib.hid h
  clear h hc hs
  rw [← Nat.add_assoc] at c2
  have g1 : ((upTo l below : Int) == 0) = false := by simp; omega
  go_enter Try.func27, Try.ntmps27
  go_wp2_with (go_at_call 39; refine (upTo_any g _ l below _ HS.out).mono ?_; rintro e w1 ⟨rfl, rfl⟩)
  go_quiet (fail)
  go_wp2
  go_ret3
  exact ⟨rfl, ((Keep.refl _ _).alloc _).drewN _⟩
end Go.Proofs.Ytehiakdagmocjaa.R_str
