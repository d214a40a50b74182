/-
  slab.Slab[int]: each method by a contract.
-/
import Derived.Test.YtdobhicjhgdhnaaRows
import Derived.Test.YtdobhicjhgdhnaaOwnMore
import Derived.Handy
import Derived.BigQuiet
import Derived.BigRegion
import Derived.Deep.QuietTactic
import Derived.Deep.RegionHeld3
import Derived.Deep.LoopGhost
import Derived.StillTailTactics
import Derived.LaidEqlPtr
import Derived.Lib.LazyBuf
import Derived.Laws.MakeOwn
namespace Go.Proofs.Ytdobhicjhgdhnaa
open Go.RowKit

/-- A slot: class, turn, thing. -/
structure Sl where
  c : Int
  t : Int
  v : Int
  deriving DecidableEq
def Sl.enc (s : Sl) : List Value := [.int .i64 s.c, .int .i64 s.t, .int .i64 s.v]
def slots (l : List Sl) : List Value := l.flatMap Sl.enc
theorem slots_length (l : List Sl) : (slots l).length = l.length * 3 := by
  induction l with
  | nil => rfl
  | cons a l ih => simp only [slots, List.flatMap_cons, List.length_append, List.length_cons] at ih ⊢; simp only [Sl.enc, List.length_cons, List.length_nil]; omega
theorem slots_one (l : List Sl) : ∀ u ∈ slots l, u.oneCell' = true := by
  intro u hu
  simp only [slots, List.mem_flatMap] at hu
  obtain ⟨s, _, hs⟩ := hu
  simp [Sl.enc] at hs
  rcases hs with rfl | rfl | rfl <;> rfl
theorem slots_at : ∀ (l : List Sl) (k : Nat) (s : Sl), l[k]? = some s → (slots l)[k * 3]? = some (.int .i64 s.c) ∧ (slots l)[k * 3 + 1]? = some (.int .i64 s.t) ∧ (slots l)[k * 3 + 2]? = some (.int .i64 s.v)
  | [], _, _, h => by simp at h
  | a :: l, 0, s, h => by
    simp at h
    subst h
    exact ⟨rfl, rfl, rfl⟩
  | a :: l, k + 1, s, h => by
    have := slots_at l k s (by simpa using h)
    have e : slots (a :: l) = .int .i64 a.c :: .int .i64 a.t :: .int .i64 a.v :: slots l := rfl
    rw [e, show (k + 1) * 3 = k * 3 + 3 by omega, show k * 3 + 3 + 1 = (k * 3 + 1) + 3 by omega, show k * 3 + 3 + 2 = (k * 3 + 2) + 3 by omega]
    exact this
theorem slots_set : ∀ (l : List Sl) (k : Nat) (s : Sl), k < l.length → slots (l.set k s) = (((slots l).set (k * 3) (.int .i64 s.c)).set (k * 3 + 1) (.int .i64 s.t)).set (k * 3 + 2) (.int .i64 s.v)
  | [], _, _, h => by simp at h
  | a :: l, 0, s, _ => rfl
  | a :: l, k + 1, s, h => by
    have ih := slots_set l k s (by simpa using h)
    have e : ∀ a l, slots (a :: l) = .int .i64 a.c :: .int .i64 a.t :: .int .i64 a.v :: slots l := fun _ _ => rfl
    rw [List.set_cons_succ, e, e, ih, show (k + 1) * 3 = k * 3 + 3 by omega, show k * 3 + 3 + 1 = (k * 3 + 1) + 3 by omega, show k * 3 + 3 + 2 = (k * 3 + 2) + 3 by omega]
    rfl
def ints (l : List Int) : List Value := l.map fun x => .int .i64 x
theorem ints_one (l : List Int) : ∀ u ∈ ints l, u.oneCell' = true := by
  intro u hu
  simp only [ints, List.mem_map] at hu
  obtain ⟨x, _, rfl⟩ := hu
  rfl
theorem info_int : (Try.prog.info? 3).map (fun i => (i.zero, i.size, i.bytes)) = some (some (.int .i64 0), 1, 8) := by kernel_rfl
theorem info_slot : (Try.prog.info? 73).map (fun i => (i.zero, i.size, i.bytes)) = some (some (.agg #[.int .i64 0, .int .i64 0, .int .i64 0]), 3, 24) := by kernel_rfl

/-- what a slab holds -/
structure St where
  l : List Sl
  fr : List Int
  fresh : Nat
  res : Int
structure SSlab (w : World) (g : Nat) (vs vf : Value) (s : St) : Prop where
  blk : Blk w g 68 #[vs, vf, .int .i64 s.fresh, .int .i64 s.res]
  os : OwnS w 73 3 vs s.l.length (slots s.l)
  of : OwnS w 3 1 vf s.fr.length (ints s.fr)
def foot (g : Nat) (vs vf : Value) (k : Nat) : Prop := k = g ∨ vs.ownBlock = some k ∨ vf.ownBlock = some k
def Later (w : World) (g : Nat) (vs vf vs' vf' : Value) : Prop := ∀ k, foot g vs' vf' k → foot g vs vf k ∨ w.heap.size ≤ k
theorem SSlab.kept {w w' : World} {g : Nat} {vs vf : Value} {s : St} {S : Nat → Prop} (h : SSlab w g vs vf s) (hk : Keep S w w') (hn : ∀ k, foot g vs vf k → ¬ S k) : SSlab w' g vs vf s :=
  ⟨h.blk.keep hk (hn g (.inl rfl)), h.os.kept hk (fun k e => hn k (.inr (.inl e))), h.of.kept hk (fun k e => hn k (.inr (.inr e)))⟩
theorem SSlab.fresh {w w' : World} {g : Nat} {vs vf : Value} {s : St} (h : SSlab w g vs vf s) (hk : Fresh w w') : SSlab w' g vs vf s := h.kept hk (fun _ _ h => h)
theorem SSlab.lt {w : World} {g : Nat} {vs vf : Value} {s : St} (h : SSlab w g vs vf s) : ∀ k, foot g vs vf k → k < w.heap.size := by
  rintro k (rfl | hk | hk)
  · exact h.blk.lt
  · exact h.os.lt hk
  · exact h.of.lt hk

theorem made_slots (n : Nat) : (madeCells #[.int .i64 0, .int .i64 0, .int .i64 0] (n * 3)).toList = slots (List.replicate n ⟨0, 0, 0⟩) := by
  apply List.ext_getElem?
  intro i
  by_cases hi : i < n * 3
  · have h1 : (madeCells #[.int .i64 0, .int .i64 0, .int .i64 0] (n * 3)).toList[i]? = some (.int .i64 0) := by
      simp only [madeCells, Array.toList_map, List.getElem?_map]
      rw [show (Array.range (n * 3)).toList = List.range (n * 3) by simp, List.getElem?_range hi]
      have : i % 3 = 0 ∨ i % 3 = 1 ∨ i % 3 = 2 := by omega
      rcases this with h | h | h <;> simp [h]
    rw [h1]
    have hk : (List.replicate n (⟨0, 0, 0⟩ : Sl))[i / 3]? = some ⟨0, 0, 0⟩ := by rw [List.getElem?_replicate]; simp; omega
    have h2 := slots_at _ _ _ hk
    have : i = i / 3 * 3 ∨ i = i / 3 * 3 + 1 ∨ i = i / 3 * 3 + 2 := by omega
    rcases this with h | h | h
    · rw [h]; exact h2.1.symm
    · rw [h]; exact h2.2.1.symm
    · rw [h]; exact h2.2.2.symm
  · rw [List.getElem?_eq_none (by simp [madeCells]; omega), List.getElem?_eq_none (by rw [slots_length]; simp; omega)]

def St.new (n : Nat) (r : Int) : St := ⟨List.replicate n ⟨0, 0, 0⟩, [], 0, r⟩
theorem new_bad (n r : Int) (h : n < 1 ∨ 4096 < n ∨ r < 0 ∨ n < r) (w : World) : Calls Try.prog 11 #[.int .i64 n, .int .i64 r] w fun e w' => e = .returned (.tuple #[.pointer none, .int .i64 1]) ∧ Fresh w w' := by
  have hq : decide (n < 1) = true ∨ (decide (n < 1) = false ∧ decide (4096 < n) = true) ∨ (decide (n < 1) = false ∧ decide (4096 < n) = false ∧ decide (r < 0) = true) ∨ (decide (n < 1) = false ∧ decide (4096 < n) = false ∧ decide (r < 0) = false ∧ decide (n < r) = true) := by
    by_cases h1 : n < 1 <;> by_cases h2 : 4096 < n <;> by_cases h3 : r < 0 <;> by_cases h4 : n < r <;> simp [h1, h2, h3, h4] <;> omega
  clear h
  rcases hq with q1 | ⟨q1, q2⟩ | ⟨q1, q2, q3⟩ | ⟨q1, q2, q3, q4⟩
  all_goals
    go_enter Try.func11, Try.ntmps11
    go_wp2
    go_ret2
    exact ⟨rfl, Keep.refl _ _⟩
theorem new_any (n : Nat) (r : Int) (h1 : 1 ≤ n) (h2 : n ≤ 4096) (h3 : 0 ≤ r) (h4 : r ≤ n) (w : World) : Calls Try.prog 11 #[.int .i64 n, .int .i64 r] w fun e w' =>
    ∃ g vs vf, e = .returned (.tuple #[.pointer (some ⟨g, 0, none⟩), .int .i64 0]) ∧ SSlab w' g vs vf (St.new n r) ∧ Fresh w w' ∧ (∀ k, foot g vs vf k → w.heap.size ≤ k) := by
  have q1 : decide ((n : Int) < 1) = false := by simp; omega
  have q2 : decide (4096 < (n : Int)) = false := by simp; omega
  have q3 : decide (r < 0) = false := by simp; omega
  have q4 : decide ((n : Int) < r) = false := by simp; omega
  obtain ⟨i0, hi, hz0, hz1, hz2⟩ := info_parts info_slot
  have hmk : ∀ w : World, (Instr.makeSlice 66 (.int .i64 (n : Int)) (.int .i64 (n : Int))).run Try.prog w = .ok (.slice (some ⟨w.heap.size, 0, none⟩) n n) (w.alloc (.cells (madeCells #[.int .i64 0, .int .i64 0, .int .i64 0] (n * 3)) 73)) := fun w => by
    have := run_make (P := Try.prog) w 66 73 i0 _ Try.underlying66 hi hz0 .i64 .i64 n n (by omega) (by omega) (by rw [hz2]; omega) (by omega)
    rw [hz1] at this
    simp only [Int.toNat_natCast] at this
    exact this
  go_enter Try.func11, Try.ntmps11
  go_wp2
  go_ret2
  refine ⟨w.heap.size + 1, .slice (some ⟨w.heap.size, 0, none⟩) n n, .slice none 0 0, rfl, ⟨Blk.at_new (by simp) _ _, ?_, OwnS.nil _ _ _⟩, ((Keep.refl _ w).alloc _).alloc _, ?_⟩
  · have := (OwnS.new_ (size := 3) (n := n) (Blk.new w 73 (madeCells #[.int .i64 0, .int .i64 0, .int .i64 0] (n * 3))) (size_madeCells _ _) (one_le_maxLen (by omega))).alloc (.cells #[.slice (some ⟨w.heap.size, 0, none⟩) n n, .slice none 0 0, .int .i64 0, .int .i64 r] 68)
    rw [made_slots] at this
    simpa [St.new] using this
  · rintro k (rfl | hk | hk)
    · omega
    · simp [Value.ownBlock] at hk; omega
    · simp [Value.ownBlock] at hk

theorem left_nil (w : World) : Calls Try.prog 15 #[.pointer none] w fun e w' => e = .returned (.int .i64 0) ∧ w = w' := by
  go_enter Try.func15, Try.ntmps15
  go_wp2
  go_ret
  exact ⟨rfl, rfl⟩
def St.left (s : St) : Int := s.fr.length + s.l.length - s.fresh
/-- its numbers are small -/
structure St.Small (s : St) : Prop where
  l : s.l.length ≤ 100000
  fr : s.fr.length ≤ 100000
  fresh : s.fresh ≤ 100000
  res : -1000000 ≤ s.res ∧ s.res ≤ 1000000
  t : ∀ x ∈ s.l, 0 ≤ x.t ∧ x.t ≤ 1000000
theorem left_any (g : Nat) (vs vf : Value) (s : St) (w : World) (h : SSlab w g vs vf s) (hs : s.Small) : Calls Try.prog 15 #[.pointer (some ⟨g, 0, none⟩)] w fun e w' => e = .returned (.int .i64 s.left) ∧ Fresh w w' := by
  have hb := h.blk.cell
  obtain ⟨A, cap, rfl, _, _⟩ := h.os.shape
  obtain ⟨A', cap', rfl, _, _⟩ := h.of.shape
  have a1 := hs.l
  have a2 := hs.fr
  have a3 := hs.fresh
  unfold St.left
  clear h hs
  go_enter Try.func15, Try.ntmps15
  go_wp2_with fail
  go_quiet (fail)
  go_wp2
  go_ret
  exact ⟨rfl, (Keep.refl _ w).drewN _⟩
end Go.Proofs.Ytdobhicjhgdhnaa
