/-
  gvt.Master and the document's master: each function by a contract.
-/
import Derived.Test.YtegffmnenicldaaMastP
namespace Go.Proofs.Ytegffmnenicldaa
open Go.RowKit Go.Maps
theorem run_max (P : Program) (w : World) (ts : Array TypeId) (t : TypeId) (k : IntKind) (x y : Int) : (Builtin.max_ ts t #[.int k x, .int k y]).run P w = .ok (.int k (max x y)) w := by
  simp [Builtin.max_, Builtin.max2]
  split <;> omega
attribute [local go_sem ↓] Go.wp_at_zero Go.wp_at_succ run_min run_max

structure SMast (w : World) (g gs n : Nat) (m : GM) : Prop where
  blk : Blk w g 75 #[.int .i64 m.no, .bool m.runs, .int .i64 m.time, .slice (some ⟨gs, 0, none⟩) n n]
  os : OwnS w 3 1 (.slice (some ⟨gs, 0, none⟩) n n) n (ints m.l)
structure RMast (w : World) (g gs n : Nat) (m : GM) : Prop where
  blk : Blk w g 60 #[.slice (some ⟨gs, 0, none⟩) n n, .int .i64 m.no, .bool m.runs, .int .i64 m.time]
  os : OwnS w 3 1 (.slice (some ⟨gs, 0, none⟩) n n) n (ints m.l)
section
variable {w w' : World} {g gs n : Nat} {m : GM} {S : Nat → Prop}
theorem SMast.ne (h : SMast w g gs n m) : gs ≠ g := by
  have := h.os.ne_blk h.blk (by decide)
  simpa [Value.ownBlock] using this
theorem RMast.ne (h : RMast w g gs n m) : gs ≠ g := by
  have := h.os.ne_blk h.blk (by decide)
  simpa [Value.ownBlock] using this
theorem SMast.kept (h : SMast w g gs n m) (k : Keep S w w') (h1 : ¬ S g) (h2 : ¬ S gs) : SMast w' g gs n m := ⟨h.blk.keep k h1, h.os.kept k (fun i hi e => by simp [Value.ownBlock] at hi; subst hi; exact h2 e)⟩
theorem RMast.kept (h : RMast w g gs n m) (k : Keep S w w') (h1 : ¬ S g) (h2 : ¬ S gs) : RMast w' g gs n m := ⟨h.blk.keep k h1, h.os.kept k (fun i hi e => by simp [Value.ownBlock] at hi; subst hi; exact h2 e)⟩
theorem SMast.fresh (h : SMast w g gs n m) (k : Fresh w w') : SMast w' g gs n m := h.kept k (fun h => h) (fun h => h)
theorem RMast.fresh (h : RMast w g gs n m) (k : Fresh w w') : RMast w' g gs n m := h.kept k (fun h => h) (fun h => h)
theorem SMast.put (h : SMast w g gs n m) {q : Nat} (hq : q < m.l.length) (x : Int) : SMast (w.setCell ⟨gs, q, none⟩ (.int .i64 x)) g gs n ⟨m.no, m.runs, m.time, m.l.set q x⟩ := by
  have h1 := h.os.set_ q (.int .i64 x) (by simpa [ints] using hq)
  rw [Nat.zero_add] at h1
  refine ⟨h.blk.far (fun e => h.ne e.symm) _, ?_⟩
  have : (ints m.l).set q (.int .i64 x) = ints (m.l.set q x) := by unfold ints; rw [List.map_set]
  rw [← this]
  exact h1
theorem RMast.put (h : RMast w g gs n m) {q : Nat} (hq : q < m.l.length) (x : Int) : RMast (w.setCell ⟨gs, q, none⟩ (.int .i64 x)) g gs n ⟨m.no, m.runs, m.time, m.l.set q x⟩ := by
  have h1 := h.os.set_ q (.int .i64 x) (by simpa [ints] using hq)
  rw [Nat.zero_add] at h1
  refine ⟨h.blk.far (fun e => h.ne e.symm) _, ?_⟩
  have : (ints m.l).set q (.int .i64 x) = ints (m.l.set q x) := by unfold ints; rw [List.map_set]
  rw [← this]
  exact h1
end

theorem newM_bad (n : Int) (h : n < 1 ∨ 8 < n) (w : World) : Calls Try.prog 26 #[.int .i64 n] w fun e w' => e = .returned (.tuple #[.pointer none, .int .i64 1]) ∧ w = w' := by
  have hq : decide (n < 1) = true ∨ (decide (n < 1) = false ∧ decide (8 < n) = true) := by
    by_cases h1 : n < 1
    · exact .inl (decide_eq_true h1)
    · exact .inr ⟨decide_eq_false h1, decide_eq_true (by omega)⟩
  clear h
  rcases hq with q1 | ⟨q1, q2⟩
  all_goals
    go_enter Try.func26, Try.ntmps26
    go_wp2
    go_ret2
    exact ⟨rfl, rfl⟩
theorem made_ints (n : Nat) : (madeCells #[.int .i64 0] n).toList = ints (List.replicate n 0) := by
  apply List.ext_getElem?
  intro i
  simp only [ints, madeCells, Array.toList_map, List.getElem?_map, List.getElem?_replicate]
  rw [show (Array.range n).toList = List.range n by simp]
  by_cases hi : i < n
  · rw [List.getElem?_range hi, if_pos hi]
    simp [Nat.mod_one]
  · rw [List.getElem?_eq_none (by simp; omega), if_neg hi]
    rfl
theorem newM_any (n : Nat) (h1 : 1 ≤ n) (h8 : n ≤ 8) (w : World) : Calls Try.prog 26 #[.int .i64 n] w fun e w' => ∃ g gs, e = .returned (.tuple #[.pointer (some ⟨g, 0, none⟩), .int .i64 0]) ∧ SMast w' g gs n ⟨0, false, 0, List.replicate n 0⟩ ∧ Fresh w w' ∧ w.heap.size ≤ g ∧ w.heap.size ≤ gs := by
  have q1 : decide ((n : Int) < 1) = false := decide_eq_false (by omega)
  have q2 : decide (8 < (n : Int)) = false := decide_eq_false (by omega)
  obtain ⟨i0, hi, hz0, hz1, hz2⟩ := info_parts info_int
  have hmk : ∀ w : World, (Instr.makeSlice 28 (.int .i64 (n : Int)) (.int .i64 (n : Int))).run Try.prog w = .ok (.slice (some ⟨w.heap.size, 0, none⟩) n n) (w.alloc (.cells (madeCells #[.int .i64 0] n) 3)) := fun w => by
    have := run_make (P := Try.prog) w 28 3 i0 _ Try.underlying28 hi hz0 .i64 .i64 n n (by omega) (by omega) (by rw [hz2]; omega) (by omega)
    rw [hz1] at this
    simp only [Int.toNat_natCast, Nat.mul_one] at this
    exact this
  go_enter Try.func26, Try.ntmps26
  go_wp2
  go_ret2
  refine ⟨w.heap.size + 1, w.heap.size, rfl, ⟨Blk.at_new (by simp) _ _, ?_⟩, ((Keep.refl _ w).alloc _).alloc _, by omega, by omega⟩
  have := (OwnS.new_ (size := 1) (n := n) (Blk.new w 3 (madeCells #[.int .i64 0] n)) (by rw [size_madeCells]; omega) (one_le_maxLen (by omega))).alloc (.cells #[.int .i64 0, .bool false, .int .i64 0, .slice (some ⟨w.heap.size, 0, none⟩) n n] 75)
  rw [made_ints] at this
  exact this

theorem begin_nil (w : World) : Calls Try.prog 27 #[.pointer none] w fun e w' => e = .returned (.tuple #[.int .i64 0, .int .i64 2]) ∧ w = w' := by
  go_enter Try.func27, Try.ntmps27
  go_wp2
  go_ret2
  exact ⟨rfl, rfl⟩
theorem report_nil (a b c : Int) (w : World) : Calls Try.prog 29 #[.pointer none, .int .i64 a, .int .i64 b, .int .i64 c] w fun e w' => e = .returned (.tuple #[.bool false, .int .i64 2]) ∧ w = w' := by
  go_enter Try.func29, Try.ntmps29
  go_wp2
  go_ret2
  exact ⟨rfl, rfl⟩
theorem time_nil (w : World) : Calls Try.prog 21 #[.pointer none] w fun e w' => e = .returned (.int .i64 0) ∧ w = w' := by
  go_enter Try.func21, Try.ntmps21
  go_wp2
  go_ret
  exact ⟨rfl, rfl⟩
theorem running_nil (w : World) : Calls Try.prog 24 #[.pointer none] w fun e w' => e = .returned (.bool false) ∧ w = w' := by
  go_enter Try.func24, Try.ntmps24
  go_wp2
  go_ret
  exact ⟨rfl, rfl⟩
theorem rounds_nil (w : World) : Calls Try.prog 31 #[.pointer none] w fun e w' => e = .returned (.int .i64 0) ∧ w = w' := by
  go_enter Try.func31, Try.ntmps31
  go_wp2
  go_ret
  exact ⟨rfl, rfl⟩
theorem mtime_any (g gs n : Nat) (m : GM) (w : World) (h : SMast w g gs n m) : Calls Try.prog 21 #[.pointer (some ⟨g, 0, none⟩)] w fun e w' => e = .returned (.int .i64 m.time) ∧ w = w' := by
  have hb := h.blk.cell
  clear h
  go_enter Try.func21, Try.ntmps21
  go_wp2
  go_ret
  exact ⟨rfl, rfl⟩
theorem running_any (g gs n : Nat) (m : GM) (w : World) (h : SMast w g gs n m) : Calls Try.prog 24 #[.pointer (some ⟨g, 0, none⟩)] w fun e w' => e = .returned (.bool m.runs) ∧ w = w' := by
  have hb := h.blk.cell
  clear h
  go_enter Try.func24, Try.ntmps24
  go_wp2
  go_ret
  exact ⟨rfl, rfl⟩
theorem rounds_any (g gs n : Nat) (m : GM) (w : World) (h : SMast w g gs n m) : Calls Try.prog 31 #[.pointer (some ⟨g, 0, none⟩)] w fun e w' => e = .returned (.int .i64 m.no) ∧ w = w' := by
  have hb := h.blk.cell
  clear h
  go_enter Try.func31, Try.ntmps31
  go_wp2
  go_ret
  exact ⟨rfl, rfl⟩
end Go.Proofs.Ytegffmnenicldaa
