/-
  The ring's calls on its list, New, and the law's small functions.
-/
import Derived.Test.YtfckbgifmajbjaaRef3
import Derived.Test.YtfckbgifmajbjaaIntsAt
namespace Go.Proofs.Ytfckbgifmajbjaa
open Go.RowKit
attribute [local go_sem ↓] Go.wp_at_zero Go.wp_at_succ

theorem first_held {g gs off cap room : Nat} {L : List (Int × Int)} {w : World} (h : Held g gs off cap room L w) : Calls Try.prog 13 #[.pointer (some ⟨g, 0, none⟩)] w fun e w' => e = .returned (told L[0]?) ∧ Fresh w w' := by
  obtain ⟨c, first, h⟩ := h
  have hl := h.r.len
  have hp := h.r.pos
  have hf := h.r.fst
  have hm := h.r.many
  have hs := h.s
  rw [← hl] at hs
  have := first_any g _ c first L.length w hs (by omega) (by omega) (by omega)
  have e : (if 0 < L.length then nth c first 0 else none) = L[0]? := by
    by_cases h0 : 0 < L.length
    · rw [if_pos h0]; exact h.r.at_ 0 h0
    · rw [if_neg h0, List.getElem?_eq_none (by omega)]
  rw [e] at this
  exact this
theorem last_held {g gs off cap room : Nat} {L : List (Int × Int)} {w : World} (h : Held g gs off cap room L w) : Calls Try.prog 14 #[.pointer (some ⟨g, 0, none⟩)] w fun e w' => e = .returned (told L[L.length - 1]?) ∧ Fresh w w' := by
  obtain ⟨c, first, h⟩ := h
  have hl := h.r.len
  have hp := h.r.pos
  have hf := h.r.fst
  have hm := h.r.many
  have hs := h.s
  rw [← hl] at hs
  have := last_any g _ c first L.length w hs (by omega) (by omega) (by omega)
  have e : (if 0 < L.length then nth c first (L.length - 1) else none) = L[L.length - 1]? := by
    by_cases h0 : 0 < L.length
    · rw [if_pos h0]; exact h.r.at_ _ (by omega)
    · rw [if_neg h0, List.getElem?_eq_none (by omega)]
  rw [e] at this
  exact this
theorem len_held {g gs off cap room : Nat} {L : List (Int × Int)} {w : World} (h : Held g gs off cap room L w) : Calls Try.prog 15 #[.pointer (some ⟨g, 0, none⟩)] w fun e w' => e = .returned (.int .i64 L.length) ∧ w = w' := by
  obtain ⟨c, first, h⟩ := h
  have hs := h.s
  rw [← h.r.len] at hs
  exact len_any g _ c first L.length w hs
theorem room_held {g gs off cap room : Nat} {L : List (Int × Int)} {w : World} (h : Held g gs off cap room L w) : Calls Try.prog 21 #[.pointer (some ⟨g, 0, none⟩)] w fun e w' => e = .returned (.int .i64 ((room : Int) - L.length)) ∧ Fresh w w' := by
  obtain ⟨c, first, h⟩ := h
  have hp := h.r.pos
  have hm := h.r.many
  have hl := h.r.len
  have hs := h.s
  rw [← hl] at hs
  have := room_any g _ c first L.length w hs (by omega) (by omega)
  rw [hl] at this
  exact this
theorem upto_held {g gs off cap room : Nat} {L : List (Int × Int)} {w : World} (h : Held g gs off cap room L w) (t : Int) : Calls Try.prog 16 #[.pointer (some ⟨g, 0, none⟩), .int .i64 t] w fun e w' => e = .returned (told (uptoL L t)) ∧ Fresh w w' := by
  obtain ⟨c, first, h⟩ := h
  exact upto_any g gs off cap room c first L t w h

theorem info_row : (Try.prog.info? 66).map (fun i => (i.zero, i.size, i.bytes)) = some (some (.agg #[.int .i64 0, .int .i64 0]), 2, 16) := by kernel_rfl
theorem made_rows (n : Nat) : (madeCells #[.int .i64 0, .int .i64 0] (n * 2)).toList = cells (List.replicate n (0, 0)) := by
  apply List.ext_getElem?
  intro i
  by_cases hi : i < n * 2
  · have h1 : (madeCells #[.int .i64 0, .int .i64 0] (n * 2)).toList[i]? = some (.int .i64 0) := by
      simp only [madeCells, Array.toList_map, List.getElem?_map]
      rw [show (Array.range (n * 2)).toList = List.range (n * 2) by simp, List.getElem?_range hi]
      have : i % 2 = 0 ∨ i % 2 = 1 := by omega
      rcases this with h | h <;> simp [h]
    rw [h1]
    have hk : (List.replicate n ((0, 0) : Int × Int))[i / 2]? = some (0, 0) := by rw [List.getElem?_replicate]; simp; omega
    have h2 := cells_at _ _ _ hk
    have : i = i / 2 * 2 ∨ i = i / 2 * 2 + 1 := by omega
    rcases this with h | h
    · rw [h]; exact h2.1.symm
    · rw [h]; exact h2.2.symm
  · rw [List.getElem?_eq_none (by rw [Array.length_toList, size_madeCells]; omega), List.getElem?_eq_none (by rw [cells_length, List.length_replicate]; omega)]
theorem new_bad (n : Int) (h : n < 1 ∨ 4096 < n) (w : World) : Calls Try.prog 11 #[.int .i64 n] w fun e w' => e = .returned (.tuple #[.pointer none, .int .i64 1]) ∧ Fresh w w' := by
  have hq : decide (n < 1) = true ∨ (decide (n < 1) = false ∧ decide (4096 < n) = true) := by
    by_cases h1 : n < 1 <;> by_cases h2 : 4096 < n <;> simp [h1, h2] <;> omega
  clear h
  rcases hq with q1 | ⟨q1, q2⟩
  all_goals
    go_enter Try.func11, Try.ntmps11
    go_wp2
    go_ret2
    exact ⟨rfl, Keep.refl _ _⟩
theorem new_any (n : Nat) (h1 : 1 ≤ n) (h2 : n ≤ 4096) (w : World) : Calls Try.prog 11 #[.int .i64 n] w fun e w' =>
    ∃ g gs off cap, e = .returned (.tuple #[.pointer (some ⟨g, 0, none⟩), .int .i64 0]) ∧ Held g gs off cap n [] w' ∧ Fresh w w' ∧ w.heap.size ≤ g ∧ w.heap.size ≤ gs := by
  have q1 : decide ((n : Int) < 1) = false := decide_eq_false (by omega)
  have q2 : decide (4096 < (n : Int)) = false := decide_eq_false (by omega)
  have q1' : decide (n < 1) = false := decide_eq_false (by omega)
  have q2' : decide (4096 < n) = false := decide_eq_false (by omega)
  obtain ⟨i0, hi, hz0, hz1, hz2⟩ := info_parts info_row
  have hmk : ∀ w : World, (Instr.makeSlice 58 (.int .i64 (n : Int)) (.int .i64 (n : Int))).run Try.prog w = .ok (.slice (some ⟨w.heap.size, 0, none⟩) n n) (w.alloc (.cells (madeCells #[.int .i64 0, .int .i64 0] (n * 2)) 66)) := fun w => by
    have := run_make (P := Try.prog) w 58 66 i0 _ Try.underlying58 hi hz0 .i64 .i64 n n (by omega) (by omega) (by rw [hz2]; omega) (by omega)
    rw [hz1] at this
    simp only [Int.toNat_natCast] at this
    exact this
  go_enter Try.func11, Try.ntmps11
  go_wp2
  go_ret2
  refine ⟨w.heap.size + 1, w.heap.size, 0, n, rfl, ⟨List.replicate n (0, 0), 0, ⟨⟨Blk.at_new (by simp) _ _, ?_⟩, RL.start n h1 h2, List.Pairwise.nil⟩⟩, ((Keep.refl _ w).alloc _).alloc _, by omega, Nat.le_refl _⟩
  have := (OwnS.new_ (size := 2) (n := n) (Blk.new w 66 (madeCells #[.int .i64 0, .int .i64 0] (n * 2))) (size_madeCells _ _) (one_le_maxLen (by omega))).alloc (.cells #[.slice (some ⟨w.heap.size, 0, none⟩) n n, .int .i64 0, .int .i64 0] 60)
  rw [made_rows] at this
  simpa using this

theorem few_any (A : Option Addr) (n c : Nat) (w : World) : Calls Try.prog 9 #[.slice A n c] w fun e w' => e = .returned (.bool (decide (n ≤ 60))) ∧ w = w' := by
  have e : decide ((n : Int) ≤ 60) = decide (n ≤ 60) := by
    by_cases h : n ≤ 60
    · rw [decide_eq_true h]; exact decide_eq_true (by omega)
    · rw [decide_eq_false h]; exact decide_eq_false (by omega)
  go_enter Try.func9, Try.ntmps9
  go_wp2
  go_ret
  exact ⟨rfl, rfl⟩

set_option maxHeartbeats 1000000 in
/-- two equal lists -/
theorem ints_any (A B : Option Addr) (c c' : Nat) (l : List Int) (w : World) (h1 : IntsAt w A l) (h2 : IntsAt w B l) (hn : l.length ≤ 1000000) :
    Calls Try.prog 25 #[.slice A l.length c, .slice B l.length c'] w fun e w' => e = .returned (.bool true) ∧ Fresh w w' := by
  have H1 := Lib.hid h1
  have H2 := Lib.hid h2
  clear h1 h2
  go_enter Try.func25, Try.ntmps25
  go_wp2_with fail
  go_loopg [5] l.length (fun gk u wr => ∃ q : Nat, q ≤ l.length ∧ gk = l.length - q ∧ u = .int .i64 q ∧ Fresh w wr)
  case atStart => exact ⟨0, by omega, rfl, rfl, Keep.refl _ _⟩
  case round =>
    obtain ⟨q, hq, rfl, rfl, hF⟩ := hrel
    have HF := Lib.hid hF
    clear hF
    by_cases hlt : q < l.length
    · obtain ⟨x, hx⟩ : ∃ x, l[q]? = some x := ⟨_, List.getElem?_eq_getElem hlt⟩
      obtain ⟨b1, o1, rfl, l1, c1⟩ := (H1.out.fresh HF.out) q x hx
      obtain ⟨b2, o2, rfl, l2, c2⟩ := (H2.out.fresh HF.out) q x hx
      clear hx
      go_wp2_with fail
      go_quiet (fail)
      go_wp2_with fail
      go_roundg (l.length - (q + 1))
      case measure => omega
      case rel => exact ⟨q + 1, by omega, rfl, by go_num, HF.out.drewN _⟩
    · obtain rfl : q = l.length := by omega
      go_wp2_with fail
      go_ret
      exact ⟨rfl, HF.out⟩

set_option maxHeartbeats 1000000 in
theorem told_no (g : Nat) (w : World) : Calls Try.prog 29 #[.int .i64 0, .int .i64 0, .int .i64 14, .pointer (some ⟨g, 0, none⟩), .int .i64 (-1)] w fun e w' => e = .returned (.bool true) ∧ w = w' := by
  go_enter Try.func29, Try.ntmps29
  go_wp2
  go_ret
  exact ⟨rfl, rfl⟩
set_option maxHeartbeats 1000000 in
theorem told_yes (g room : Nat) (v : Value) (L : List (Int × Int)) (i : Nat) (x : Int × Int) (w : World) (h : RRing w g v room L) (hx : L[i]? = some x) (hm : L.length ≤ 4096) : Calls Try.prog 29 #[.int .i64 x.1, .int .i64 x.2, .int .i64 0, .pointer (some ⟨g, 0, none⟩), .int .i64 i] w fun e w' => e = .returned (.bool true) ∧ Fresh w w' := by
  have hb := h.blk.cell
  have hi := (List.getElem?_eq_some_iff.1 hx).1
  obtain ⟨gr, off, cap', rfl, lr, _, _, hcc⟩ := h.own.form (by omega)
  obtain ⟨c0, c1⟩ := cells_at _ _ _ hx
  have c0 := hcc _ _ c0
  have c1 := hcc _ _ c1
  rw [← Nat.add_assoc] at c1
  obtain ⟨xa, xb⟩ := x
  simp only at c0 c1 ⊢
  have t0 : decide ((i : Int) < 0) = false := decide_eq_false (by omega)
  clear hcc hx h
  go_enter Try.func29, Try.ntmps29
  go_wp2
  go_ret
  exact ⟨rfl, Keep.refl _ _⟩
end Go.Proofs.Ytfckbgifmajbjaa
