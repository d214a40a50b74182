/-
  The document's ring: Push, Upto, Front.
-/
import Derived.Test.YtfckbgifmajbjaaParts2
namespace Go.Proofs.Ytfckbgifmajbjaa
open Go.RowKit
attribute [local go_sem ↓] Go.wp_at_zero Go.wp_at_succ

structure RRing (w : World) (g : Nat) (v : Value) (room : Nat) (L : List (Int × Int)) : Prop where
  blk : Blk w g 33 #[.int .i64 room, v]
  own : OwnS w 53 2 v L.length (cells L)
def foot (g : Nat) (v : Value) (k : Nat) : Prop := k = g ∨ v.ownBlock = some k
def Later (w : World) (g : Nat) (v v' : Value) : Prop := ∀ k, foot g v' k → foot g v k ∨ w.heap.size ≤ k
theorem RRing.kept {w w' : World} {g room : Nat} {v : Value} {L : List (Int × Int)} {S : Nat → Prop} (h : RRing w g v room L) (k : Keep S w w') (hn : ∀ k, foot g v k → ¬ S k) : RRing w' g v room L := ⟨h.blk.keep k (hn g (.inl rfl)), h.own.kept k (fun i hi => hn i (.inr hi))⟩
theorem RRing.fresh {w w' : World} {g room : Nat} {v : Value} {L : List (Int × Int)} (h : RRing w g v room L) (k : Fresh w w') : RRing w' g v room L := h.kept k (fun _ _ h => h)
theorem RRing.lt {w : World} {g room : Nat} {v : Value} {L : List (Int × Int)} (h : RRing w g v room L) : ∀ k, foot g v k → k < w.heap.size := by
  rintro k (rfl | hk)
  · exact h.blk.lt
  · exact h.own.lt hk
def RPost (g : Nat) (v : Value) (room : Nat) (L' : List (Int × Int)) (w w' : World) : Prop := ∃ v', RRing w' g v' room L' ∧ Keep (foot g v) w w' ∧ Later w g v v'
theorem RPost.same {g room : Nat} {v : Value} {L : List (Int × Int)} {w w' : World} (h : RRing w g v room L) (f : Fresh w w') : RPost g v room L w w' := ⟨v, h.fresh f, f.more (fun _ _ h => h.elim), fun k hk => .inl hk⟩
theorem info_thing : (Try.prog.info? 53).map (fun i => (i.zero, i.size, i.bytes)) = some (some (.agg #[.int .i64 0, .int .i64 0]), 2, 16) := by kernel_rfl
theorem cells_one (l : List (Int × Int)) : ∀ u ∈ cells l, u.oneCell' = true := by
  intro u hu
  simp only [cells, List.mem_flatMap] at hu
  obtain ⟨s, _, hs⟩ := hu
  simp at hs
  rcases hs with rfl | rfl <;> rfl
theorem cells_append (l m : List (Int × Int)) : cells (l ++ m) = cells l ++ cells m := by simp [cells]

/-- a new list stands in its place -/
theorem RRing.turn {w w2 : World} {g room : Nat} {v v' : Value} {L L' : List (Int × Int)} {n : Nat} {xs : List Value} (h : RRing w g v room L) (k2 : Keep (fun k => v.ownBlock = some k) w w2) (o2 : OwnS w2 53 2 v' n xs) (n2 : ∀ k, v'.ownBlock = some k → v.ownBlock = some k ∨ w.heap.size ≤ k) (hn : n = L'.length) (hx : xs = cells L') :
    RPost g v room L' w (w2.setCell ⟨g, 1, none⟩ v') := by
  subst hn hx
  have hgv : v.ownBlock ≠ some g := h.own.ne_blk h.blk (by decide)
  have b2 := h.blk.keep k2 hgv
  have hgv' : v'.ownBlock ≠ some g := o2.ne_blk b2 (by decide)
  refine ⟨v', ⟨?_, o2.far (p := ⟨g, 1, none⟩) hgv' _⟩, ?_, ?_⟩
  · have := b2.set_ 1 v'
    simpa using this
  · exact (k2.more (fun k _ e => .inr e)).setCell (fun _ => .inl rfl) _
  · rintro k (rfl | hk)
    · exact .inl (.inl rfl)
    · exact (n2 k hk).imp .inr id

set_option maxHeartbeats 1000000 in
theorem rpush_any (g room : Nat) (v : Value) (L : List (Int × Int)) (a b : Int) (w : World) (h : RRing w g v room L) (hasc : Asc L) (hr : room ≤ 4096) (hm : L.length ≤ room) :
    Calls Try.prog 26 #[.pointer (some ⟨g, 0, none⟩), .int .i64 a, .int .i64 b] w fun e w' => e = .returned (.int .i64 (pushL L room (a, b)).1) ∧ RPost g v room (pushL L room (a, b)).2 w w' := by
  have hb := h.blk.cell
  have hfz := h.blk.frozen
  have hlt := h.blk.lt
  have HS := Lib.hid h
  obtain ⟨A, cap, rfl, hc, hcm⟩ := h.own.shape
  have hcm : cap ≤ 9223372036854775807 := by unfold maxLen at hcm; omega
  obtain ⟨i0, hi, hz0, hz1, hz2⟩ := info_parts info_thing
  have h02 : 0 < 2 := by omega
  -- the last one's time
  have hlast : (L.length = 0 ∧ L.any (fun y => decide (a < y.1)) = false) ∨ ∃ y, 0 < L.length ∧ L[L.length - 1]? = some y ∧ L.any (fun y => decide (a < y.1)) = decide (a < y.1) := by
    rcases List.eq_nil_or_concat L with rfl | ⟨L', y, rfl⟩
    · exact .inl ⟨rfl, rfl⟩
    · rw [List.concat_eq_append] at hasc ⊢
      exact .inr ⟨y, by simp, by simp, any_last hasc (by simp) a⟩
  unfold pushL
  have END : Hid (∀ (v' : Value) (w2 : World), OwnS w2 53 2 v' (L.length + 1) (cells L ++ cells [(a, b)]) → Keep (fun k => (Value.slice A L.length cap).ownBlock = some k) (w.alloc (.cells #[.int .i64 a, .int .i64 b] 53)) w2 → (∀ k, v'.ownBlock = some k → (Value.slice A L.length cap).ownBlock = some k ∨ (w.alloc (.cells #[.int .i64 a, .int .i64 b] 53)).heap.size ≤ k) → RPost g (.slice A L.length cap) room (L ++ [(a, b)]) w (w2.setCell ⟨g, 1, none⟩ v')) := fun v' w2 o2 k2 n2 =>
    h.turn (((Keep.refl _ w).alloc _).trans k2) o2 (fun k hk => (n2 k hk).imp id (fun e => by simp at e; omega)) (by simp) (by rw [← cells_append])
  have HOA := Lib.hid (h.own.alloc (.cells #[.int .i64 a, .int .i64 b] 53))
  have HSR : Hid (Src (w.alloc (.cells #[.int .i64 a, .int .i64 b] 53)) 2 (.slice (some ⟨w.heap.size, 0, none⟩) 1 1) 1 (cells [(a, b)])) := Src.one_new w 53 2 #[.int .i64 a, .int .i64 b] rfl
  have KB : Hid (∀ w2, Keep (fun k => (Value.slice A L.length cap).ownBlock = some k) (w.alloc (.cells #[.int .i64 a, .int .i64 b] 53)) w2 → Blk w2 g 33 #[.int .i64 room, .slice A L.length cap]) := fun w2 k2 => (h.blk.alloc _).keep k2 (h.own.ne_blk h.blk (by decide))
  have hL1 : L.length + 1 ≤ maxLen := one_le_maxLen (by omega)
  have hL2 : (L.length + 1) * 16 ≤ 140737488355328 := by omega
  have hrm : decide ((room : Int) ≤ (L.length : Int)) = decide (L.length = room) := by rw [Bool.eq_iff_iff]; simp; omega
  have hrm' : decide (room ≤ L.length) = decide (L.length = room) := by rw [Bool.eq_iff_iff]; simp; omega
  have c00 : 0 < L.length → ∀ y, L[L.length - 1]? = some y → ∃ gs off, A = some ⟨gs, off, none⟩ ∧ w.cell? ⟨gs, off + (L.length - 1) * 2, none⟩ = some (.int .i64 y.1) := fun hp y hy => by
    obtain ⟨gs, off, cap', hv, _, _, _, hcc⟩ := h.own.form hp
    injection hv with hv1 _ _
    exact ⟨gs, off, hv1, hcc _ _ (cells_at _ _ _ hy).1⟩
  have C00 := Lib.hid c00
  clear h c00
  rcases hlast with ⟨h0, ha⟩ | ⟨y, hp, hy, ha⟩
  · rw [ha]
    have t0 : decide ((0 : Int) < (L.length : Int)) = false := decide_eq_false (by omega)
    have t0' : decide (0 < L.length) = false := decide_eq_false (by omega)
    simp only [Bool.false_eq_true, if_false]
    by_cases hf : L.length = room
    · rw [if_pos hf]
      have t1 : decide ((room : Int) ≤ (L.length : Int)) = true := by rw [hrm, decide_eq_true hf]
      have t1' : decide (room ≤ L.length) = true := by rw [hrm', decide_eq_true hf]
      clear hf hrm hrm' h0 ha
      go_enter Try.func26, Try.ntmps26
      go_wp2_with fail
      go_ret
      exact ⟨rfl, RPost.same HS.out (Keep.refl _ _)⟩
    · rw [if_neg hf]
      have t1 : decide ((room : Int) ≤ (L.length : Int)) = false := by rw [hrm, decide_eq_false hf]
      have t1' : decide (room ≤ L.length) = false := by rw [hrm', decide_eq_false hf]
      clear hf hrm hrm' h0 ha
      go_enter Try.func26, Try.ntmps26
      go_wp2_with (at_builtin; refine wpList_append_OwnS _ rfl (.tmp 38) (.tmp 42) 31 rfl 53 i0 (.agg #[.int .i64 0, .int .i64 0]) 2 16 Try.underlying31 hi hz0 hz1 hz2 rfl h02 (.slice A L.length cap) L.length (cells L) rfl HOA.out (.slice (some ⟨w.heap.size, 0, none⟩) 1 1) 1 (cells [(a, b)]) rfl HSR.out (cells_one _) hL1 hL2 ?_; intro v4 w4 o4 k4 n4; obtain ⟨A4, cap4, rfl, _, _⟩ := o4.shape; have bb := KB.out _ k4; have hb4 := bb.cell; have hf4 := bb.frozen; have hl4 := bb.lt; have HE := Lib.hid (END.out _ _ o4 k4 n4); clear o4 k4 n4 bb)
      go_ret
      exact ⟨rfl, HE.out⟩
  · rw [ha]
    have t0 : decide ((0 : Int) < (L.length : Int)) = true := decide_eq_true (by omega)
    have t0' : decide (0 < L.length) = true := decide_eq_true hp
    obtain ⟨gs, off, rfl, c0⟩ := C00.out hp y hy
    have hgs := World.block_lt_of_cell? w _ c0
    obtain ⟨ya, yb⟩ := y
    simp only at c0 ⊢
    have n1 : (L.length : Int) - 1 = ((L.length - 1 : Nat) : Int) := by omega
    have n2 : (0 : Int) ≤ (L.length : Int) - 1 := by omega
    have n3 : (L.length : Int) - 1 < (L.length : Int) := by omega
    have n4 : ((L.length : Int) - 1).toNat = L.length - 1 := by omega
    by_cases hf0 : a < ya
    · have t2 : decide (a < ya) = true := decide_eq_true hf0
      simp only [t2, if_true]
      clear hrm hrm' ha hy hf0 n1 C00
      go_enter Try.func26, Try.ntmps26
      go_wp2_with fail
      go_ret
      exact ⟨rfl, RPost.same HS.out (Keep.refl _ _)⟩
    · have t2 : decide (a < ya) = false := decide_eq_false hf0
      simp only [t2, Bool.false_eq_true, if_false]
      by_cases hf : L.length = room
      · rw [if_pos hf]
        have t1 : decide ((room : Int) ≤ (L.length : Int)) = true := by rw [hrm, decide_eq_true hf]
        have t1' : decide (room ≤ L.length) = true := by rw [hrm', decide_eq_true hf]
        clear hf hrm hrm' ha hy hf0 n1 C00
        go_enter Try.func26, Try.ntmps26
        go_wp2_with fail
        go_ret
        exact ⟨rfl, RPost.same HS.out (Keep.refl _ _)⟩
      · rw [if_neg hf]
        have t1 : decide ((room : Int) ≤ (L.length : Int)) = false := by rw [hrm, decide_eq_false hf]
        have t1' : decide (room ≤ L.length) = false := by rw [hrm', decide_eq_false hf]
        clear hf hrm hrm' ha hy hf0 n1 C00
        go_enter Try.func26, Try.ntmps26
        go_wp2_with (at_builtin; refine wpList_append_OwnS _ rfl (.tmp 38) (.tmp 42) 31 rfl 53 i0 (.agg #[.int .i64 0, .int .i64 0]) 2 16 Try.underlying31 hi hz0 hz1 hz2 rfl h02 (.slice (some ⟨gs, off, none⟩) L.length cap) L.length (cells L) rfl HOA.out (.slice (some ⟨w.heap.size, 0, none⟩) 1 1) 1 (cells [(a, b)]) rfl HSR.out (cells_one _) hL1 hL2 ?_; intro v4 w4 o4 k4 n4; obtain ⟨A4, cap4, rfl, _, _⟩ := o4.shape; have bb := KB.out _ k4; have hb4 := bb.cell; have hf4 := bb.frozen; have hl4 := bb.lt; have HE := Lib.hid (END.out _ _ o4 k4 n4); clear o4 k4 n4 bb)
        go_ret
        exact ⟨rfl, HE.out⟩
end Go.Proofs.Ytfckbgifmajbjaa
