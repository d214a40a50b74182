/-
  The document's answer: take, Put.
-/
import Derived.Test.YtecobebndjnhnaaRSort
namespace Go.Proofs.Ytecobebndjnhnaa
open Go.RowKit
attribute [local go_sem ↓] Go.wp_at_zero Go.wp_at_succ
attribute [local go_sem ↓] run_eql_ev

def cutAt (l : List Ev) (i : Nat) : List Ev := l.take i ++ l.drop (i + 1)
theorem cutAt_perm {l : List Ev} {i : Nat} {x : Ev} (h : l[i]? = some x) : l.Perm (x :: cutAt l i) := by
  obtain ⟨hl, hx⟩ := List.getElem?_eq_some_iff.1 h
  have e : l = l.take i ++ x :: l.drop (i + 1) := by
    have h2 : l.drop i = l[i] :: l.drop (i + 1) := List.drop_eq_getElem_cons hl
    rw [hx] at h2
    rw [← h2, List.take_append_drop]
  unfold cutAt
  refine List.Perm.trans (e ▸ List.Perm.refl _) List.perm_middle
theorem cutAt_length {l : List Ev} {i : Nat} (h : i < l.length) : (cutAt l i).length = i + (l.length - (i + 1)) := by
  unfold cutAt
  simp
  omega
/-- what take answers -/
def RTakeP (v : Value) (l : List Ev) (x : Ev) (w : World) (e : Ending) (w' : World) : Prop :=
  (∃ i v', l[i]? = some x ∧ e = .returned (.tuple #[v', .bool true]) ∧ OwnS w' 25 7 v' (cutAt l i).length (cells (cutAt l i)) ∧ Fresh w w' ∧ ∀ k, v'.ownBlock = some k → w.heap.size ≤ k) ∨ (x ∉ l ∧ e = .returned (.tuple #[v, .bool false]) ∧ Fresh w w')
set_option maxHeartbeats 4000000 in
set_option maxRecDepth 100000 in
theorem rtake_any (v : Value) (l : List Ev) (x : Ev) (w : World) (ho : OwnS w 25 7 v l.length (cells l)) (hl : l.length ≤ 100000) :
    Calls Try.prog 54 #[v, x.val] w (RTakeP v l x w) := by
  obtain ⟨A, c, rfl, hc, hcm⟩ := ho.shape
  have hcm : c ≤ 9223372036854775807 := by unfold maxLen at hcm; omega
  have HO := Lib.hid ho
  have F0 : Hid (Fresh w (w.alloc (.cells #[.int .i64 x.a, .int .i64 x.s, .int .i64 x.t, .int .i64 x.n, .int .i64 x.d, .int .i64 x.k, .int .i64 x.x] 25))) := Lib.hid ((Keep.refl _ w).alloc _)
  have B0 := Lib.hid (Blk.new w 25 #[.int .i64 x.a, .int .i64 x.s, .int .i64 x.t, .int .i64 x.n, .int .i64 x.d, .int .i64 x.k, .int .i64 x.x])
  clear ho
  obtain ⟨i0, hi, hz0, hz1, hz2⟩ := info_parts info_ev
  have h07 : Hid (0 < 7) := Lib.hid (by omega)
  unfold Ev.val
  go_enter Try.func54, Try.ntmps54
  go_wp2_with fail
  obtain ⟨w0, hw0⟩ : ∃ w0, w.alloc (.cells #[.int .i64 x.a, .int .i64 x.s, .int .i64 x.t, .int .i64 x.n, .int .i64 x.d, .int .i64 x.k, .int .i64 x.x] 25) = w0 := ⟨_, rfl⟩
  rw [hw0] at F0 B0 ⊢
  clear hw0
  go_loopg [6] l.length (fun gk u6 wr => ∃ i : Nat, i ≤ l.length ∧ gk = l.length - i ∧ u6 = .int .i64 i ∧ (∀ j y, j < i → l[j]? = some y → y ≠ x) ∧ Fresh w0 wr)
  case atStart => exact ⟨0, by omega, rfl, rfl, fun j y h => absurd h (by omega), Keep.refl _ _⟩
  case round =>
    obtain ⟨i, hi', rfl, rfl, hb, hF⟩ := hrel
    have HB := Lib.hid hb
    have HF := Lib.hid hF
    have FW := Lib.hid (F0.out.step hF (fun _ _ h => h))
    have cx := (hF.blk_ B0.out).cell
    have lx := (hF.blk_ B0.out).lt
    clear hb hF
    by_cases hlt : i < l.length
    · obtain ⟨y, hy⟩ : ∃ y, l[i]? = some y := ⟨_, List.getElem?_eq_getElem hlt⟩
      obtain ⟨g3, off3, _, hv3, hg3, _, _, hcc⟩ := (HO.out.fresh FW.out).form (by omega)
      injection hv3 with e1 e2 e3
      subst e1 e3
      obtain ⟨y0, y1, y2, y3, y4, y5, y6⟩ := cells_at l i y hy
      have y0 := hcc _ _ y0
      have y1 := hcc _ _ y1
      have y2 := hcc _ _ y2
      have y3 := hcc _ _ y3
      have y4 := hcc _ _ y4
      have y5 := hcc _ _ y5
      have y6 := hcc _ _ y6
      rw [← Nat.add_assoc] at y1 y2 y3 y4 y5 y6
      have HY := Lib.hid hy
      clear hcc hy e2
      cases hq : evB y x
      · have HQ := Lib.hid (show y ≠ x from fun e => by rw [(evB_iff y x).2 e] at hq; cases hq)
        unfold evB at hq
        go_wp2_with fail
        go_quiet (fail)
        go_wp2_with fail
        go_roundg (l.length - (i + 1))
        case measure => omega
        case rel => exact ⟨i + 1, by omega, rfl, by go_num, fun j z hj hz => by
              by_cases hjk : j = i
              · subst hjk
                rw [HY.out] at hz
                injection hz with hz
                rw [← hz]
                exact HQ.out
              · exact HB.out j z (by omega) hz, HF.out.drewN _⟩
      · have HQ := Lib.hid ((evB_iff y x).1 hq)
        unfold evB at hq
        have j1 : (i : Int) ≤ (l.length : Int) := by omega
        have j2 : (l.length : Int) ≤ (c : Int) := by omega
        have j3 : (i : Int) ≤ (c : Int) := by omega
        have j4 : (i : Int) + 1 ≤ (l.length : Int) := by omega
        have j5 : (i : Int) + 1 ≤ (c : Int) := by omega
        have g1 : 0 + i ≤ maxLen := one_le_maxLen (by omega)
        have g2 : (0 + i) * 56 ≤ 140737488355328 := by omega
        have g5 : i + (l.length - (i + 1)) ≤ maxLen := one_le_maxLen (by omega)
        have g6 : (i + (l.length - (i + 1))) * 56 ≤ 140737488355328 := by omega
        have S1 : Hid (∀ W, Fresh wr W → Src W 7 (.slice (some ⟨g3, off3, none⟩) i c) i (cells (l.take i))) := Lib.hid fun W f => by
          have := (((HO.out.fresh FW.out).fresh f).cut (lo := 0) (hi := i) (off' := off3) (by omega) (by omega) (.inl (by omega))).src
          simp only [Nat.zero_mul, List.drop_zero, Nat.sub_zero] at this
          rwa [cells_take] at this
        have FIN : Hid (∀ v6 w6, OwnS w6 25 7 v6 (i + (l.length - (i + 1))) (cells (cutAt l i)) → Fresh wr w6 → (∀ q, v6.ownBlock = some q → wr.heap.size ≤ q) → RTakeP (.slice (some ⟨g3, off3, none⟩) l.length c) l x w (.returned (.tuple #[v6, .bool true])) w6) := Lib.hid fun v6 w6 o6 f6 n6 => .inl ⟨i, v6, by rw [HY.out, HQ.out], rfl, by rw [cutAt_length hlt]; exact o6, FW.out.step f6 (fun _ _ h => h), fun q hq => by have := n6 q hq; have := FW.out.size; omega⟩
        by_cases hck : c = i + 1
        · have HLI := Lib.hid (show l.length = i + 1 by omega)
          have g7 : i + 0 ≤ maxLen := one_le_maxLen (by omega)
          have g8 : (i + 0) * 56 ≤ 140737488355328 := by omega
          subst hck
          go_wp2_with fail
          go_quiet (fail)
          obtain ⟨wq, hwq⟩ : ∃ wq, wr.drewN nq = wq := ⟨_, rfl⟩
          have f2 : Fresh wr wq := hwq ▸ (Keep.refl _ wr).drewN nq
          rw [hwq]
          clear hwq y0 y1 y2 y3 y4 y5 y6 cx
          go_wp2_with (first
            | (at_builtin; refine wpList_append_OwnS _ rfl (.tmp 20) (.tmp 23) 42 rfl 25 i0 (.agg #[.int .i64 0, .int .i64 0, .int .i64 0, .int .i64 0, .int .i64 0, .int .i64 0, .int .i64 0]) 7 56 Try.underlying42 hi hz0 hz1 hz2 rfl h07.out (.slice none 0 0) 0 [] rfl (OwnS.nil _ _ _) (.slice (some ⟨g3, off3, none⟩) i _) i (cells (l.take i)) rfl (S1.out _ f2) (cells_one _) g1 g2 ?_; intro v4 w4 o4 k4 n4; rw [Nat.zero_add, List.nil_append] at o4; obtain ⟨A4, cap4, rfl, hc4, hm4⟩ := o4.shape; have f4 := Keep.step (S := fun _ => False) (f2 : Fresh wr _) (fresh_nil k4) (fun _ _ h => h); have N4 : Hid (∀ q, (Value.slice A4 i cap4).ownBlock = some q → wr.heap.size ≤ q) := Lib.hid (fun q hq => by have h1 := n4 q hq; have h2 := (f2 : Fresh wr _).size; exact h1.elim (fun h => by simp [Value.ownBlock] at h) (fun h => by omega)); have O4 := Lib.hid o4; have F4 := Lib.hid f4; clear o4 k4 n4 f4)
            | (at_builtin; refine wpList_append_OwnS _ rfl (.tmp 25) (.tmp 29) 42 rfl 25 i0 (.agg #[.int .i64 0, .int .i64 0, .int .i64 0, .int .i64 0, .int .i64 0, .int .i64 0, .int .i64 0]) 7 56 Try.underlying42 hi hz0 hz1 hz2 rfl h07.out (.slice A4 i cap4) i (cells (l.take i)) rfl O4.out (.slice (some ⟨g3, off3, none⟩) 0 _) 0 [] rfl ⟨rfl, .inr ⟨_, _, rfl, fun q u h => by simp at h⟩⟩ (fun _ h => by cases h) g7 g8 ?_; intro v6 w6 o6 k6 n6; rw [List.append_nil] at o6; obtain ⟨A6, cap6, rfl, hc6, hm6⟩ := o6.shape; have f6 := F4.out.step k6 (fun q hq e => by have := N4.out q e; omega); have N6 : Hid (∀ q, (Value.slice A6 (i + 0) cap6).ownBlock = some q → wr.heap.size ≤ q) := Lib.hid (fun q hq => by have h1 := n6 q hq; have h2 := F4.out.size; exact h1.elim (fun h => N4.out q h) (fun h => by omega)); have O6 := Lib.hid o6; have F6 := Lib.hid f6; clear o6 k6 n6 f6))
          go_ret2
          exact FIN.out _ _ (by rw [show cutAt l i = l.take i from by unfold cutAt; rw [List.drop_eq_nil_of_le (by have := HLI.out; omega), List.append_nil], show i + (l.length - (i + 1)) = i + 0 by have := HLI.out; omega]; exact O6.out) F6.out N6.out
        · have S3 : Hid (∀ W cc, Fresh wr W → Src W 7 (.slice (some ⟨g3, off3 + (i + 1) * 7, none⟩) (l.length - (i + 1)) cc) (l.length - (i + 1)) (cells (l.drop (i + 1)))) := Lib.hid fun W cc f => by
            have := (((HO.out.fresh FW.out).fresh f).cut (lo := i + 1) (hi := l.length) (off' := off3 + (i + 1) * 7) (by omega) (by omega) (.inl rfl)).src
            rw [cells_drop, List.take_of_length_le (by rw [cells_length, List.length_drop]; omega)] at this
            exact src_cap this
          go_wp2_with fail
          go_quiet (fail)
          obtain ⟨wq, hwq⟩ : ∃ wq, wr.drewN nq = wq := ⟨_, rfl⟩
          have f2 : Fresh wr wq := hwq ▸ (Keep.refl _ wr).drewN nq
          rw [hwq]
          clear hwq y0 y1 y2 y3 y4 y5 y6 cx
          go_wp2_with (first
            | (at_builtin; refine wpList_append_OwnS _ rfl (.tmp 20) (.tmp 23) 42 rfl 25 i0 (.agg #[.int .i64 0, .int .i64 0, .int .i64 0, .int .i64 0, .int .i64 0, .int .i64 0, .int .i64 0]) 7 56 Try.underlying42 hi hz0 hz1 hz2 rfl h07.out (.slice none 0 0) 0 [] rfl (OwnS.nil _ _ _) (.slice (some ⟨g3, off3, none⟩) i _) i (cells (l.take i)) rfl (S1.out _ f2) (cells_one _) g1 g2 ?_; intro v4 w4 o4 k4 n4; rw [Nat.zero_add, List.nil_append] at o4; obtain ⟨A4, cap4, rfl, hc4, hm4⟩ := o4.shape; have f4 := Keep.step (S := fun _ => False) (f2 : Fresh wr _) (fresh_nil k4) (fun _ _ h => h); have N4 : Hid (∀ q, (Value.slice A4 i cap4).ownBlock = some q → wr.heap.size ≤ q) := Lib.hid (fun q hq => by have h1 := n4 q hq; have h2 := (f2 : Fresh wr _).size; exact h1.elim (fun h => by simp [Value.ownBlock] at h) (fun h => by omega)); have O4 := Lib.hid o4; have F4 := Lib.hid f4; clear o4 k4 n4 f4)
            | (at_builtin; refine wpList_append_OwnS _ rfl (.tmp 25) (.tmp 29) 42 rfl 25 i0 (.agg #[.int .i64 0, .int .i64 0, .int .i64 0, .int .i64 0, .int .i64 0, .int .i64 0, .int .i64 0]) 7 56 Try.underlying42 hi hz0 hz1 hz2 rfl h07.out (.slice A4 i cap4) i (cells (l.take i)) rfl O4.out (.slice (some ⟨g3, off3 + (i + 1) * 7, none⟩) (l.length - (i + 1)) _) (l.length - (i + 1)) (cells (l.drop (i + 1))) rfl (S3.out _ _ F4.out) (cells_one _) g5 g6 ?_; intro v6 w6 o6 k6 n6; rw [← cells_append] at o6; obtain ⟨A6, cap6, rfl, hc6, hm6⟩ := o6.shape; have f6 := F4.out.step k6 (fun q hq e => by have := N4.out q e; omega); have N6 : Hid (∀ q, (Value.slice A6 (i + (l.length - (i + 1))) cap6).ownBlock = some q → wr.heap.size ≤ q) := Lib.hid (fun q hq => by have h1 := n6 q hq; have h2 := F4.out.size; exact h1.elim (fun h => N4.out q h) (fun h => by omega)); have O6 := Lib.hid o6; have F6 := Lib.hid f6; clear o6 k6 n6 f6))
          go_ret2
          exact FIN.out _ _ O6.out F6.out N6.out
    · obtain rfl : i = l.length := by omega
      go_wp2_with fail
      go_ret2
      refine .inr ⟨fun hm => ?_, rfl, FW.out⟩
      obtain ⟨j, hj⟩ := List.mem_iff_getElem?.1 hm
      exact HB.out j x (List.getElem?_eq_some_iff.1 hj).1 hj rfl
end Go.Proofs.Ytecobebndjnhnaa
