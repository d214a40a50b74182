/-
  vm.reckon; slices.Clone of messages and of instructions.
-/
import Derived.Test.YtmamgpgigghocaaDoorMay
namespace Go.Proofs.YtmamgpgigghocaaDoor
open Go.RowKit
attribute [local go_sem ↓] Go.wp_at_zero Go.wp_at_succ

theorem reckon_any (op b c : Int) (h : 3 ≤ op ∧ op ≤ 7) (w : World) : Calls Tryd.prog 22 #[.int .i64 op, .int .i64 b, .int .i64 c] w fun e w' => e = .returned (.int .i64 (reck op b c)) ∧ w = w' := by
  have h5 : op = 3 ∨ op = 4 ∨ op = 5 ∨ op = 6 ∨ op = 7 := by omega
  rcases h5 with rfl | rfl | rfl | rfl | rfl
  · go_enter Tryd.func22, Tryd.ntmps22
    go_wp2
    go_returns
    exact ⟨rfl, rfl⟩
  · go_enter Tryd.func22, Tryd.ntmps22
    go_wp2

    go_returns
    exact ⟨rfl, rfl⟩
  · go_enter Tryd.func22, Tryd.ntmps22
    go_wp2
    go_returns
    exact ⟨rfl, rfl⟩
  · by_cases hc : c = 0
    · subst hc
      go_enter Tryd.func22, Tryd.ntmps22
      go_wp2
      go_returns
      exact ⟨rfl, rfl⟩
    · have t1 : (c != 0) = true := by simpa using hc
      have t2 : (c == 0) = false := by simpa using hc
      have e : reck 6 b c = Int.tmod b c := by unfold reck; rw [if_neg (by decide), if_neg (by decide), if_neg (by decide), if_pos rfl, if_neg hc]
      rw [e]
      have HC : Hid (c ≠ 0) := hc
      clear e hc
      go_enter Tryd.func22, Tryd.ntmps22
      go_wp2
      go_returns
      exact ⟨rfl, rfl⟩
  · by_cases hc : b < c
    · have e : reck 7 b c = 1 := by unfold reck; rw [if_neg (by decide), if_neg (by decide), if_neg (by decide), if_neg (by decide), if_pos rfl, if_pos hc]
      rw [e]
      have t1 : decide (b < c) = true := decide_eq_true hc
      clear e hc
      go_enter Tryd.func22, Tryd.ntmps22
      go_wp2
      go_returns
      exact ⟨rfl, rfl⟩
    · have e : reck 7 b c = 0 := by unfold reck; rw [if_neg (by decide), if_neg (by decide), if_neg (by decide), if_neg (by decide), if_pos rfl, if_neg hc]
      rw [e]
      have t1 : decide (b < c) = false := decide_eq_false hc
      clear e hc
      go_enter Tryd.func22, Tryd.ntmps22
      go_wp2
      go_returns
      exact ⟨rfl, rfl⟩

theorem info_parts {e : TypeId} {z : Value} {size bytes : Nat} (h : (Tryd.prog.info? e).map (fun i => (i.zero, i.size, i.bytes)) = some (some z, size, bytes)) : ∃ i, Tryd.prog.info? e = some i ∧ i.zero = some z ∧ i.size = size ∧ i.bytes = bytes := by
  obtain ⟨i, hi, he⟩ := Option.map_eq_some_iff.1 h
  simp only [Prod.mk.injEq] at he
  exact ⟨i, hi, he.1, he.2.1, he.2.2⟩
theorem info_emit : (Tryd.prog.info? 37).map (fun i => (i.zero, i.size, i.bytes)) = some (some (.agg #[.int .i64 0, .int .i64 0, .int .i64 0, .int .i64 0]), 4, 32) := by kernel_rfl
theorem info_instr : (Tryd.prog.info? 41).map (fun i => (i.zero, i.size, i.bytes)) = some (some (.agg #[.int .i64 0, .int .i64 0, .int .i64 0, .int .i64 0, .int .i64 0]), 5, 40) := by kernel_rfl
theorem isNilE (w : World) (a : Option Addr) (n c : Nat) : (binOp .eql 33 (.slice a n c) (.slice none 0 0)).run Tryd.prog w = .ok (.bool a.isNone) w := Lib.run_eql_slice_nil w _ _ a n c 0 0 Tryd.underlying33
theorem isNilI (w : World) (a : Option Addr) (n c : Nat) : (binOp .eql 22 (.slice a n c) (.slice none 0 0)).run Tryd.prog w = .ok (.bool a.isNone) w := Lib.run_eql_slice_nil w _ _ a n c 0 0 Tryd.underlying22
attribute [local go_sem] isNilE isNilI
/-- a slice handed back, new -/
def Given (w w' : World) (e : TypeId) (size n : Nat) (xs : List Value) (v : Value) : Prop := OwnS w' e size v n xs ∧ Fresh w w' ∧ ∀ k, v.ownBlock = some k → w.heap.size ≤ k
theorem cloneE_any (A : Option Addr) (n cap : Nat) (xs : List Value) (w : World) (h : OwnS w 37 4 (.slice A n cap) n xs) (h1 : ∀ u ∈ xs, u.oneCell' = true) (hn : n ≤ 1000000) :
    Calls Tryd.prog 17 #[.slice A n cap] w fun e w' => ∃ v, e = .returned v ∧ Given w w' 37 4 n xs v := by
  rcases h.2 with ⟨h0, h0'⟩ | ⟨g', off, cap', cur, hv, _⟩
  · injection h0 with h0 h2 h3
    subst h0 h2 h3
    have hx : xs = [] := List.eq_nil_of_length_eq_zero (by simpa using h.1)
    subst hx
    clear h
    go_enter Tryd.func17, Tryd.ntmps17
    go_wp2
    go_ret
    exact ⟨_, rfl, OwnS.nil _ _ _, Keep.refl _ _, by simp [Value.ownBlock]⟩
  · injection hv with hv
    subst hv
    have HO := Lib.hid h
    have H1 := Lib.hid h1
    clear h h1
    obtain ⟨i0, hi, hz0, hz1, hz2⟩ := info_parts info_emit
    have h02 : 0 < 4 := by omega
    have hL1 : 0 + n ≤ maxLen := one_le_maxLen (by omega)
    have hL2 : (0 + n) * 32 ≤ 140737488355328 := by omega
    have HN : Hid (OwnS (w.alloc (.cells #[] 37)) 37 4 (.slice (some ⟨w.heap.size, 0, none⟩) 0 0) 0 []) := OwnS.new_ (Blk.at_new rfl _ #[]) rfl (Nat.zero_le _)
    go_enter Tryd.func17, Tryd.ntmps17
    go_wp2_with (at_builtin; refine wpList_append_OwnS _ rfl _ _ 33 rfl 37 i0 (.agg #[.int .i64 0, .int .i64 0, .int .i64 0, .int .i64 0]) 4 32 Tryd.underlying33 hi hz0 hz1 hz2 rfl h02 (.slice (some ⟨w.heap.size, 0, none⟩) 0 0) 0 [] rfl HN.out (.slice (some ⟨g', off, none⟩) n cap) n xs rfl (HO.out.alloc _).src H1.out hL1 hL2 ?_; intro v' w1 ho1 hk1 hat1)
    go_ret
    refine ⟨v', rfl, by simpa using ho1, Keep.step ((Keep.refl _ w).alloc _) hk1 (fun k hk hk' => by simp [Value.ownBlock] at hk'; omega), fun k hk => ?_⟩
    have := hat1 k hk
    simp [Value.ownBlock] at this
    omega
/-- instructions where they lie -/
def Prg (w : World) (A : Option Addr) (P : List Ins) : Prop := ∀ (i : Nat) (x : Ins), P[i]? = some x → ∃ b off, A = some ⟨b, off, none⟩ ∧ b < w.heap.size ∧ ∀ j u, x.vals[j]? = some u → w.cell? ⟨b, off + i * 5 + j, none⟩ = some u
theorem Prg.fresh {w w' : World} {A : Option Addr} {P : List Ins} (h : Prg w A P) (f : Fresh w w') : Prg w' A P := fun i x hx => by
  obtain ⟨b, off, hA, hlt, hc⟩ := h i x hx
  refine ⟨b, off, hA, Nat.lt_of_lt_of_le hlt f.size, fun j u hu => ?_⟩
  have := hc j u hu
  unfold World.cell? at this ⊢
  simp only at this ⊢
  rw [f.block _ hlt (fun h => h)]
  exact this
theorem Prg.take {w : World} {A : Option Addr} {P : List Ins} (h : Prg w A P) (k : Nat) : Prg w A (P.take k) := fun i x hx => by
  rw [List.getElem?_take] at hx
  split at hx
  · exact h i x hx
  · cases hx
theorem Prg.src {w : World} {A : Option Addr} {P : List Ins} (h : Prg w A P) (cap : Nat) : Src w 5 (.slice A P.length cap) P.length (icells P) := by
  refine ⟨icells_length P, ?_⟩
  cases P with
  | nil =>
    cases A with
    | none => exact .inl ⟨_, rfl, rfl⟩
    | some a => exact .inr ⟨_, _, rfl, fun j u hu => by simp [icells] at hu⟩
  | cons x P =>
    obtain ⟨b, off, rfl, _, _⟩ := h 0 x rfl
    refine .inr ⟨_, _, rfl, fun j u hu => ?_⟩
    have hj : j < (icells (x :: P)).length := (List.getElem?_eq_some_iff.1 hu).1
    rw [icells_length] at hj
    have hi : j / 5 < (x :: P).length := by omega
    obtain ⟨b', off', he, _, hc⟩ := h (j / 5) _ (List.getElem?_eq_getElem hi)
    injection he with he
    injection he with e1 e2 _
    subst e1 e2
    have hm : j % 5 < 5 := Nat.mod_lt _ (by omega)
    have hu2 := icells_at (x :: P) (j / 5) _ (List.getElem?_eq_getElem hi) (j % 5)
    have hv : ∃ u', ((x :: P)[j / 5]).vals[j % 5]? = some u' := ⟨_, List.getElem?_eq_getElem (by simp [Ins.vals]; omega)⟩
    obtain ⟨u', hu'⟩ := hv
    have h3 := hu2 u' hu'
    rw [show j / 5 * 5 + j % 5 = j by omega] at h3
    rw [h3] at hu
    injection hu with hu
    subst hu
    have h4 := hc (j % 5) u' hu'
    have : (⟨b, off, none⟩ : Addr).add j = ⟨b, off + j, none⟩ := by unfold Addr.add; split <;> simp_all
    rw [this, show off + j = off + j / 5 * 5 + j % 5 by omega]
    exact h4
theorem cloneI_any (A : Option Addr) (P : List Ins) (cap : Nat) (w : World) (h : Prg w A P) (hn : P.length ≤ 1000000) :
    Calls Tryd.prog 18 #[.slice A P.length cap] w fun e w' => ∃ v, e = .returned v ∧ Given w w' 41 5 P.length (icells P) v := by
  cases A with
  | none =>
    have hp : P = [] := by
      cases P with
      | nil => rfl
      | cons x P => obtain ⟨b, off, h0, _⟩ := h 0 x rfl; cases h0
    subst hp
    clear h
    go_enter Tryd.func18, Tryd.ntmps18
    go_wp2
    go_ret
    exact ⟨_, rfl, OwnS.nil _ _ _, Keep.refl _ _, by simp [Value.ownBlock]⟩
  | some a =>
    have HS : Hid (∀ W, Fresh w W → Src W 5 (.slice (some a) P.length cap) P.length (icells P)) := fun W f => (h.fresh f).src cap
    clear h
    have H1 := Lib.hid (icells_one P)
    obtain ⟨i0, hi, hz0, hz1, hz2⟩ := info_parts info_instr
    have h02 : 0 < 5 := by omega
    have hL1 : 0 + P.length ≤ maxLen := one_le_maxLen (by omega)
    have hL2 : (0 + P.length) * 40 ≤ 140737488355328 := by omega
    have FA : Hid (Fresh w (w.alloc (.cells #[] 41))) := (Keep.refl _ _).alloc _
    have HN : Hid (OwnS (w.alloc (.cells #[] 41)) 41 5 (.slice (some ⟨w.heap.size, 0, none⟩) 0 0) 0 []) := OwnS.new_ (Blk.at_new rfl _ #[]) rfl (Nat.zero_le _)
    go_enter Tryd.func18, Tryd.ntmps18
    go_wp2_with (at_builtin; refine wpList_append_OwnS _ rfl _ _ 22 rfl 41 i0 (.agg #[.int .i64 0, .int .i64 0, .int .i64 0, .int .i64 0, .int .i64 0]) 5 40 Tryd.underlying22 hi hz0 hz1 hz2 rfl h02 (.slice (some ⟨w.heap.size, 0, none⟩) 0 0) 0 [] rfl HN.out (.slice (some a) P.length cap) P.length (icells P) rfl (HS.out _ FA.out) H1.out hL1 hL2 ?_; intro v' w1 ho1 hk1 hat1)
    go_ret
    refine ⟨v', rfl, by simpa using ho1, Keep.step ((Keep.refl _ w).alloc _) hk1 (fun k hk hk' => by simp [Value.ownBlock] at hk'; omega), fun k hk => ?_⟩
    have := hat1 k hk
    simp [Value.ownBlock] at this
    omega
end Go.Proofs.YtmamgpgigghocaaDoor
