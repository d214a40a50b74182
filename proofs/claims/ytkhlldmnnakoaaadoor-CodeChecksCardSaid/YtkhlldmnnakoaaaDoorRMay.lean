/-
  The document's answer: what is wrong with an instruction.
-/
import Derived.Test.YtkhlldmnnakoaaaDoorRWord
import Derived.Test.YtkhlldmnnakoaaaDoorMayZ
namespace Go.Proofs.YtkhlldmnnakoaaaDoor
open Go.RowKit
attribute [local go_sem ↓] Go.wp_at_zero Go.wp_at_succ
/-- does a number fit the kind that stands at its place -/
def fitR (k : Option UInt8) (n : Int) (many : Int) : Bool :=
  match k with
  | none => decide (n = 0)
  | some c => if c = 99 then decide (0 ≤ n ∧ n < 8) else if c = 112 then decide (0 ≤ n ∧ n ≤ many) else if c = 107 then decide (0 ≤ n ∧ n ≤ 255) else true
theorem kinds_cases {op : Int} (h : ¬ (op < 1 ∨ 15 < op)) {i : Nat} (hi : i < 4) : ∀ n many, fitR ((kinds op)[i]?) n many = fitsZ ((ask op).getD i 0) n many := by
  intro n many
  have h4 : i = 0 ∨ i = 1 ∨ i = 2 ∨ i = 3 := by omega
  rcases op_cases h with rfl | rfl | rfl | rfl | rfl | rfl | rfl | rfl | rfl | rfl | rfl | rfl | rfl | rfl | rfl <;> rcases h4 with rfl | rfl | rfl | rfl <;> rfl
theorem kinds_mem {op : Int} (h : ¬ (op < 1 ∨ 15 < op)) : ∀ c ∈ kinds op, c = 99 ∨ c = 112 ∨ c = 107 ∨ c = 110 := by
  rcases op_cases h with rfl | rfl | rfl | rfl | rfl | rfl | rfl | rfl | rfl | rfl | rfl | rfl | rfl | rfl | rfl <;> decide
theorem kinds_len {op : Int} : (kinds op).length = many op := by
  by_cases h : op < 1 ∨ 15 < op
  · unfold kinds many; rw [if_pos h, if_pos h]; rfl
  · rcases op_cases h with rfl | rfl | rfl | rfl | rfl | rfl | rfl | rfl | rfl | rfl | rfl | rfl | rfl | rfl | rfl <;> rfl
theorem word_ne {op : Int} (h : ¬ (op < 1 ∨ 15 < op)) : word op ≠ [] := by
  rcases op_cases h with rfl | rfl | rfl | rfl | rfl | rfl | rfl | rfl | rfl | rfl | rfl | rfl | rfl | rfl | rfl <;> decide
theorem may_fit {x : Ins} {many : Int} (h : ¬ (x.op < 1 ∨ 15 < x.op)) : mayZ x many = if ∀ i, i < 4 → ∀ n, x.nums[i]? = some n → fitR ((kinds x.op)[i]?) n many = true then 0 else 10 := by
  unfold mayZ
  rw [if_neg h]
  obtain ⟨k0, k1, k2, k3, hask⟩ := ask_four x.op
  have h0 := kinds_cases h (i := 0) (by omega)
  have h1 := kinds_cases h (i := 1) (by omega)
  have h2 := kinds_cases h (i := 2) (by omega)
  have h3 := kinds_cases h (i := 3) (by omega)
  rw [hask] at h0 h1 h2 h3 ⊢
  have : (allFitZ many [k0, k1, k2, k3] x.nums = true) ↔ ∀ i, i < 4 → ∀ n, x.nums[i]? = some n → fitR ((kinds x.op)[i]?) n many = true := by
    simp only [allFitZ, Ins.nums, Bool.and_eq_true, Bool.and_true]
    constructor
    · rintro ⟨a0, a1, a2, a3⟩ i hi n hn
      have h4 : i = 0 ∨ i = 1 ∨ i = 2 ∨ i = 3 := by omega
      rcases h4 with rfl | rfl | rfl | rfl <;> simp at hn <;> subst hn
      · rw [h0]; exact a0
      · rw [h1]; exact a1
      · rw [h2]; exact a2
      · rw [h3]; exact a3
    · intro H
      refine ⟨?_, ?_, ?_, ?_⟩
      · rw [← show _ = fitsZ k0 x.a many from h0 _ _]; exact H 0 (by omega) _ rfl
      · rw [← show _ = fitsZ k1 x.b many from h1 _ _]; exact H 1 (by omega) _ rfl
      · rw [← show _ = fitsZ k2 x.c many from h2 _ _]; exact H 2 (by omega) _ rfl
      · rw [← show _ = fitsZ k3 x.d many from h3 _ _]; exact H 3 (by omega) _ rfl
  by_cases hc : allFitZ many [k0, k1, k2, k3] x.nums = true
  · rw [if_pos hc, if_pos (this.1 hc)]
  · rw [if_neg hc, if_neg (fun H => hc (this.2 H))]
theorem fit_next {x : List Int} {k : List UInt8} {many : Int} {q : Nat} (h : ∀ i, i < q → ∀ n, x[i]? = some n → fitR (k[i]?) n many = true) {n : Int} (hn : x[q]? = some n) (hf : fitR (k[q]?) n many = true) : ∀ i, i < q + 1 → ∀ n, x[i]? = some n → fitR (k[i]?) n many = true := by
  intro i hi m hm
  by_cases e : i = q
  · subst e
    rw [hn] at hm
    cases hm
    exact hf
  · exact h i (by omega) m hm
set_option maxRecDepth 100000 in
set_option maxHeartbeats 8000000 in
theorem rmay_anyZ (x : Ins) (many : Int) (w : World) : Calls Tryd.prog 17 #[x.val, .int .i64 many] w fun e w' => e = .returned (.int .i64 (mayZ x many)) ∧ Fresh w w' := by
  have HW := Lib.hid (fun W => rword_any x.op W)
  have HK := Lib.hid (fun W => rkinds_any x.op W)
  have HNU := Lib.hid (fun i W => rnumber_any x i W)
  by_cases hop : x.op < 1 ∨ 15 < x.op
  · have e1 : word x.op = [] := by unfold word; rw [if_pos hop]
    unfold mayZ
    rw [if_pos hop]
    rw [e1] at HW
    clear e1 hop HK HNU
    obtain ⟨op, a, b, c, d⟩ := x
    unfold Ins.val at *
    simp only at HW ⊢
    go_enter Tryd.func17, Tryd.ntmps17
    go_wp2_with (go_at_call 14; refine (HW.out _).mono ?_; rintro e w1 ⟨rfl, f1⟩)
    go_returns
    exact ⟨rfl, ((Keep.refl _ _).alloc _).step f1 (fun _ _ h => h)⟩
  · have HM := Lib.hid (may_fit (x := x) (many := many) hop)
    have hne := word_ne hop
    have t1 : (⟨(word x.op).toArray⟩ : ByteArray).toList.isEmpty = false := by
      rw [Lib.toList_data]
      simpa using hne
    obtain ⟨WB, hWB⟩ : ∃ B, (⟨(word x.op).toArray⟩ : ByteArray) = B := ⟨_, rfl⟩
    obtain ⟨KB, hKB⟩ : ∃ B, (⟨(kinds x.op).toArray⟩ : ByteArray) = B := ⟨_, rfl⟩
    rw [hWB] at HW t1
    rw [hKB] at HK
    have hKs : KB.size = (kinds x.op).length := by rw [← hKB]; simp [ByteArray.size]
    have HN2 : Hid (∀ (q : Nat) (n : Int), x.nums[q]? = some n → ∀ W, Calls Tryd.prog 32 #[x.val, .int .i64 q] W fun e w' => e = .returned (.int .i64 n) ∧ Fresh W w') := Lib.hid fun q n hq W => by
      have := HNU.out q W
      have hlt := (List.getElem?_eq_some_iff.1 hq).1
      have h4 : q = 0 ∨ q = 1 ∨ q = 2 ∨ q = 3 := by simp [Ins.nums] at hlt; omega
      rcases h4 with rfl | rfl | rfl | rfl <;> simp [Ins.nums] at hq <;> subst hq <;> exact this
    clear HNU
    obtain ⟨V, hV⟩ : ∃ V, x.val = V := ⟨_, rfl⟩
    obtain ⟨R, hR⟩ : ∃ R, mayZ x many = R := ⟨_, rfl⟩
    rw [hV] at HN2 ⊢
    rw [hR] at HM ⊢
    obtain ⟨op, a, b, c, d⟩ := x
    unfold Ins.val at *
    subst hV
    clear hWB hne
    have HOP := Lib.hid hop
    have HR := Lib.hid hR
    clear hop hR
    have HKB := Lib.hid hKB
    clear hKB
    go_enter Tryd.func17, Tryd.ntmps17
    go_wp2_with (first
      | (go_at_call 14; refine (HW.out _).mono ?_; rintro e w1 ⟨rfl, f1⟩; have b1 := f1.blk_ (Blk.at_new (by simp) 41 #[.int .i64 op, .int .i64 a, .int .i64 b, .int .i64 c, .int .i64 d] : Blk _ w.heap.size _ _); have F1 := Lib.hid (((Keep.refl _ w).alloc (.cells #[.int .i64 op, .int .i64 a, .int .i64 b, .int .i64 c, .int .i64 d] 41)).step f1 (fun _ _ h => h)); have B1 := Lib.hid b1; have hb1 := b1.cell; have hl1 := b1.lt; clear f1 b1)
      | (go_at_call 15; refine (HK.out _).mono ?_; rintro e w2 ⟨rfl, f2⟩; have b2 := f2.blk_ B1.out; have F2 := Lib.hid (F1.out.step f2 (fun _ _ h => h)); clear hb1 hl1 F1 B1 f2))
    have B2 := Lib.hid b2
    clear b2
    go_loopg [6] 4 (fun gk u wr => ∃ q : Nat, q ≤ 4 ∧ gk = 4 - q ∧ u = .int .i64 q ∧ Fresh w2 wr ∧ Hid (∀ i, i < q → ∀ n, (Ins.mk op a b c d).nums[i]? = some n → fitR ((kinds op)[i]?) n many = true))
    case atStart => exact ⟨0, by omega, rfl, rfl, Keep.refl _ _, Lib.hid (fun i hi => absurd hi (by omega))⟩
    case round =>
      obtain ⟨q, hq, rfl, rfl, hF, HH⟩ := hrel
      have HF := Lib.hid hF
      have b3 := hF.blk_ B2.out
      have hb3 := b3.cell
      have hl3 := b3.lt
      clear hF b3
      by_cases hlt : q < 4
      · have t4 : decide ((q : Int) < 4) = true := decide_eq_true (by omega)
        have t4' : decide (q < 4) = true := decide_eq_true hlt
        have q1 : (q : Int) < 4 := by omega
        obtain ⟨n, hn⟩ : ∃ n, (Ins.mk op a b c d).nums[q]? = some n := ⟨_, List.getElem?_eq_getElem (by simpa [Ins.nums] using hlt)⟩
        have HN := Lib.hid hn
        have HNC := Lib.hid (HN2.out q n hn)
        have F0 : Hid ((kinds op).length ≤ q → fitR ((kinds op)[q]?) n many = decide (n = 0)) := Lib.hid fun h => by
          rw [List.getElem?_eq_none h]; rfl
        have FA : ∀ h : q < KB.size, (kinds op)[q]? = some (KB[q]'h) := fun h => by
          have hh : q < (kinds op).length := by omega
          rw [List.getElem?_eq_getElem hh]
          congr 1
          have := HKB.out
          subst this
          rfl
        have F99 : Hid (∀ h : q < KB.size, ((KB[q]'h).toNat : Int) = 99 → fitR ((kinds op)[q]?) n many = decide (0 ≤ n ∧ n < 8)) := Lib.hid fun h e => by
          rw [FA h]
          have e2 : (KB[q]'h) = 99 := UInt8.toNat_inj.1 (by rw [show (99 : UInt8).toNat = 99 from rfl]; omega)
          rw [e2]; rfl
        have F112 : Hid (∀ h : q < KB.size, ((KB[q]'h).toNat : Int) = 112 → fitR ((kinds op)[q]?) n many = decide (0 ≤ n ∧ n ≤ many)) := Lib.hid fun h e => by
          rw [FA h]
          have e2 : (KB[q]'h) = 112 := UInt8.toNat_inj.1 (by rw [show (112 : UInt8).toNat = 112 from rfl]; omega)
          rw [e2]; rfl
        have F107 : Hid (∀ h : q < KB.size, ((KB[q]'h).toNat : Int) = 107 → fitR ((kinds op)[q]?) n many = decide (0 ≤ n ∧ n ≤ 255)) := Lib.hid fun h e => by
          rw [FA h]
          have e2 : (KB[q]'h) = 107 := UInt8.toNat_inj.1 (by rw [show (107 : UInt8).toNat = 107 from rfl]; omega)
          rw [e2]; rfl
        have FN : Hid (∀ h : q < KB.size, ¬ ((KB[q]'h).toNat : Int) = 99 → ¬ ((KB[q]'h).toNat : Int) = 112 → ¬ ((KB[q]'h).toNat : Int) = 107 → fitR ((kinds op)[q]?) n many = true) := Lib.hid fun h e1 e2 e3 => by
          rw [FA h]
          unfold fitR
          simp only
          rw [if_neg (fun e => e1 (by rw [e]; rfl)), if_neg (fun e => e2 (by rw [e]; rfl)), if_neg (fun e => e3 (by rw [e]; rfl))]
        have HBAD : Hid (fitR ((kinds op)[q]?) n many = false → R = 10) := Lib.hid fun h => by
          rw [HM.out, if_neg]
          intro H
          rw [H q hlt n hn] at h
          cases h
        clear hn FA
        go_wp2_with (go_at_call 32; refine (HNC.out _).mono ?_; rintro e w3 ⟨rfl, f3⟩)
        all_goals first
          | (go_roundg (4 - (q + 1))
             case measure => omega
             case rel =>
               refine ⟨q + 1, by omega, rfl, by go_num, HF.out.step f3 (fun _ _ h => h), Lib.hid (fit_next HH.out HN.out ?_)⟩
               first
                 | (refine (F0.out ?_).trans ?_; assumption; refine decide_eq_true (bne_eq_false_iff_eq.1 ?_); assumption; done)
                 | (refine (F99.out ?_ ?_).trans ?_; rotate_left 1; assumption; refine decide_eq_true ?_; omega; done)
                 | (refine (F112.out ?_ ?_).trans ?_; rotate_left 1; assumption; refine decide_eq_true ?_; omega; done)
                 | (refine (F107.out ?_ ?_).trans ?_; rotate_left 1; assumption; refine decide_eq_true ?_; omega; done)
                 | (refine FN.out ?_ ?_ ?_ ?_; rotate_left 1; assumption; assumption; assumption; done))
          | (have hbad : fitR ((kinds op)[q]?) n many = false := by
               clear HW HK HN2 HM
               first
                 | (refine (F0.out ?_).trans ?_; assumption; refine decide_eq_false (bne_iff_ne.1 ?_); assumption; done)
                 | (refine (F99.out ?_ ?_).trans ?_; rotate_left 1; assumption; refine decide_eq_false ?_; omega; done)
                 | (refine (F112.out ?_ ?_).trans ?_; rotate_left 1; assumption; refine decide_eq_false ?_; omega; done)
                 | (refine (F107.out ?_ ?_).trans ?_; rotate_left 1; assumption; refine decide_eq_false ?_; omega; done)
             have hR := HBAD.out hbad
             go_returns
             exact ⟨by rw [hR]; rfl, F2.out.step (HF.out.step f3 (fun _ _ h => h)) (fun _ _ h => h)⟩)
      · obtain rfl : q = 4 := by omega
        have hR : R = 0 := by
          rw [HM.out, if_pos HH.out]
        subst hR
        go_wp2_with fail
        go_returns
        exact ⟨rfl, F2.out.step HF.out (fun _ _ h => h)⟩
theorem rmay_any (x : Ins) (many : Nat) (w : World) : Calls Tryd.prog 17 #[x.val, .int .i64 many] w fun e w' => e = .returned (.int .i64 (mayE x many)) ∧ Fresh w w' := by
  rw [← mayZ_nat]
  exact rmay_anyZ x many w
end Go.Proofs.YtkhlldmnnakoaaaDoor
