/- CodeParts returns true at every input: a program without places is one just if each part of it is, and its text is those of its parts, one behind the other. No conditions. -/
import Derived.Test.YtkhlldmnnakoaaaDoorPartsC
import Derived.Test.YtkhlldmnnakoaaaDoorRegS
import Derived.Deep.DeepCutAuto
namespace Go.Proofs.YtkhlldmnnakoaaaDoor
open Go.RowKit
attribute [local go_sem ↓] Go.wp_at_zero Go.wp_at_succ

def slA (A : Option Addr) (m l : Nat) : Option Addr := if m = l then A else A.map (·.add (l * 5))
theorem sl_prg {w : World} {A : Option Addr} {P : List Ins} (h : Prg w A P) {m l : Nat} (hm : m = l → P.length ≤ l ∨ l = 0) : Prg w (slA A m l) (P.drop l) := by
  unfold slA
  by_cases e : m = l
  · rw [if_pos e]
    rcases hm e with h1 | h1
    · rw [List.drop_eq_nil_of_le h1]
      intro i x hx
      simp at hx
    · rw [h1, List.drop_zero]
      exact h
  · rw [if_neg e]
    intro i x hx
    obtain ⟨b, off, rfl, _, _⟩ := h (l + i) x (by rw [List.getElem?_drop] at hx; exact hx)
    have e1 : (⟨b, off, none⟩ : Addr).add (l * 5) = ⟨b, off + l * 5, none⟩ := by unfold Addr.add; split <;> simp_all
    rw [Option.map_some, e1]
    exact h.drop_ l i x hx
theorem run_sl_h (A : Option Addr) (n c k : Nat) (hk : k ≤ c) (w : World) : (Instr.slice 22 (.slice A n c) none (some (.int .i64 (k : Int))) none).run Tryd.prog w = .ok (.slice (slA A c 0) k c) w := by
  rw [run_slice_h w 22 A n c (by kernel_rfl) .i64 (k : Int) (by omega) (by omega)]
  rw [show Tryd.prog.elem 22 = 34 by kernel_rfl, Tryd.sizeOf34 w]
  simp [Result.andThen, sliced, slA]
theorem run_sl_l (A : Option Addr) (n c k : Nat) (hk : k ≤ n) (w : World) : (Instr.slice 22 (.slice A n c) (some (.int .i64 (k : Int))) none none).run Tryd.prog w = .ok (.slice (slA A c k) (n - k) (c - k)) w := by
  rw [run_slice_l w 22 A n c (by kernel_rfl) .i64 (k : Int) (by omega) (by omega)]
  rw [show Tryd.prog.elem 22 = 34 by kernel_rfl, Tryd.sizeOf34 w]
  simp [Result.andThen, sliced, slA]
def placeB (x : Ins) : Bool := decide (x.op = 8) || decide (x.op = 9)
set_option maxRecDepth 100000 in
set_option maxHeartbeats 4000000 in
theorem parts_no (A : Option Addr) (n c : Nat) (at_ : Int) (w : World) (hT : Tabs w) (hn : n ≤ 9223372036854775807) (h : 64 < n ∨ at_ < 0 ∨ (n : Int) < at_) : Law Tryd.prog 6 #[.slice A n c, .int .i64 at_] w := by
  have HT := Lib.hid hT
  by_cases h64 : 64 < n
  · have t1 : decide ((64 : Int) < (n : Int)) = true := decide_eq_true (by omega)
    have t1' : decide (64 < n) = true := decide_eq_true h64
    clear hT h h64
    go_enter Tryd.func6, Tryd.ntmps6
    go_wp2_with (go_at_call 8; refine (awake_any _ HT.out).mono ?_; rintro e w2 ⟨rfl, f2⟩)
    go_ret
    exact ⟨rfl, Fresh.below_ f2 (Nat.le_refl _)⟩
  · have t1 : decide ((64 : Int) < (n : Int)) = false := decide_eq_false (by omega)
    have t1' : decide (64 < n) = false := decide_eq_false h64
    by_cases h0 : at_ < 0
    · have t2 : decide (at_ < 0) = true := decide_eq_true h0
      clear hT h h64 h0
      go_enter Tryd.func6, Tryd.ntmps6
      go_wp2_with (go_at_call 8; refine (awake_any _ HT.out).mono ?_; rintro e w2 ⟨rfl, f2⟩)
      go_ret
      exact ⟨rfl, Fresh.below_ f2 (Nat.le_refl _)⟩
    · have t2 : decide (at_ < 0) = false := decide_eq_false h0
      have t3 : decide ((n : Int) < at_) = true := decide_eq_true (by omega)
      clear hT h h64 h0
      go_enter Tryd.func6, Tryd.ntmps6
      go_wp2_with (go_at_call 8; refine (awake_any _ HT.out).mono ?_; rintro e w2 ⟨rfl, f2⟩)
      go_ret
      exact ⟨rfl, Fresh.below_ f2 (Nat.le_refl _)⟩
set_option maxRecDepth 100000 in
set_option maxHeartbeats 8000000 in
theorem parts_ok (A : Option Addr) (P : List Ins) (c k : Nat) (w : World) (hT : Tabs w) (hP : Prg w A P) (hin : ∀ x ∈ P, x.In) (hn : P.length ≤ 64) (hc : P.length ≤ c) (hk : k ≤ P.length) : Law Tryd.prog 6 #[.slice A P.length c, .int .i64 k] w := by
  have HT := Lib.hid hT
  have HP := Lib.hid hP
  have HI := Lib.hid hin
  have t1 : decide ((64 : Int) < (P.length : Int)) = false := decide_eq_false (by omega)
  have t1' : decide (64 < P.length) = false := decide_eq_false (by omega)
  have t2 : decide ((k : Int) < 0) = false := decide_eq_false (by omega)
  have t3 : decide ((P.length : Int) < (k : Int)) = false := decide_eq_false (by omega)
  have t3' : decide (P.length < k) = false := decide_eq_false (by omega)
  have hkc : k ≤ c := by omega
  have sl1 := run_sl_h A P.length c k hkc
  have sl2 := run_sl_l A P.length c k hk
  have HP1 : Hid (Prg w (slA A c 0) (P.take k)) := Lib.hid (by
    have := (sl_prg hP (m := c) (l := 0) (fun _ => .inr rfl)).take k
    simpa using this)
  have HP2 : Hid (Prg w (slA A c k) (P.drop k)) := Lib.hid (sl_prg hP (fun e => .inl (by omega)))
  have hi1 : ∀ x ∈ P.take k, x.In := fun x hx => hin x (List.mem_of_mem_take hx)
  have hi2 : ∀ x ∈ P.drop k, x.In := fun x hx => hin x (List.mem_of_mem_drop hx)
  have hl1 : (P.take k).length = k := by rw [List.length_take]; omega
  have hl2 : (P.drop k).length = P.length - k := List.length_drop
  have CALLS : Hid (∀ (B : Option Addr) (Q : List Ins) (d m : Nat), Prg w B Q → (∀ x ∈ Q, x.In) → Q.length = m → m ≤ 64 → ∀ W, Fresh w W →
      Calls Tryd.prog 18 #[.slice B m d] W (fun e w' => e = .returned (.tuple #[.int .i64 ((checkP Q).1 : Nat), .int .i64 (checkP Q).2]) ∧ Fresh W w') ∧
      Calls Tryd.prog 9 #[.slice B m d] W (fun e w' => e = .returned (.tuple #[.string (str (printP Q).1), .int .i64 (checkP Q).2]) ∧ Fresh W w') ∧
      Calls Tryd.prog 20 #[.slice B m d] W (fun e w' => e = .returned (.int .i64 (sendsP Q : Nat)) ∧ Fresh W w')) := Lib.hid fun B Q d m hb hq hm hm64 W f => by
    subst hm
    have a2 := print_any B Q d W (hb.fresh f) (by omega) (HT.out.fresh f) hq
    rw [print2_eq] at a2
    exact ⟨check_any B Q d W (hb.fresh f) (by omega) (HT.out.fresh f).nums, a2, sends_any B Q d W (hb.fresh f) (by omega)⟩
  have K0 := Lib.hid (CALLS.out A P c P.length hP hin rfl hn)
  have K1 := Lib.hid (CALLS.out (slA A c 0) (P.take k) c k HP1.out hi1 hl1 (by omega))
  have K2 := Lib.hid (CALLS.out (slA A c k) (P.drop k) (c - k) (P.length - k) HP2.out hi2 hl2 (by omega))
  have HSN := Lib.hid (parts_sends P k)
  have HVL := Lib.hid (check_vals (P.take k))
  have HIFF := Lib.hid (fun h => parts_iff hn h k)
  have HPR : Hid ((checkP P).2 = 0 → (checkP (P.take k)).2 = 0 → (checkP (P.drop k)).2 = 0 → (printP P).1 = (printP (P.take k)).1 ++ (printP (P.drop k)).1) := Lib.hid fun h0 h1 h2 => by
    rw [print_of h0, print_of h1, print_of h2]
    exact parts_print P k
  have HL1 : Hid ((printP (P.take k)).1.length ≤ 6000) := Lib.hid (by
    have := print_len hi1
    unfold printP
    split
    · simp
    · simp only; omega)
  have HL2 : Hid ((printP (P.drop k)).1.length ≤ 6000) := Lib.hid (by
    have := print_len hi2
    unfold printP
    split
    · simp
    · simp only; omega)
  have hs1 := sendsP_le (P.take k)
  have hs2 := sendsP_le (P.drop k)
  rw [hl1] at hs1
  rw [hl2] at hs2
  clear hT hP hin hi1 hi2 hl1 hl2 CALLS HP1 HP2
  go_enter Tryd.func6, Tryd.ntmps6
  go_wp2_with fail
  go_loopg [5] P.length (fun gk u wr => ∃ q : Nat, q ≤ P.length ∧ gk = P.length - q ∧ u = .int .i64 q ∧ Fresh w wr ∧ Hid (∀ x ∈ P.take q, x.op ≠ 8 ∧ x.op ≠ 9))
  case atStart => exact ⟨0, by omega, rfl, rfl, Keep.refl _ _, Lib.hid (by simp)⟩
  case round =>
    obtain ⟨q, hq, rfl, rfl, hF, HN⟩ := hrel
    have HF := Lib.hid hF
    clear t1 t1' t2 t3 t3'
    by_cases hlt : q < P.length
    · obtain ⟨⟨op, a, b, c', d⟩, hx⟩ : ∃ x, P[q]? = some x := ⟨_, List.getElem?_eq_getElem hlt⟩
      have HN2 : Hid (op ≠ 8 → op ≠ 9 → ∀ x ∈ P.take (q + 1), x.op ≠ 8 ∧ x.op ≠ 9) := Lib.hid (fun h8 h9 x hm => by
        rw [List.take_add_one, hx] at hm
        rcases List.mem_append.1 hm with hm | hm
        · exact HN.out x hm
        · simp at hm
          subst hm
          exact ⟨h8, h9⟩)
      obtain ⟨g, off, hA, lt, c0, _⟩ := (HP.out.fresh hF).five hx
      have t4 : decide ((q : Int) < (P.length : Int)) = true := decide_eq_true (by omega)
      have t4' : decide (q < P.length) = true := decide_eq_true hlt
      have q1 : (q : Int) < (P.length : Int) := by omega
      subst hA
      clear hF hx sl1 sl2
      by_cases h8 : op = 8
      · have t5 : (op == 8) = true := by simp [h8]
        clear h8
        go_wp2_with (go_at_call 8; refine (awake_any _ (HT.out.fresh HF.out)).mono ?_; rintro e w2 ⟨rfl, f2⟩)
        go_ret
        exact ⟨rfl, Fresh.below_ (HF.out.step f2 (fun _ _ h => h)) (Nat.le_refl _)⟩
      · have t5 : (op == 8) = false := by simp [h8]
        have h8' := Lib.hid h8
        clear h8
        by_cases h9 : op = 9
        · have t6 : (op == 9) = true := by simp [h9]
          clear h9
          go_wp2_with (go_at_call 8; refine (awake_any _ (HT.out.fresh HF.out)).mono ?_; rintro e w2 ⟨rfl, f2⟩)
          go_ret
          exact ⟨rfl, Fresh.below_ (HF.out.step f2 (fun _ _ h => h)) (Nat.le_refl _)⟩
        · have t6 : (op == 9) = false := by simp [h9]
          have h9' := Lib.hid h9
          clear h9
          go_wp2_with fail
          go_roundg (P.length - (q + 1))
          case measure => omega
          case rel => exact ⟨q + 1, by omega, rfl, by go_num, HF.out, Lib.hid (HN2.out h8'.out h9'.out)⟩
    · obtain rfl : q = P.length := by omega
      have hno : ∀ x ∈ P, x.op ≠ 8 ∧ x.op ≠ 9 := by
        have := HN.out
        rw [List.take_length] at this
        exact this
      have hiff := HIFF.out hno
      have t4 : decide ((P.length : Int) < (P.length : Int)) = false := decide_eq_false (by omega)
      obtain ⟨N0, hN0⟩ : ∃ N0, (checkP P).1 = N0 := ⟨_, rfl⟩
      obtain ⟨N1, hN1⟩ : ∃ N1, (checkP (P.take k)).1 = N1 := ⟨_, rfl⟩
      obtain ⟨N2, hN2⟩ : ∃ N2, (checkP (P.drop k)).1 = N2 := ⟨_, rfl⟩
      obtain ⟨E0, hE0⟩ : ∃ E0, (checkP P).2 = E0 := ⟨_, rfl⟩
      obtain ⟨E1, hE1⟩ : ∃ E1, (checkP (P.take k)).2 = E1 := ⟨_, rfl⟩
      obtain ⟨E2, hE2⟩ : ∃ E2, (checkP (P.drop k)).2 = E2 := ⟨_, rfl⟩
      obtain ⟨T0, hT0⟩ : ∃ T0, (printP P).1 = T0 := ⟨_, rfl⟩
      obtain ⟨T1, hT1⟩ : ∃ T1, (printP (P.take k)).1 = T1 := ⟨_, rfl⟩
      obtain ⟨T2, hT2⟩ : ∃ T2, (printP (P.drop k)).1 = T2 := ⟨_, rfl⟩
      obtain ⟨S0, hS0⟩ : ∃ S0, sendsP P = S0 := ⟨_, rfl⟩
      obtain ⟨S1, hS1⟩ : ∃ S1, sendsP (P.take k) = S1 := ⟨_, rfl⟩
      obtain ⟨S2, hS2⟩ : ∃ S2, sendsP (P.drop k) = S2 := ⟨_, rfl⟩
      simp only [hN0, hE0, hT0, hS0] at K0
      simp only [hN1, hE1, hT1, hS1] at K1
      simp only [hN2, hE2, hT2, hS2] at K2
      rw [hE0, hE1, hE2, hT0, hT1, hT2] at HPR
      rw [hE0, hE1, hE2] at hiff
      rw [hE1] at HVL
      rw [hT1] at HL1
      rw [hT2] at HL2
      rw [hS0, hS1, hS2] at HSN
      rw [hS1] at hs1
      rw [hS2] at hs2
      obtain ⟨A1, hA1⟩ : ∃ A1, slA A c 0 = A1 := ⟨_, rfl⟩
      obtain ⟨A2, hA2⟩ : ∃ A2, slA A c k = A2 := ⟨_, rfl⟩
      have HA1 := Lib.hid hA1
      have HA2 := Lib.hid hA2
      rw [hA1] at K1
      rw [hA2] at K2
      simp only [hA1] at sl1
      simp only [hA2] at sl2
      have hwS : IntKind.i64.wrap ((S1 : Int) + (S2 : Int)) = (S1 : Int) + (S2 : Int) := IntWalk.i64_in _ (by omega)
      have hSS := HSN.out
      have tS : ((S0 : Int) == (S1 : Int) + (S2 : Int)) = true := by rw [beq_iff_eq]; omega
      have HIF := Lib.hid hiff
      clear hno hiff hN0 hN1 hN2 hE0 hE1 hE2 hT0 hT1 hT2 hS0 hS1 hS2 hA1 hA2 hF HIFF HN HP HI hs1 hs2 hSS
      go_upto_region 11 with (go_at_call 18; (first
          | (with_reducible refine (K0.out _ HF.out).1.mono ?_; rintro e w8 ⟨rfl, f8⟩; have F8 := Lib.hid (HF.out.step f8 (fun _ _ h => h)); clear f8)
          | (with_reducible refine (K1.out _ F8.out).1.mono ?_; rintro e w9 ⟨rfl, f9⟩; have F9 := Lib.hid (F8.out.step f9 (fun _ _ h => h)); clear f9)
          | (with_reducible refine (K2.out _ F9.out).1.mono ?_; rintro e w10 ⟨rfl, f10⟩; have F10 := Lib.hid (F9.out.step f10 (fun _ _ h => h)); clear f10)))
      have KS0 : Hid (∀ W, Fresh w10 W → Calls Tryd.prog 20 #[.slice A P.length c] W (fun e w' => e = .returned (.int .i64 (S0 : Nat)) ∧ Fresh W w')) := Lib.hid fun W f => (K0.out W (F10.out.step f (fun _ _ h => h))).2.2
      have KS1 : Hid (∀ W, Fresh w10 W → Calls Tryd.prog 20 #[.slice A1 k c] W (fun e w' => e = .returned (.int .i64 (S1 : Nat)) ∧ Fresh W w')) := Lib.hid fun W f => (K1.out W (F10.out.step f (fun _ _ h => h))).2.2
      have KS2 : Hid (∀ W, Fresh w10 W → Calls Tryd.prog 20 #[.slice A2 (P.length - k) (c - k)] W (fun e w' => e = .returned (.int .i64 (S2 : Nat)) ∧ Fresh W w')) := Lib.hid fun W f => (K2.out W (F10.out.step f (fun _ _ h => h))).2.2
      by_cases he : E0 = 0
      · obtain ⟨rfl, rfl⟩ := HIF.out.1 he
        subst he
        have hT0 := HPR.out rfl rfl rfl
        subst hT0
        have hcat : ∀ W, (Op.stringOp .add (str T1) (str T2)).run Tryd.prog W = .ok (.string (str (T1 ++ T2))) W := fun W => run_string_add_lists W T1 T2 (by have := HL1.out; omega) (by have := HL2.out; omega)
        have heq : ((str (T1 ++ T2)).toList == (str (T1 ++ T2)).toList) = true := by simp
        obtain ⟨B1, hB1⟩ : ∃ B1, str T1 = B1 := ⟨_, rfl⟩
        obtain ⟨B2, hB2⟩ : ∃ B2, str T2 = B2 := ⟨_, rfl⟩
        obtain ⟨B3, hB3⟩ : ∃ B3, str (T1 ++ T2) = B3 := ⟨_, rfl⟩
        simp only [hB1, hB2, hB3] at hcat heq K0 K1 K2
        clear hB1 hB2 hB3 HL1 HL2 HPR HIF
        go_region_held3 (fun W' => Fresh w10 W') (exact (fun (f : Fresh w10 _) => f) (by (repeat (first | (with_reducible exact Keep.refl _ _) | (with_reducible assumption) | (with_reducible refine Keep.drew ?_) | (with_reducible refine Keep.drewN ?_ _) | (with_reducible refine Keep.alloc ?_ _) | (with_reducible refine Keep.setCell ?_ ?_ _) | (with_reducible refine fun _ => rfl))))) ((go_at_call 20; (first
            | (with_reducible refine (KS0.out _ (by (repeat (first | (with_reducible exact Keep.refl _ _) | (with_reducible assumption) | (with_reducible refine Keep.drew ?_) | (with_reducible refine Keep.drewN ?_ _) | (with_reducible refine Keep.alloc ?_ _) | (with_reducible refine Keep.setCell ?_ ?_ _) | (with_reducible refine fun _ => rfl))))).mono ?_; rintro e w11 ⟨rfl, f11⟩; have g11 := Keep.step (S := fun _ => False) (by (repeat (first | (with_reducible exact Keep.refl _ _) | (with_reducible assumption) | (with_reducible refine Keep.drew ?_) | (with_reducible refine Keep.drewN ?_ _) | (with_reducible refine Keep.alloc ?_ _) | (with_reducible refine Keep.setCell ?_ ?_ _) | (with_reducible refine fun _ => rfl))) : Fresh w10 _) f11 (fun _ _ h => h))
            | (with_reducible refine (KS1.out _ (by (repeat (first | (with_reducible exact Keep.refl _ _) | (with_reducible assumption) | (with_reducible refine Keep.drew ?_) | (with_reducible refine Keep.drewN ?_ _) | (with_reducible refine Keep.alloc ?_ _) | (with_reducible refine Keep.setCell ?_ ?_ _) | (with_reducible refine fun _ => rfl))))).mono ?_; rintro e w12 ⟨rfl, f12⟩; have g12 := Keep.step (S := fun _ => False) (by (repeat (first | (with_reducible exact Keep.refl _ _) | (with_reducible assumption) | (with_reducible refine Keep.drew ?_) | (with_reducible refine Keep.drewN ?_ _) | (with_reducible refine Keep.alloc ?_ _) | (with_reducible refine Keep.setCell ?_ ?_ _) | (with_reducible refine fun _ => rfl))) : Fresh w10 _) f12 (fun _ _ h => h))
            | (with_reducible refine (KS2.out _ (by (repeat (first | (with_reducible exact Keep.refl _ _) | (with_reducible assumption) | (with_reducible refine Keep.drew ?_) | (with_reducible refine Keep.drewN ?_ _) | (with_reducible refine Keep.alloc ?_ _) | (with_reducible refine Keep.setCell ?_ ?_ _) | (with_reducible refine fun _ => rfl))))).mono ?_; rintro e w13 ⟨rfl, f13⟩; have g13 := Keep.step (S := fun _ => False) (by (repeat (first | (with_reducible exact Keep.refl _ _) | (with_reducible assumption) | (with_reducible refine Keep.drew ?_) | (with_reducible refine Keep.drewN ?_ _) | (with_reducible refine Keep.alloc ?_ _) | (with_reducible refine Keep.setCell ?_ ?_ _) | (with_reducible refine fun _ => rfl))) : Fresh w10 _) f13 (fun _ _ h => h)))))
        have F13 := Lib.hid (F10.out.step g13 (fun _ _ h => h))
        clear sl1 sl2 g11 g12 g13 f11 f12 f13
        have sl1 := run_sl_h A P.length c k hkc
        have sl2 := run_sl_l A P.length c k hk
        simp only [HA1.out] at sl1
        simp only [HA2.out] at sl2
        go_wp2_with (first
          | (go_at_call 9; (first
              | (with_reducible refine (K0.out _ F13.out).2.1.mono ?_; rintro e w14 ⟨rfl, f14⟩; have F14 := Lib.hid (F13.out.step f14 (fun _ _ h => h)); clear f14)
              | (with_reducible refine (K1.out _ F14.out).2.1.mono ?_; rintro e w15 ⟨rfl, f15⟩; have F15 := Lib.hid (F14.out.step f15 (fun _ _ h => h)); clear f15)
              | (with_reducible refine (K2.out _ F15.out).2.1.mono ?_; rintro e w16 ⟨rfl, f16⟩; have F16 := Lib.hid (F15.out.step f16 (fun _ _ h => h)); clear f16)))
          | (go_at_call 8; refine (awake_any _ (HT.out.fresh F16.out)).mono ?_; rintro e w17 ⟨rfl, f17⟩))
        go_ret
        exact ⟨rfl, Fresh.below_ (F16.out.step f17 (fun _ _ h => h)) (Nat.le_refl _)⟩
      · have te : (E0 == 0) = false := by simpa using he
        have he' := he
        have hor := fun h => he (HIF.out.2 h)
        have HOR := Lib.hid hor
        clear he hor HPR HL1 HL2 HIF
        by_cases h1 : E1 = 0
        · have h2 : E2 ≠ 0 := fun h2 => HOR.out ⟨h1, h2⟩
          subst h1
          have te2 : (E2 == 0) = false := by simpa using h2
          clear HOR
          go_region_held3 (fun W' => Fresh w10 W') (exact (fun (f : Fresh w10 _) => f) (by (repeat (first | (with_reducible exact Keep.refl _ _) | (with_reducible assumption) | (with_reducible refine Keep.drew ?_) | (with_reducible refine Keep.drewN ?_ _) | (with_reducible refine Keep.alloc ?_ _) | (with_reducible refine Keep.setCell ?_ ?_ _) | (with_reducible refine fun _ => rfl))))) ((go_at_call 20; (first
              | (with_reducible refine (KS0.out _ (by (repeat (first | (with_reducible exact Keep.refl _ _) | (with_reducible assumption) | (with_reducible refine Keep.drew ?_) | (with_reducible refine Keep.drewN ?_ _) | (with_reducible refine Keep.alloc ?_ _) | (with_reducible refine Keep.setCell ?_ ?_ _) | (with_reducible refine fun _ => rfl))))).mono ?_; rintro e w11 ⟨rfl, f11⟩; have g11 := Keep.step (S := fun _ => False) (by (repeat (first | (with_reducible exact Keep.refl _ _) | (with_reducible assumption) | (with_reducible refine Keep.drew ?_) | (with_reducible refine Keep.drewN ?_ _) | (with_reducible refine Keep.alloc ?_ _) | (with_reducible refine Keep.setCell ?_ ?_ _) | (with_reducible refine fun _ => rfl))) : Fresh w10 _) f11 (fun _ _ h => h))
              | (with_reducible refine (KS1.out _ (by (repeat (first | (with_reducible exact Keep.refl _ _) | (with_reducible assumption) | (with_reducible refine Keep.drew ?_) | (with_reducible refine Keep.drewN ?_ _) | (with_reducible refine Keep.alloc ?_ _) | (with_reducible refine Keep.setCell ?_ ?_ _) | (with_reducible refine fun _ => rfl))))).mono ?_; rintro e w12 ⟨rfl, f12⟩; have g12 := Keep.step (S := fun _ => False) (by (repeat (first | (with_reducible exact Keep.refl _ _) | (with_reducible assumption) | (with_reducible refine Keep.drew ?_) | (with_reducible refine Keep.drewN ?_ _) | (with_reducible refine Keep.alloc ?_ _) | (with_reducible refine Keep.setCell ?_ ?_ _) | (with_reducible refine fun _ => rfl))) : Fresh w10 _) f12 (fun _ _ h => h))
              | (with_reducible refine (KS2.out _ (by (repeat (first | (with_reducible exact Keep.refl _ _) | (with_reducible assumption) | (with_reducible refine Keep.drew ?_) | (with_reducible refine Keep.drewN ?_ _) | (with_reducible refine Keep.alloc ?_ _) | (with_reducible refine Keep.setCell ?_ ?_ _) | (with_reducible refine fun _ => rfl))))).mono ?_; rintro e w13 ⟨rfl, f13⟩; have g13 := Keep.step (S := fun _ => False) (by (repeat (first | (with_reducible exact Keep.refl _ _) | (with_reducible assumption) | (with_reducible refine Keep.drew ?_) | (with_reducible refine Keep.drewN ?_ _) | (with_reducible refine Keep.alloc ?_ _) | (with_reducible refine Keep.setCell ?_ ?_ _) | (with_reducible refine fun _ => rfl))) : Fresh w10 _) f13 (fun _ _ h => h)))))
          go_wp2_with (go_at_call 8; refine (awake_any _ (HT.out.fresh (F10.out.step g13 (fun _ _ h => h)))).mono ?_; rintro e w14 ⟨rfl, f14⟩)
          go_ret
          exact ⟨rfl, Fresh.below_ ((F10.out.step g13 (fun _ _ h => h)).step f14 (fun _ _ h => h)) (Nat.le_refl _)⟩
        · have te1 : (E1 == 0) = false := by simpa using h1
          clear HOR
          go_wp2_with fail
          have DR : Hid (Fresh w10 w10.drew) := Lib.hid (Keep.refl _ w10).drew
          refine region_T (S := fun W' => Fresh w10 W') (T := []) (by kernel_rfl) ?_
          refine anyT_take (i := 0) (oi := _) (v := ?vp0) rfl (by kernel_rfl) (by kernel_rfl) (by kernel_rfl) (by kernel_rfl) (fun _ _ _ h => h) (Or.inl ⟨by rfl, ?hyp0⟩) DR.out ?restp0
          case hyp0 => (intro W hSw; go_simp; try with_reducible rfl)
          try simp only [List.getElem_toArray, List.getElem_cons_zero, Act.put, List.setIfInBounds_toArray, List.set_cons_zero, List.set_cons_succ]
          refine anyT_take (i := 1) (oi := _) (v := ?vp1) rfl (by kernel_rfl) (by kernel_rfl) (by kernel_rfl) (by kernel_rfl) (fun _ _ _ h => h) (Or.inl ⟨by rfl, ?hyp1⟩) DR.out ?restp1
          case hyp1 => (intro W hSw; go_simp; try with_reducible rfl)
          try simp only [List.getElem_toArray, List.getElem_cons_zero, List.getElem_cons_succ, Act.put, List.setIfInBounds_toArray, List.set_cons_zero, List.set_cons_succ]
          refine anyT_take (i := 2) (oi := _) (v := ?vp2) rfl (by kernel_rfl) (by kernel_rfl) (by kernel_rfl) (by kernel_rfl) (fun _ _ _ h => h) (Or.inl ⟨by rfl, ?hyp2⟩) DR.out ?restp2
          case hyp2 => (intro W hSw; go_simp; try with_reducible rfl)
          try simp only [List.getElem_toArray, List.getElem_cons_zero, List.getElem_cons_succ, Act.put, List.setIfInBounds_toArray, List.set_cons_zero, List.set_cons_succ]
          refine anyT_take (i := 3) (oi := _) (v := ?vp3) rfl (by kernel_rfl) (by kernel_rfl) (by kernel_rfl) (by kernel_rfl) (fun _ _ _ h => h) (Or.inl ⟨by rfl, ?hyp3⟩) DR.out ?restp3
          case hyp3 => (intro W hSw; go_simp; try with_reducible rfl)
          try simp only [List.getElem_toArray, List.getElem_cons_zero, List.getElem_cons_succ, Act.put, List.setIfInBounds_toArray, List.set_cons_zero, List.set_cons_succ]
          refine anyT_take (i := 4) (oi := _) (v := ?vp4) rfl (by kernel_rfl) (by kernel_rfl) (by kernel_rfl) (by kernel_rfl) (fun _ _ _ h => h) (Or.inl ⟨by rfl, ?hyp4⟩) DR.out ?restp4
          case hyp4 => (intro W hSw; go_simp; try with_reducible rfl)
          try simp only [List.getElem_toArray, List.getElem_cons_zero, List.getElem_cons_succ, Act.put, List.setIfInBounds_toArray, List.set_cons_zero, List.set_cons_succ]
          refine anyT_take (i := 5) (oi := _) (v := undef) rfl (by kernel_rfl) (by kernel_rfl) (by kernel_rfl) (by kernel_rfl) (fun _ _ _ h => h) (Or.inr ⟨by rfl, rfl⟩) DR.out ?_
          try simp only [List.getElem_toArray, List.getElem_cons_zero, List.getElem_cons_succ, Act.put, List.setIfInBounds_toArray, List.set_cons_zero, List.set_cons_succ]
          refine anyT_take (i := 6) (oi := _) (v := undef) rfl (by kernel_rfl) (by kernel_rfl) (by kernel_rfl) (by kernel_rfl) (fun _ _ _ h => h) (Or.inr ⟨by rfl, rfl⟩) DR.out ?_
          try simp only [List.getElem_toArray, List.getElem_cons_zero, List.getElem_cons_succ, Act.put, List.setIfInBounds_toArray, List.set_cons_zero, List.set_cons_succ]
          refine anyT_take (i := 7) (oi := _) (v := ?vp7) rfl (by kernel_rfl) (by kernel_rfl) (by kernel_rfl) (by kernel_rfl) (fun _ _ _ h => h) (Or.inl ⟨by rfl, ?hyp7⟩) DR.out ?restp7
          case hyp7 => (intro W hSw; go_simp; try with_reducible rfl)
          try simp only [List.getElem_toArray, List.getElem_cons_zero, List.getElem_cons_succ, Act.put, List.setIfInBounds_toArray, List.set_cons_zero, List.set_cons_succ]
          refine anyT_take (i := 8) (oi := _) (v := ?vp8) rfl (by kernel_rfl) (by kernel_rfl) (by kernel_rfl) (by kernel_rfl) (fun _ _ _ h => h) (Or.inl ⟨by rfl, ?hyp8⟩) DR.out ?restp8
          case hyp8 => (intro W hSw; go_simp; try with_reducible rfl)
          try simp only [List.getElem_toArray, List.getElem_cons_zero, List.getElem_cons_succ, Act.put, List.setIfInBounds_toArray, List.set_cons_zero, List.set_cons_succ]
          refine anyT_take (i := 9) (oi := _) (v := ?vp9) rfl (by kernel_rfl) (by kernel_rfl) (by kernel_rfl) (by kernel_rfl) (fun _ _ _ h => h) (Or.inl ⟨by rfl, ?hyp9⟩) DR.out ?restp9
          case hyp9 => (intro W hSw; go_simp; try with_reducible rfl)
          try simp only [List.getElem_toArray, List.getElem_cons_zero, List.getElem_cons_succ, Act.put, List.setIfInBounds_toArray, List.set_cons_zero, List.set_cons_succ]
          refine anyT_take (i := 10) (oi := _) (v := ?vp10) rfl (by kernel_rfl) (by kernel_rfl) (by kernel_rfl) (by kernel_rfl) (fun _ _ _ h => h) (Or.inl ⟨by rfl, ?hyp10⟩) DR.out ?restp10
          case hyp10 => (intro W hSw; go_simp; try with_reducible rfl)
          try simp only [List.getElem_toArray, List.getElem_cons_zero, List.getElem_cons_succ, Act.put, List.setIfInBounds_toArray, List.set_cons_zero, List.set_cons_succ]
          refine anyT_take (i := 12) (oi := _) (v := ?vp12) rfl (by kernel_rfl) (by kernel_rfl) (by kernel_rfl) (by kernel_rfl) (fun _ _ _ h => h) (Or.inl ⟨by rfl, ?hyp12⟩) DR.out ?restp12
          case hyp12 => (intro W hSw; go_simp; try with_reducible rfl)
          try simp only [List.getElem_toArray, List.getElem_cons_zero, List.getElem_cons_succ, Act.put, List.setIfInBounds_toArray, List.set_cons_zero, List.set_cons_succ]
          refine anyT_take (i := 13) (oi := _) (v := ?vp13) rfl (by kernel_rfl) (by kernel_rfl) (by kernel_rfl) (by kernel_rfl) (fun _ _ _ h => h) (Or.inl ⟨by rfl, ?hyp13⟩) DR.out ?restp13
          case hyp13 => (intro W hSw; go_simp; try with_reducible rfl)
          try simp only [List.getElem_toArray, List.getElem_cons_zero, List.getElem_cons_succ, Act.put, List.setIfInBounds_toArray, List.set_cons_zero, List.set_cons_succ]
          refine anyT_take (i := 14) (oi := _) (v := ?vp14) rfl (by kernel_rfl) (by kernel_rfl) (by kernel_rfl) (by kernel_rfl) (fun _ _ _ h => h) (Or.inl ⟨by rfl, ?hyp14⟩) DR.out ?restp14
          case hyp14 => (intro W hSw; go_simp; try with_reducible rfl)
          try simp only [List.getElem_toArray, List.getElem_cons_zero, List.getElem_cons_succ, Act.put, List.setIfInBounds_toArray, List.set_cons_zero, List.set_cons_succ]
          refine anyT_take (i := 16) (oi := _) (v := ?vp16) rfl (by kernel_rfl) (by kernel_rfl) (by kernel_rfl) (by kernel_rfl) (fun _ _ _ h => h) (Or.inl ⟨by rfl, ?hyp16⟩) DR.out ?restp16
          case hyp16 => (intro W hSw; go_simp; try with_reducible rfl)
          try simp only [List.getElem_toArray, List.getElem_cons_zero, List.getElem_cons_succ, Act.put, List.setIfInBounds_toArray, List.set_cons_zero, List.set_cons_succ]
          refine anyT_take (i := 17) (oi := _) (v := ?vp17) rfl (by kernel_rfl) (by kernel_rfl) (by kernel_rfl) (by kernel_rfl) (fun _ _ _ h => h) (Or.inl ⟨by rfl, ?hyp17⟩) DR.out ?restp17
          case hyp17 => (intro W hSw; go_simp; try with_reducible rfl)
          try simp only [List.getElem_toArray, List.getElem_cons_zero, List.getElem_cons_succ, Act.put, List.setIfInBounds_toArray, List.set_cons_zero, List.set_cons_succ]
          refine anyT_take (i := 18) (oi := _) (v := ?vp18) rfl (by kernel_rfl) (by kernel_rfl) (by kernel_rfl) (by kernel_rfl) (fun _ _ _ h => h) (Or.inl ⟨by rfl, ?hyp18⟩) DR.out ?restp18
          case hyp18 => (intro W hSw; go_simp; try with_reducible rfl)
          try simp only [List.getElem_toArray, List.getElem_cons_zero, List.getElem_cons_succ, Act.put, List.setIfInBounds_toArray, List.set_cons_zero, List.set_cons_succ]
          refine anyT_one' (i := 11) (by kernel_rfl) rfl (by rfl) (fun KQ hK => ?_)
          go_simp
          go_at_call 20
          (with_reducible refine (KS0.out _ DR.out).mono ?_)
          rintro e w11 ⟨rfl, f11⟩
          have g11 := Lib.hid (Keep.step (S := fun _ => False) DR.out f11 (fun _ _ h => h))
          clear f11
          refine hK.out _ _ g11.out ?_
          clear hK KQ
          try simp only [List.getElem_toArray, List.getElem_cons_zero, List.getElem_cons_succ, Act.put, List.setIfInBounds_toArray, List.set_cons_zero, List.set_cons_succ]
          refine anyT_one' (i := 15) (by kernel_rfl) rfl (by rfl) (fun KQ hK => ?_)
          go_simp
          go_at_call 20
          (with_reducible refine (KS1.out _ g11.out).mono ?_)
          rintro e w12 ⟨rfl, f12⟩
          have g12 := Lib.hid (Keep.step (S := fun _ => False) g11.out f12 (fun _ _ h => h))
          clear f12
          refine hK.out _ _ g12.out ?_
          clear hK KQ
          try simp only [List.getElem_toArray, List.getElem_cons_zero, List.getElem_cons_succ, Act.put, List.setIfInBounds_toArray, List.set_cons_zero, List.set_cons_succ]
          refine anyT_one' (i := 19) (by kernel_rfl) rfl (by rfl) (fun KQ hK => ?_)
          go_simp
          go_at_call 20
          (with_reducible refine (KS2.out _ g12.out).mono ?_)
          rintro e w13 ⟨rfl, f13⟩
          have g13 := Lib.hid (Keep.step (S := fun _ => False) g12.out f13 (fun _ _ h => h))
          clear f13
          refine hK.out _ _ g13.out ?_
          clear hK KQ
          try simp only [List.getElem_toArray, List.getElem_cons_zero, List.getElem_cons_succ, Act.put, List.setIfInBounds_toArray, List.set_cons_zero, List.set_cons_succ]
          refine anyT_take (i := 20) (oi := _) (v := ?vp20) rfl (by kernel_rfl) (by kernel_rfl) (by kernel_rfl) (by kernel_rfl) (fun _ _ _ h => h) (Or.inl ⟨by rfl, ?hyp20⟩) g13.out ?restp20
          case hyp20 => (intro W hSw; go_simp; try with_reducible rfl)
          try simp only [List.getElem_toArray, List.getElem_cons_zero, List.getElem_cons_succ, Act.put, List.setIfInBounds_toArray, List.set_cons_zero, List.set_cons_succ]
          refine anyT_take (i := 21) (oi := _) (v := ?vp21) rfl (by kernel_rfl) (by kernel_rfl) (by kernel_rfl) (by kernel_rfl) (fun _ _ _ h => h) (Or.inl ⟨by rfl, ?hyp21⟩) g13.out ?restp21
          case hyp21 => (intro W hSw; go_simp; try with_reducible rfl)
          try simp only [List.getElem_toArray, List.getElem_cons_zero, List.getElem_cons_succ, Act.put, List.setIfInBounds_toArray, List.set_cons_zero, List.set_cons_succ]
          refine anyT_take (i := 22) (oi := _) (v := ?vp22) rfl (by kernel_rfl) (by kernel_rfl) (by kernel_rfl) (by kernel_rfl) (fun _ _ _ h => h) (Or.inl ⟨by rfl, ?hyp22⟩) g13.out ?restp22
          case hyp22 => (intro W hSw; go_simp; try with_reducible rfl)
          try simp only [List.getElem_toArray, List.getElem_cons_zero, List.getElem_cons_succ, Act.put, List.setIfInBounds_toArray, List.set_cons_zero, List.set_cons_succ]
          refine anyT_done (by kernel_rfl) ?_
          go_wp2_with (go_at_call 8; refine (awake_any _ (HT.out.fresh (F10.out.step g13.out (fun _ _ h => h)))).mono ?_; rintro e w14 ⟨rfl, f14⟩)
          go_ret
          exact ⟨rfl, Fresh.below_ ((F10.out.step g13.out (fun _ _ h => h)).step f14 (fun _ _ h => h)) (Nat.le_refl _)⟩
open Go.ChangeShapes Go.WideShapes Go.ChangeAt
theorem codeParts_reads (os : Os) {H : Type} (enc : TypeId × Value → H) : ∃ places, DataW.whole enc Tryd.prog ((laidWorld os).forCall (fun _ _ => 0) ⟨#[], #[.slice none 0 0, .int .i64 0], []⟩).memory Tryd.f6.params.toList Rows.codePartsSpec.vars false (#[.slice none 0 0, .int .i64 0] : Array Value).toList 8 = some ([.nil, .lit (.int .i64 0)], [], places) :=
  ⟨[], by kernel_rfl⟩
set_option maxRecDepth 100000 in
theorem codeParts_lifted (os : Os) (started : os.Started) (H : Type) (enc : TypeId × Value → H) (F : Stop.Interp) :
    ReturnsInHanded {} Tryd.checked os 6 .any ((OpenSpec.ofChange Rows.codePartsSpec).preRow enc Tryd.prog Tryd.f6 Rows.codePartsRow.domain false Rows.codePartsRow.laid) (((OpenSpec.ofChange Rows.codePartsSpec).at F).post enc Tryd.prog Tryd.f6 false true false false) := by
  obtain ⟨places, hx⟩ := codeParts_reads os enc
  refine law_lifted_rowS (C := Tryd.checked) (tb := 4) (by kernel_rfl) (by kernel_rfl) started (by kernel_rfl) Tryd.func6 rfl ?_ rfl Tryd.underlying4 (by kernel_rfl)
    (witness_rowZ (enc := enc) (C := Tryd.checked) (laidWorld os) #[.slice none 0 0, .int .i64 0] (World.laidAll_os _ _ _) (World.shaped_of_ZipB (by kernel_rfl) (by kernel_rfl)) (by kernel_rfl)
      (OpenSpec.preRow_of_cond 8 hx (by kernel_rfl) (fun k hk => by cases hk) (by kernel_rfl) (laid_met os _))) ?_
  · intro ds hds
    match ds, hds with
    | [e0, e1], _ => rfl
  · intro W base args ds p hval hA hreach hL hsh
    have hT := tabs_of_laid hL hsh
    rw [Tryd.params6] at hA hval hreach
    obtain ⟨v0, vs0, d0, ds0, p0, q0, hargs, rfl, rfl, h0, r0⟩ := trodAll_cons hA
    obtain ⟨v1, vs1, d1, ds1, p1, q1, rfl, rfl, rfl, h1, r1⟩ := trodAll_cons r0
    obtain ⟨rfl, rfl, rfl⟩ := trodAll_nil r1
    obtain rfl : args = #[v0, v1] := by cases args; simp_all
    obtain ⟨A_l, n_l, c_l, rows_l, rfl, len_l, cap_l, max_l, leaf_l, at_l⟩ := arg_slice (n := 6) Tryd.underlying22 (by kernel_rfl) (by kernel_rfl) (by rw [show Tryd.prog.cellsOf 34 = 5 by kernel_rfl]; decide) (hval 0 22 v0 rfl rfl) h0
    rw [show flat Tryd.prog 6 34 = [3, 3, 3, 3, 3] by kernel_rfl] at leaf_l
    rw [show Tryd.prog.cellsOf 34 = 5 by kernel_rfl] at at_l
    obtain ⟨at_, rfl, w_at_⟩ := arg_int Tryd.underlying3 (hval 1 3 v1 rfl rfl) h1
    obtain ⟨P, hPl, hPp, hPi⟩ := ins_arg leaf_l at_l
    have hn : P.length = n_l := hPl.trans len_l
    subst hn
    have hm : P.length ≤ 9223372036854775807 := by unfold maxLen at max_l; omega
    by_cases hno : 64 < P.length ∨ at_ < 0 ∨ (P.length : Int) < at_
    · exact parts_no A_l P.length c_l at_ W hT hm hno
    · obtain ⟨k, rfl⟩ := Int.eq_ofNat_of_zero_le (show 0 ≤ at_ by omega)
      exact parts_ok A_l P c_l k W hT hPp hPi (by omega) cap_l (by omega)

theorem codeParts_said : Rows.CodePartsSaid :=
  OpenClaim.holds_of_cond 6 Tryd.f6 rfl rfl rfl rfl rfl rfl rfl ⟨rfl, rfl, rfl, rfl, rfl⟩ rfl rfl rfl rfl rfl (by kernel_rfl) Tryd.func6 (by kernel_rfl)
    (of_decide_eq_true (by kernel_rfl)) (by unfold Func.isWrapper; first | (rw [if_pos (by decide +kernel)]; kernel_rfl) | (rw [if_neg (by decide +kernel)]; exact ⟨rfl, rfl⟩))
    (fun os started H enc _ F => by rw [OpenClaim.pre_eq_preRow]; exact codeParts_lifted os started H enc F)
theorem codeParts_plain (f : FuncId) (fn : Func) (hf : Tryd.pinned.checked.prog.funcNamed "boomerang/boomeranglaw05.CodeParts" = some f) (hfn : Tryd.pinned.checked.prog.funcs[f]? = some fn) :
    true = Tryd.pinned.checked.prog.looks [] ∧ ∀ (j : Nat) t, fn.params[j]? = some t → Tryd.pinned.checked.prog.wantsStandIn t = false := by
  obtain rfl : f = 6 := Option.some.inj ((show Tryd.prog.funcNamed "boomerang/boomeranglaw05.CodeParts" = some 6 by kernel_rfl).symm.trans hf) |>.symm
  obtain rfl : fn = Tryd.f6 := (Option.some.inj (Tryd.func6.symm.trans hfn)).symm
  refine ⟨by kernel_rfl, fun j t ht => ?_⟩
  rw [Tryd.params6] at ht
  have hm := Array.mem_of_getElem? ht
  simp at hm
  rcases hm with rfl | rfl
  · exact (show Tryd.prog.wantsStandIn 22 = false by kernel_rfl)
  · exact (show Tryd.prog.wantsStandIn 3 = false by kernel_rfl)
theorem codeParts_holds : Rows.CodePartsCardSaid :=
  Claim7.holds_tied_plain_at .later [] _ _ _ _ codeParts_said (fun _ h => by cases h) (by kernel_rfl) (fun _ h => by cases h) codeParts_row_tie rfl ⟨rfl, rfl⟩ (by kernel_rfl) rfl codeParts_plain (by kernel_rfl)
end Go.Proofs.YtkhlldmnnakoaaaDoor
