/-
  The document's answer: a number in decimal digits.
-/
import Derived.Test.YtkhlldmnnakoaaaDoorRMay
import Derived.Test.YtkhlldmnnakoaaaDoorPrintW
namespace Go.Proofs.YtkhlldmnnakoaaaDoor
open Go.RowKit
attribute [local go_sem ↓] Go.wp_at_zero Go.wp_at_succ
theorem conv_dig (d : Nat) (hd : d < 10) (n : Int) (hn : n = (d : Int)) (W : World) : (convert 49 9 (.slice (some ⟨W.heap.size, 0, none⟩) 1 1)).run Tryd.prog (W.alloc (.cells #[.int .u8 (48 + n)] 5)) = .ok (.string (str [UInt8.ofNat (48 + d)])) (W.alloc (.cells #[.int .u8 (48 + n)] 5)) := by
  subst hn
  have := run_convert_bytes_back (P := Tryd.prog) (W.alloc (.cells #[.int .u8 (48 + (d : Int))] 5)) 49 9 5 ⟨W.heap.size, 0, none⟩ 1 [UInt8.ofNat (48 + d)] Tryd.underlying49 Tryd.underlying5 Tryd.underlying9 (fun j hj => by
    have : j = 0 := by simpa using hj
    subst this
    have e := (Blk.new W 5 #[.int .u8 (48 + (d : Int))]).cell 0
    rw [show (⟨W.heap.size, 0, none⟩ : Addr).add 0 = ⟨W.heap.size, 0, none⟩ from rfl, e]
    simp []
    omega)
  exact this
theorem dec_step (u : Nat) (h : ¬ u < 10) : Lib.decDigits u = Lib.decDigits (u / 10) ++ [UInt8.ofNat (48 + u % 10)] := by
  rw [Lib.decDigits, dif_neg h]
theorem dec_one (u : Nat) (h : u < 10) : Lib.decDigits u = [UInt8.ofNat (48 + u % 10)] := by
  rw [Lib.decDigits, dif_pos h, Nat.mod_eq_of_lt h]
theorem dec_len {u : Nat} (h : u ≤ 9223372036854775807) : (Lib.decDigits u).length ≤ 21 := by
  have := Lib.itoa_length_le (u : Int) (by omega) (by omega)
  unfold Lib.itoa at this
  rw [if_neg (by omega), Int.toNat_natCast] at this
  omega
set_option maxRecDepth 100000 in
set_option maxHeartbeats 4000000 in
theorem dec_pos : ∀ (N u : Nat), u < N → u ≤ 9223372036854775807 → ∀ w, Calls Tryd.prog 35 #[.int .i64 (u : Nat)] w fun e w' => e = .returned (.string (str (Lib.decDigits u))) ∧ Fresh w w' := by
  intro N
  induction N with
  | zero => intro u h; omega
  | succ N IH =>
    intro u hu hb w
    have HI := Lib.hid IH
    have HU := Lib.hid hu
    have hcv := conv_dig (u % 10) (Nat.mod_lt _ (by omega)) ((u : Int) % 10) (by omega)
    have hsz : (str [UInt8.ofNat (48 + u % 10)]).size = 1 := rfl
    clear IH hu
    have t1 : decide ((u : Int) < 0) = false := decide_eq_false (by omega)
    by_cases h10 : u < 10
    · have t2 : decide (9 < (u : Int)) = false := decide_eq_false (by omega)
      have t2' : decide (9 < u) = false := decide_eq_false (by omega)
      rw [dec_one u h10]
      obtain ⟨D, hD⟩ : ∃ D, str [UInt8.ofNat (48 + u % 10)] = D := ⟨_, rfl⟩
      rw [hD] at hcv hsz ⊢
      clear hD h10
      go_enter Tryd.func35, Tryd.ntmps35
      go_wp2_with fail
      go_returns
      exact ⟨rfl, by (repeat (first | (with_reducible exact Keep.refl _ _) | (with_reducible assumption) | (with_reducible refine Keep.drew ?_) | (with_reducible refine Keep.drewN ?_ _) | (with_reducible refine Keep.alloc ?_ _) | (with_reducible refine Keep.setCell ?_ ?_ _) | (with_reducible refine fun _ => rfl)))⟩
    · have t2 : decide (9 < (u : Int)) = true := decide_eq_true (by omega)
      have t2' : decide (9 < u) = true := decide_eq_true (by omega)
      rw [dec_step u h10]
      have HC : Hid (∀ W, Calls Tryd.prog 35 #[.int .i64 ((u : Int) / 10)] W fun e w' => e = .returned (.string (str (Lib.decDigits (u / 10)))) ∧ Fresh W w') := Lib.hid (fun W => HI.out (u / 10) (by have := HU.out; omega) (by omega) W)
      obtain ⟨D, hD⟩ : ∃ D, str [UInt8.ofNat (48 + u % 10)] = D := ⟨_, rfl⟩
      obtain ⟨L, hL⟩ : ∃ L, Lib.decDigits (u / 10) = L := ⟨_, rfl⟩
      have hlen : L.length ≤ 21 := by rw [← hL]; exact dec_len (by omega)
      have hcat : ∀ W, (Op.stringOp .add (str L) D).run Tryd.prog W = .ok (.string (str (L ++ [UInt8.ofNat (48 + u % 10)]))) W := fun W => by
        rw [← hD]
        exact run_string_add_lists W L [UInt8.ofNat (48 + u % 10)] (by omega) (by simp)
      rw [hL] at HC
      rw [hL]
      rw [hD] at hcv hsz
      obtain ⟨T, hT⟩ : ∃ T, str (L ++ [UInt8.ofNat (48 + u % 10)]) = T := ⟨_, rfl⟩
      rw [hT] at hcat ⊢
      clear hD hL h10 hT
      go_enter Tryd.func35, Tryd.ntmps35
      go_wp2_with fail
      with_reducible refine (HC.out _).mono ?_
      rintro e w2 ⟨rfl, f2⟩
      have F2 := Lib.hid (((Keep.refl _ w).alloc (.cells #[.int .u8 (48 + (u : Int) % 10)] 5)).step f2 (fun _ _ h => h))
      clear f2
      go_wp2_with fail
      go_returns
      exact ⟨rfl, F2.out⟩
set_option maxRecDepth 100000 in
set_option maxHeartbeats 4000000 in
theorem dec_neg : ∀ (N u : Nat), u < N → 0 < u → u ≤ 9223372036854775808 → ∀ w, Calls Tryd.prog 35 #[.int .i64 (-(u : Int))] w fun e w' => e = .returned (.string (str (45 :: Lib.decDigits u))) ∧ Fresh w w' := by
  intro N
  induction N with
  | zero => intro u h; omega
  | succ N IH =>
    intro u hu h0 hb w
    have HI := Lib.hid IH
    have HU := Lib.hid hu
    clear IH hu
    have t1 : decide (-(u : Int) < 0) = true := decide_eq_true (by omega)
    by_cases h10 : u < 10
    · have t2 : decide (u < 10) = true := decide_eq_true h10
      have t2' : decide ((u : Int) < 10) = true := decide_eq_true (by omega)
      have hw : wrap64 (u : Int) = u := Go.IntWalk.wrap64_in _ (by omega)
      have HC := Lib.hid (fun W => dec_pos (u + 1) u (by omega) (by omega) W)
      have hlen := dec_len (u := u) (by omega)
      obtain ⟨L, hL⟩ : ∃ L, Lib.decDigits u = L := ⟨_, rfl⟩
      rw [hL] at HC hlen ⊢
      have hcat : ∀ W, (Op.stringOp .add ⟨#[45]⟩ (str L)).run Tryd.prog W = .ok (.string (str (45 :: L))) W := fun W => run_string_add_lists W [45] L (by simp) (by omega)
      obtain ⟨T, hT⟩ : ∃ T, str (45 :: L) = T := ⟨_, rfl⟩
      rw [hT] at hcat ⊢
      clear hL h10 hT
      go_enter Tryd.func35, Tryd.ntmps35
      go_wp2_with fail
      with_reducible refine (HC.out _).mono ?_
      rintro e w2 ⟨rfl, f2⟩
      go_wp2_with fail
      go_returns
      exact ⟨rfl, f2⟩
    · have t2 : decide (u < 10) = false := decide_eq_false h10
      have t2' : decide ((u : Int) < 10) = false := decide_eq_false (by omega)
      have HC : Hid (∀ W, Calls Tryd.prog 35 #[.int .i64 (-((u : Int) / 10))] W fun e w' => e = .returned (.string (str (45 :: Lib.decDigits (u / 10)))) ∧ Fresh W w') := Lib.hid (fun W => HI.out (u / 10) (by have := HU.out; omega) (by omega) (by omega) W)
      have HD : Hid (∀ W, Calls Tryd.prog 35 #[.int .i64 ((u : Int) % 10)] W fun e w' => e = .returned (.string (str [UInt8.ofNat (48 + u % 10)])) ∧ Fresh W w') := Lib.hid (fun W => by
        have := dec_pos (u % 10 + 1) (u % 10) (by omega) (by omega) W
        rw [dec_one (u % 10) (Nat.mod_lt _ (by omega)), Nat.mod_mod] at this
        exact this)
      have hlen := dec_len (u := u / 10) (by omega)
      rw [dec_step u h10]
      obtain ⟨L, hL⟩ : ∃ L, Lib.decDigits (u / 10) = L := ⟨_, rfl⟩
      obtain ⟨D, hD⟩ : ∃ D, UInt8.ofNat (48 + u % 10) = D := ⟨_, rfl⟩
      rw [hL] at HC hlen ⊢
      rw [hD] at HD ⊢
      have hcat : ∀ W, (Op.stringOp .add (str (45 :: L)) (str [D])).run Tryd.prog W = .ok (.string (str (45 :: (L ++ [D])))) W := fun W => run_string_add_lists W (45 :: L) [D] (by simp; omega) (by simp)
      obtain ⟨T, hT⟩ : ∃ T, str (45 :: (L ++ [D])) = T := ⟨_, rfl⟩
      obtain ⟨T1, hT1⟩ : ∃ T, str (45 :: L) = T := ⟨_, rfl⟩
      obtain ⟨T2, hT2⟩ : ∃ T, str [D] = T := ⟨_, rfl⟩
      rw [hT, hT1, hT2] at hcat
      rw [hT]
      rw [hT1] at HC
      rw [hT2] at HD
      clear hL h10 hT hT1 hT2 hD
      go_enter Tryd.func35, Tryd.ntmps35
      go_wp2_with fail
      with_reducible refine (HC.out _).mono ?_
      rintro e w2 ⟨rfl, f2⟩
      go_wp2_with fail
      with_reducible refine (HD.out _).mono ?_
      rintro e w3 ⟨rfl, f3⟩
      go_wp2_with fail
      go_returns
      exact ⟨rfl, f2.step f3 (fun _ _ h => h)⟩
theorem decimal_any (n : Int) (h : inI64 n) (w : World) : Calls Tryd.prog 35 #[.int .i64 n] w fun e w' => e = .returned (.string (str (Lib.itoa n))) ∧ Fresh w w' := by
  obtain ⟨h1, h2⟩ := h
  by_cases h0 : n < 0
  · obtain ⟨u, rfl⟩ : ∃ u : Nat, n = -(u : Int) := ⟨n.natAbs, by omega⟩
    have := dec_neg (u + 1) u (by omega) (by omega) (by omega) w
    unfold Lib.itoa
    rw [if_pos h0, Int.natAbs_neg, Int.natAbs_natCast]
    exact this
  · obtain ⟨u, rfl⟩ := Int.eq_ofNat_of_zero_le (show 0 ≤ n by omega)
    have := dec_pos (u + 1) u (by omega) (by omega) w
    unfold Lib.itoa
    rw [if_neg h0, Int.toNat_natCast]
    exact this
end Go.Proofs.YtkhlldmnnakoaaaDoor
