/-
  The document's answer: a line; a program as a text.
-/
import Derived.Test.YtkhlldmnnakoaaaDoorRDec
import Derived.Test.YtkhlldmnnakoaaaDoorRCheck
import Derived.Test.YtkhlldmnnakoaaaDoorShiftL
namespace Go.Proofs.YtkhlldmnnakoaaaDoor
open Go.RowKit
attribute [local go_sem ↓] Go.wp_at_zero Go.wp_at_succ
theorem part_end (x : Ins) : partOf x (many x.op) = lineOf x := by
  unfold partOf lineOf wordsOf
  rw [Nat.min_self]
set_option maxRecDepth 100000 in
set_option maxHeartbeats 8000000 in
theorem rline_any (x : Ins) (hin : x.In) (w : World) : Calls Tryd.prog 26 #[x.val] w fun e w' => e = .returned (.string (str (lineOf x))) ∧ Fresh w w' := by
  have HW := Lib.hid (fun W => rword_any x.op W)
  have HK := Lib.hid (fun W => rkinds_any x.op W)
  have HNU := Lib.hid (fun i W => rnumber_any x i W)
  have HN2 : Hid (∀ (q : Nat) (n : Int), x.nums[q]? = some n → ∀ W, Calls Tryd.prog 32 #[x.val, .int .i64 q] W fun e w' => e = .returned (.int .i64 n) ∧ Fresh W w') := Lib.hid fun q n hq W => by
    have := HNU.out q W
    have hlt := (List.getElem?_eq_some_iff.1 hq).1
    have h4 : q = 0 ∨ q = 1 ∨ q = 2 ∨ q = 3 := by simp [Ins.nums] at hlt; omega
    rcases h4 with rfl | rfl | rfl | rfl <;> simp [Ins.nums] at hq <;> subst hq <;> exact this
  clear HNU
  have hM4 : many x.op ≤ 4 := by
    by_cases h : x.op < 1 ∨ 15 < x.op
    · unfold many; rw [if_pos h]; omega
    · exact (ask_many h).1
  obtain ⟨KB, hKB⟩ : ∃ B, (⟨(kinds x.op).toArray⟩ : ByteArray) = B := ⟨_, rfl⟩
  have hKs : KB.size = many x.op := by rw [← hKB, ← kinds_len]; simp [ByteArray.size]
  rw [hKB] at HK
  obtain ⟨X, hX⟩ : ∃ X : Ins, X = x := ⟨_, rfl⟩
  have HPart := Lib.hid (fun i => part_len hin i)
  have HIN : Hid (∀ i : Nat, i < many x.op → ∃ N, x.nums[i]? = some N ∧ inI64 N) := Lib.hid fun i hi => by
    have hlt : i < x.nums.length := by simp [Ins.nums]; omega
    exact ⟨_, List.getElem?_eq_getElem hlt, hin _ (List.getElem_mem hlt)⟩
  rw [← hX] at HW HPart HIN hKs hM4
  have HN3 : Hid (∀ (q : Nat) (n : Int), X.nums[q]? = some n → ∀ W, Calls Tryd.prog 32 #[x.val, .int .i64 q] W fun e w' => e = .returned (.int .i64 n) ∧ Fresh W w') := Lib.hid (by rw [hX]; exact HN2.out)
  rw [show lineOf x = partOf X (many X.op) by rw [part_end, hX]]
  have HX := Lib.hid hX
  obtain ⟨M, hM⟩ : ∃ M, many X.op = M := ⟨_, rfl⟩
  have HMM := Lib.hid hM
  rw [hM] at hKs HIN hM4 ⊢
  have START : Hid (str (word X.op) = str (partOf X 0)) := Lib.hid (by rw [part_zero])
  have HW2 : Hid (∀ W, Calls Tryd.prog 14 #[.int .i64 x.op] W fun e w' => e = .returned (.string (str (partOf X 0))) ∧ Fresh W w') := Lib.hid fun W => by
    rw [← START.out]
    have := HW.out W
    rw [hX] at this ⊢
    exact this
  clear HN2 HW START hX hM
  obtain ⟨op, a, b, c, d⟩ := x
  unfold Ins.val at *
  simp only at HW2 HK
  have HK' := HK
  clear hKB hin
  go_enter Tryd.func26, Tryd.ntmps26
  go_wp2_with (first
    | (go_at_call 14; refine (HW2.out _).mono ?_; rintro e w1 ⟨rfl, f1⟩; have b1 := f1.blk_ (Blk.at_new (by simp) 41 #[.int .i64 op, .int .i64 a, .int .i64 b, .int .i64 c, .int .i64 d] : Blk _ w.heap.size _ _); have F1 := Lib.hid (((Keep.refl _ w).alloc (.cells #[.int .i64 op, .int .i64 a, .int .i64 b, .int .i64 c, .int .i64 d] 41)).step f1 (fun _ _ h => h)); have B1 := Lib.hid b1; clear f1 b1))
  go_loopg [3, 4] M (fun gk s u wr => ∃ q : Nat, q ≤ M ∧ gk = M - q ∧ s = .string (str (partOf X q)) ∧ u = .int .i64 q ∧ Fresh w1 wr)
  case atStart => exact ⟨0, by omega, rfl, rfl, rfl, Keep.refl _ _⟩
  case round =>
    obtain ⟨q, hq, rfl, rfl, rfl, hF⟩ := hrel
    have HF := Lib.hid hF
    have b3 := hF.blk_ B1.out
    have hb3 := b3.cell
    have hl3 := b3.lt
    have B3 := Lib.hid b3
    have hpl := HPart.out q
    clear hF b3
    by_cases hlt : q < M
    · obtain ⟨n, hn, hni⟩ := HIN.out q hlt
      have t4 : decide ((q : Int) < (M : Int)) = true := decide_eq_true (by omega)
      have t4' : decide (q < M) = true := decide_eq_true hlt
      have HNC := Lib.hid (HN3.out q n hn)
      have HDC := Lib.hid (fun W => decimal_any n hni W)
      have HPI := Lib.hid (part_in (x := X) (i := q) (by rw [HMM.out]; exact hlt) hn)
      have hlen := Lib.itoa_length_le n hni.1 hni.2
      obtain ⟨L, hL⟩ : ∃ L, partOf X q = L := ⟨_, rfl⟩
      obtain ⟨I, hI⟩ : ∃ I, Lib.itoa n = I := ⟨_, rfl⟩
      rw [hL] at HPI hpl ⊢
      rw [hI] at HPI HDC hlen
      have hcat1 : ∀ W, (Op.stringOp .add (str L) ⟨#[32]⟩).run Tryd.prog W = .ok (.string (str (L ++ [32]))) W := fun W => run_string_add_lists W L [32] (by omega) (by simp)
      have hcat2 : ∀ W, (Op.stringOp .add (str (L ++ [32])) (str I)).run Tryd.prog W = .ok (.string (str (L ++ [32] ++ I))) W := fun W => run_string_add_lists W (L ++ [32]) I (by simp; omega) (by omega)
      clear hn hni hL hI
      go_wp2_with (first
        | (go_at_call 15; refine (HK.out _).mono ?_; rintro e w2 ⟨rfl, f2⟩; have b4 := f2.blk_ B3.out; have B4 := Lib.hid b4; have hb4 := b4.cell; have hl4 := b4.lt; have F2 := Lib.hid (HF.out.step f2 (fun _ _ h => h)); clear f2 b4 hb3 hl3)
        | (go_at_call 32; (with_reducible refine (HNC.out _).mono ?_); rintro e w3 ⟨rfl, f3⟩; have F3 := Lib.hid (F2.out.step f3 (fun _ _ h => h)); clear f3)
        | (go_at_call 35; (with_reducible refine (HDC.out _).mono ?_); rintro e w4 ⟨rfl, f4⟩; have F4 := Lib.hid (F3.out.step f4 (fun _ _ h => h)); clear f4))
      go_roundg (M - (q + 1))
      case measure => omega
      case rel => exact ⟨q + 1, by omega, rfl, by rw [HPI.out], by go_num, F4.out⟩
    · obtain rfl : q = M := by omega
      have t4 : decide ((q : Int) < (q : Int)) = false := decide_eq_false (by omega)
      obtain ⟨L, hL⟩ : ∃ L, partOf X q = L := ⟨_, rfl⟩
      rw [hL]
      have HLL := Lib.hid hL
      clear hL
      go_wp2_with (first
        | (go_at_call 15; refine (HK.out _).mono ?_; rintro e w2 ⟨rfl, f2⟩; have F2 := Lib.hid (HF.out.step f2 (fun _ _ h => h)); clear f2 hb3 hl3))
      go_returns
      exact ⟨by rw [HLL.out]; rfl, F1.out.step F2.out (fun _ _ h => h)⟩
set_option maxRecDepth 100000 in
set_option maxHeartbeats 4000000 in
theorem rprint_bad (A : Option Addr) (P : List Ins) (c : Nat) (w : World) (h : Prg w A P) (hn : P.length ≤ 9223372036854775807) (hc : (checkP P).2 ≠ 0) : Calls Tryd.prog 10 #[.slice A P.length c] w fun e w' => e = .returned (.tuple #[.string (str (printP P).1), .int .i64 (checkP P).2]) ∧ Fresh w w' := by
  have HC := Lib.hid (rcheck_any A P c w h hn)
  rw [print_no hc]
  obtain ⟨R1, R2, hR⟩ : ∃ R1 R2, checkP P = (R1, R2) := ⟨_, _, rfl⟩
  rw [hR] at HC hc ⊢
  simp only at HC hc ⊢
  have t1 : (R2 == 0) = false := by simpa using hc
  have hc' := hc
  clear hR hc h
  go_enter Tryd.func10, Tryd.ntmps10
  go_wp2_with (go_at_call 19; (with_reducible refine HC.out.mono ?_); rintro e w1 ⟨rfl, f1⟩)
  go_returns
  exact ⟨rfl, f1⟩
set_option maxRecDepth 100000 in
set_option maxHeartbeats 4000000 in
theorem rprint_good (A : Option Addr) (P : List Ins) (c : Nat) (w : World) (h : Prg w A P) (hn : P.length ≤ 9223372036854775807) (hin : ∀ x ∈ P, x.In) (hc : (checkP P).2 = 0) : Calls Tryd.prog 10 #[.slice A P.length c] w fun e w' => e = .returned (.tuple #[.string (str (printP P).1), .int .i64 (checkP P).2]) ∧ Fresh w w' := by
  have HC := Lib.hid (rcheck_any A P c w h hn)
  have hle := (check_parts hc).1
  rw [print_of hc]
  rw [hc] at HC ⊢
  have HP := Lib.hid h
  have HI := Lib.hid hin
  obtain ⟨R1, hR⟩ : ∃ R1, (checkP P).1 = R1 := ⟨_, rfl⟩
  rw [hR] at HC
  clear hc h hin hR
  go_enter Tryd.func10, Tryd.ntmps10
  go_wp2_with (go_at_call 19; (with_reducible refine HC.out.mono ?_); rintro e w1 ⟨rfl, f1⟩; have F1 := Lib.hid f1; clear f1)
  go_loopg [6, 7] P.length (fun gk s u wr => ∃ q : Nat, q ≤ P.length ∧ gk = P.length - q ∧ s = .string (str (printL (P.take q))) ∧ u = .int .i64 q ∧ Fresh w1 wr)
  case atStart => exact ⟨0, by omega, rfl, rfl, rfl, Keep.refl _ _⟩
  case round =>
    obtain ⟨q, hq, rfl, rfl, rfl, hF⟩ := hrel
    have HF := Lib.hid hF
    have HFw := Lib.hid (F1.out.step hF (fun _ _ h => h))
    clear hF
    by_cases hlt : q < P.length
    · obtain ⟨x, hx⟩ : ∃ x, P[q]? = some x := ⟨_, List.getElem?_eq_getElem hlt⟩
      have hxi := HI.out x (List.mem_of_getElem? hx)
      have HS := Lib.hid (print_succ hx)
      have hpl := print_len (P := P.take q) (fun y hy => HI.out y (List.mem_of_mem_take hy))
      rw [List.length_take] at hpl
      have HL := Lib.hid (fun W => rline_any x hxi W)
      have hll := line_len hxi
      obtain ⟨L, hL⟩ : ∃ L, printL (P.take q) = L := ⟨_, rfl⟩
      obtain ⟨I, hI⟩ : ∃ I, lineOf x = I := ⟨_, rfl⟩
      rw [hL, hI] at HS
      rw [hL] at hpl ⊢
      rw [hI] at HL hll
      have hcat1 : ∀ W, (Op.stringOp .add (str L) (str I)).run Tryd.prog W = .ok (.string (str (L ++ I))) W := fun W => run_string_add_lists W L I (by omega) (by omega)
      have hcat2 : ∀ W, (Op.stringOp .add (str (L ++ I)) ⟨#[10]⟩).run Tryd.prog W = .ok (.string (str (L ++ I ++ [10]))) W := fun W => run_string_add_lists W (L ++ I) [10] (by simp; omega) (by simp)
      obtain ⟨op, a, b, c', d⟩ := x
      obtain ⟨g, off, rfl, lt, c0, c1, c2, c3, c4⟩ := (HP.out.fresh HFw.out).five hx
      have t1 : decide ((q : Int) < (P.length : Int)) = true := decide_eq_true (by omega)
      have t1' : decide (q < P.length) = true := decide_eq_true hlt
      have q1 : (q : Int) < (P.length : Int) := by omega
      unfold Ins.val at HL
      simp only at HL
      clear hx hxi hL hI hpl hll
      go_wp2_with (go_at_call 26; (with_reducible refine (HL.out _).mono ?_); rintro e w2 ⟨rfl, f2⟩; have F2 := Lib.hid (HF.out.step f2 (fun _ _ h => h)); clear f2)
      go_roundg (P.length - (q + 1))
      case measure => omega
      case rel => exact ⟨q + 1, by omega, rfl, by rw [HS.out, List.append_assoc], by go_num, F2.out⟩
    · obtain rfl : q = P.length := by omega
      rw [List.take_length]
      have t1 : decide ((P.length : Int) < (P.length : Int)) = false := decide_eq_false (by omega)
      obtain ⟨L, hL⟩ : ∃ L, printL P = L := ⟨_, rfl⟩
      rw [hL]
      have HLL := Lib.hid hL
      clear hL
      go_wp2_with fail
      go_returns
      exact ⟨by rw [HLL.out]; rfl, F1.out.step HF.out (fun _ _ h => h)⟩
theorem rprint_any (A : Option Addr) (P : List Ins) (c : Nat) (w : World) (h : Prg w A P) (hn : P.length ≤ 9223372036854775807) (hin : ∀ x ∈ P, x.In) : Calls Tryd.prog 10 #[.slice A P.length c] w fun e w' => e = .returned (.tuple #[.string (str (printP P).1), .int .i64 (checkP P).2]) ∧ Fresh w w' := by
  by_cases hc : (checkP P).2 = 0
  · exact rprint_good A P c w h hn hin hc
  · exact rprint_bad A P c w h hn hc
end Go.Proofs.YtkhlldmnnakoaaaDoor
