/-
  The chapter's examples.
-/
import Derived.Test.YtkhlldmnnakoaaaDoorParseW
namespace Go.Proofs.YtkhlldmnnakoaaaDoor
open Go.RowKit
attribute [local go_sem ↓] Go.wp_at_zero Go.wp_at_succ

theorem print_any (A : Option Addr) (P : List Ins) (c : Nat) (w : World) (h : Prg w A P) (hn : P.length ≤ 9223372036854775807) (hT : Tabs w) (hin : ∀ x ∈ P, x.In) : Calls Tryd.prog 9 #[.slice A P.length c] w fun e w' => e = .returned (.tuple #[.string (str (printP P).1), .int .i64 (printP P).2]) ∧ Fresh w w' := by
  by_cases hc : (checkP P).2 = 0
  · exact print_good A P c w h hn hT hin hc
  · exact print_bad A P c w h hn hT hc
theorem itoa_dig {n : Nat} (h : n < 10) : Lib.itoa (n : Int) = [UInt8.ofNat (48 + n)] := by
  unfold Lib.itoa
  rw [if_neg (by omega)]
  exact Lib.decDigits_one h
theorem itoa_m5 : Lib.itoa (-5) = [45, 53] := by
  unfold Lib.itoa
  rw [if_pos (by decide)]
  exact congrArg (fun l => 45 :: l) (Lib.decDigits_one (i := 5) (by decide))
def awakeP : List Ins := [⟨1, 2, -5, 0, 0⟩, ⟨14, 1, 2, 3, 7⟩]
def awakeT : List UInt8 := [115, 101, 116, 32, 50, 32, 45, 53, 10, 115, 101, 110, 100, 32, 49, 32, 50, 32, 51, 32, 55, 10]
theorem awake_print : printP awakeP = (awakeT, 0) := by
  have hc : (checkP awakeP).2 = 0 := by decide
  unfold printP
  rw [if_neg (by simp [hc])]
  have e : printL awakeP = (word 1 ++ (32 :: Lib.itoa 2) ++ (32 :: Lib.itoa (-5)) ++ [10]) ++ (word 14 ++ (32 :: Lib.itoa 1) ++ (32 :: Lib.itoa 2) ++ (32 :: Lib.itoa 3) ++ (32 :: Lib.itoa 7) ++ [10]) := by
    simp [printL, awakeP, lineOf, wordsOf, Ins.nums, show many 1 = 2 from rfl, show many 14 = 4 from rfl]
  rw [e, itoa_m5, show Lib.itoa 2 = [50] from itoa_dig (n := 2) (by decide), show Lib.itoa 1 = [49] from itoa_dig (n := 1) (by decide), show Lib.itoa 3 = [51] from itoa_dig (n := 3) (by decide), show Lib.itoa 7 = [55] from itoa_dig (n := 7) (by decide)]
  rfl
def awakeS : List UInt8 := [106, 117, 109, 112, 32, 51, 10, 115, 116, 111, 112, 10]
theorem awake_parse : parseP awakeS = ([], 1, 10) := by
  have hn : numP [51] = some 3 := by
    have := num_itoa (n := 3) ⟨by decide, by decide⟩
    rwa [show Lib.itoa 3 = [51] from itoa_dig (n := 3) (by decide)] at this
  have hr : readP [106, 117, 109, 112, 32, 51] = some ⟨8, 3, 0, 0, 0⟩ := by
    unfold readP
    rw [show pieces 32 [106, 117, 109, 112, 32, 51] = [[106, 117, 109, 112], [51]] by decide]
    simp only
    rw [if_neg (by decide)]
    simp [numsP, hn]
    rfl
  unfold parseP
  rw [if_neg (by decide), show pieces 10 awakeS = [[106, 117, 109, 112, 32, 51], [115, 116, 111, 112], []] by decide]
  unfold parseL
  rw [if_neg (by simp), hr]
  rfl
theorem awake_any (w : World) (hT : Tabs w) : Calls Tryd.prog 8 #[] w fun e w' => e = .returned (.bool true) ∧ Fresh w w' := by
  have HT := Lib.hid hT
  have BP : Hid (Blk (w.alloc (.cells #[.int .i64 1, .int .i64 2, .int .i64 (-5), .int .i64 0, .int .i64 0, .int .i64 14, .int .i64 1, .int .i64 2, .int .i64 3, .int .i64 7] 34)) w.heap.size 34 (icells awakeP).toArray) := Lib.hid (Blk.new w _ _)
  have HPR : Hid (Calls Tryd.prog 9 #[.slice (some ⟨w.heap.size, 0, none⟩) 2 2] (w.alloc (.cells #[.int .i64 1, .int .i64 2, .int .i64 (-5), .int .i64 0, .int .i64 0, .int .i64 14, .int .i64 1, .int .i64 2, .int .i64 3, .int .i64 7] 34)) fun e w' => e = .returned (.tuple #[.string (str awakeT), .int .i64 0]) ∧ Fresh (w.alloc (.cells #[.int .i64 1, .int .i64 2, .int .i64 (-5), .int .i64 0, .int .i64 0, .int .i64 14, .int .i64 1, .int .i64 2, .int .i64 3, .int .i64 7] 34)) w') := Lib.hid (by
    have hp : Prg (w.alloc (.cells #[.int .i64 1, .int .i64 2, .int .i64 (-5), .int .i64 0, .int .i64 0, .int .i64 14, .int .i64 1, .int .i64 2, .int .i64 3, .int .i64 7] 34)) (some ⟨w.heap.size, 0, none⟩) awakeP := fun i x hx => by
      refine ⟨w.heap.size, 0, rfl, BP.out.lt, fun j u hu => ?_⟩
      rw [Nat.zero_add]
      refine BP.out.cell_ _ ?_
      rw [← Array.getElem?_toList]
      exact icells_at awakeP i x hx j u hu
    have hin : ∀ x ∈ awakeP, x.In := by
      intro x hx n hn
      simp only [awakeP, List.mem_cons, List.not_mem_nil, or_false] at hx
      rcases hx with rfl | rfl <;> (simp only [Ins.nums, List.mem_cons, List.not_mem_nil, or_false] at hn; rcases hn with rfl | rfl | rfl | rfl <;> exact ⟨by decide, by decide⟩)
    have := print_any _ awakeP 2 _ hp (by decide) (HT.out.fresh ((Keep.refl _ w).alloc _)) hin
    rw [awake_print] at this
    exact this)
  have HPS : Hid (∀ W, Fresh w W → Calls Tryd.prog 12 #[.string (str awakeS)] W fun e w' => ∃ v, e = .returned (.tuple #[v, .int .i64 1, .int .i64 10]) ∧ Fresh W w') := Lib.hid fun W f => by
    have := parse_any awakeS W (by decide) (HT.out.fresh f)
    rw [awake_parse] at this
    refine this.mono ?_
    rintro e w' ⟨v, h1, _, h3⟩
    exact ⟨v, h1, h3⟩
  have HWD : Hid (∀ W, Fresh w W → Calls Tryd.prog 13 #[.int .i64 14] W fun e w' => e = .returned (.tuple #[.string (str [115, 101, 110, 100]), .int .i64 4]) ∧ Fresh W w') := Lib.hid fun W f => word_any 14 W (HT.out.fresh f)
  have tA : ((str awakeT).toList == [115, 101, 116, 32, 50, 32, 45, 53, 10, 115, 101, 110, 100, 32, 49, 32, 50, 32, 51, 32, 55, 10]) = true := by rw [Lib.toList_data]; rfl
  have tB : ((str [115, 101, 110, 100]).toList == [115, 101, 110, 100]) = true := by rw [Lib.toList_data]; rfl
  clear hT
  go_enter Tryd.func8, Tryd.ntmps8
  go_wp2_with (first
    | (go_at_call 9; refine HPR.out.mono ?_; rintro e w1 ⟨rfl, f1⟩; have F1 := Lib.hid (Keep.step (S := fun _ => False) ((Keep.refl _ w).alloc _) f1 (fun _ _ h => h)); clear f1)
    | (go_at_call 12; refine (HPS.out _ F1.out).mono ?_; rintro e w2 ⟨v2, rfl, f2⟩; have F2 := Lib.hid (F1.out.step f2 (fun _ _ h => h)); clear f2)
    | (go_at_call 13; refine (HWD.out _ F2.out).mono ?_; rintro e w3 ⟨rfl, f3⟩; have F3 := Lib.hid (F2.out.step f3 (fun _ _ h => h)); clear f3))
  go_returns
  exact ⟨rfl, F3.out⟩
end Go.Proofs.YtkhlldmnnakoaaaDoor
