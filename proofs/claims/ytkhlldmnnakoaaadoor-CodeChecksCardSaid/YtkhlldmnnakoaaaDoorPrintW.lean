/-
  code.Print: what a program prints.
-/
import Derived.Test.YtkhlldmnnakoaaaDoorBuildW
import Derived.Deep.DeepCutAuto
import Derived.Lib.ItoaLen
namespace Go.Proofs.YtkhlldmnnakoaaaDoor
open Go.RowKit
attribute [local go_sem ↓] Go.wp_at_zero Go.wp_at_succ

theorem fresh_grow (w : World) (k : Nat) (os : Array Obj) : Fresh w (Go.Sort.grow (w.drewN k) os) := by
  refine ⟨rfl, rfl, rfl, ?_, fun i hi _ => Array.getElem?_append_left hi⟩
  show w.heap.size ≤ (w.heap ++ os).size
  simp
theorem itoa_any (n : Int) (h : inI64 n) (w : World) (hT : Lib.TabIs Tryd.prog w "internal/strconv.uint64pow10" .u64 Lib.pow10Tab) : Calls Tryd.prog 23 #[.int .i64 n] w fun e w' => e = .returned (.string (str (Lib.itoa n))) ∧ Fresh w w' := by
  refine (Tryd.strconv_Itoa n h.1 h.2 w hT).mono ?_
  rintro e w' ⟨rfl, k, os, rfl⟩
  exact ⟨rfl, fresh_grow w k os⟩
theorem str_app (a b : List UInt8) : str a ++ str b = str (a ++ b) := by
  apply ByteArray.ext
  simp [str]
theorem word_len {op : Int} : (word op).length ≤ 4 := by
  by_cases h : op < 1 ∨ 15 < op
  · unfold word; rw [if_pos h]; simp
  · rcases op_cases h with rfl | rfl | rfl | rfl | rfl | rfl | rfl | rfl | rfl | rfl | rfl | rfl | rfl | rfl | rfl <;> decide
theorem words_len (l : List Int) (h : ∀ n ∈ l, inI64 n) : ((l.map Lib.itoa).flatMap fun w => 32 :: w).length ≤ 22 * l.length := by
  induction l with
  | nil => simp
  | cons a l ih =>
    have h1 := Lib.itoa_length_le a (h a (by simp)).1 (h a (by simp)).2
    have h2 := ih (fun n hn => h n (by simp [hn]))
    simp only [List.map_cons, List.flatMap_cons, List.length_append, List.length_cons] at h2 ⊢
    omega
theorem line_len {x : Ins} (h : x.In) : (lineOf x).length ≤ 92 := by
  have h1 := word_len (op := x.op)
  have h2 := words_len (x.nums.take (many x.op)) (fun n hn => h n (List.mem_of_mem_take hn))
  have h3 : (x.nums.take (many x.op)).length ≤ 4 := by simp [Ins.nums]; omega
  unfold lineOf wordsOf
  rw [List.length_append]
  omega
theorem print_len {P : List Ins} (h : ∀ x ∈ P, x.In) : (printL P).length ≤ 93 * P.length := by
  induction P with
  | nil => simp [printL]
  | cons x P ih =>
    have h1 := line_len (h x (by simp))
    have h2 := ih (fun y hy => h y (by simp [hy]))
    have e : printL (x :: P) = lineOf x ++ 10 :: printL P := by simp [printL]
    rw [e, List.length_append, List.length_cons, List.length_cons]
    omega
theorem print_succ {P : List Ins} {q : Nat} {x : Ins} (h : P[q]? = some x) : printL (P.take (q + 1)) = printL (P.take q) ++ lineOf x ++ [10] := by
  rw [List.take_add_one, h, Option.toList_some]
  simp [printL]
/-- what of a line is written behind i numbers -/
def partOf (x : Ins) (i : Nat) : List UInt8 := word x.op ++ ((x.nums.take (min i (many x.op))).map Lib.itoa).flatMap fun w => 32 :: w
theorem part_four {x : Ins} (h : ¬ (x.op < 1 ∨ 15 < x.op)) : partOf x 4 = lineOf x := by
  have := (ask_many h).1
  unfold partOf lineOf wordsOf
  rw [Nat.min_eq_right this]
theorem part_zero (x : Ins) : partOf x 0 = word x.op := by simp [partOf]
theorem part_in {x : Ins} {i : Nat} {n : Int} (hi : i < many x.op) (hn : x.nums[i]? = some n) : partOf x (i + 1) = partOf x i ++ 32 :: Lib.itoa n := by
  unfold partOf
  rw [Nat.min_eq_left (by omega), Nat.min_eq_left (by omega), List.take_add_one, hn]
  simp
theorem part_out {x : Ins} {i : Nat} (hi : ¬ i < many x.op) : partOf x (i + 1) = partOf x i := by
  unfold partOf
  rw [Nat.min_eq_right (by omega), Nat.min_eq_right (by omega)]
theorem part_len {x : Ins} (h : x.In) (i : Nat) : (partOf x i).length ≤ 92 := by
  have h1 := word_len (op := x.op)
  have h2 := words_len (x.nums.take (min i (many x.op))) (fun n hn => h n (List.mem_of_mem_take hn))
  have h3 : (x.nums.take (min i (many x.op))).length ≤ 4 := by simp [Ins.nums]; omega
  unfold partOf
  rw [List.length_append]
  omega
set_option maxHeartbeats 1000000 in
theorem print_bad (A : Option Addr) (P : List Ins) (c : Nat) (w : World) (h : Prg w A P) (hn : P.length ≤ 9223372036854775807) (hT : Tabs w) (hc : (checkP P).2 ≠ 0) : Calls Tryd.prog 9 #[.slice A P.length c] w fun e w' => e = .returned (.tuple #[.string (str (printP P).1), .int .i64 (printP P).2]) ∧ Fresh w w' := by
  have HC := Lib.hid (check_any A P c w h hn hT.nums)
  have e1 : printP P = ([], (checkP P).2) := by unfold printP; rw [if_pos hc]
  rw [e1]
  obtain ⟨R1, R2, hR⟩ : ∃ R1 R2, checkP P = (R1, R2) := ⟨_, _, rfl⟩
  rw [hR] at HC hc ⊢
  simp only at HC hc ⊢
  have t1 : (R2 == 0) = false := by simpa using hc
  have hc' := hc
  clear e1 hR hc h hT
  go_enter Tryd.func9, Tryd.ntmps9
  go_wp2_with (go_at_call 18; (with_reducible refine HC.out.mono ?_); rintro e w1 ⟨rfl, f1⟩)
  go_returns
  exact ⟨rfl, f1⟩
set_option maxRecDepth 100000 in
set_option maxHeartbeats 4000000 in
theorem print_good (A : Option Addr) (P : List Ins) (c : Nat) (w : World) (h : Prg w A P) (hn : P.length ≤ 9223372036854775807) (hT : Tabs w) (hin : ∀ x ∈ P, x.In) (hc : (checkP P).2 = 0) : Calls Tryd.prog 9 #[.slice A P.length c] w fun e w' => e = .returned (.tuple #[.string (str (printP P).1), .int .i64 (printP P).2]) ∧ Fresh w w' := by
  have HC := Lib.hid (check_any A P c w h hn hT.nums)
  have e1 : printP P = (printL P, 0) := by unfold printP; rw [if_neg (by simp [hc])]
  have hle : P.length ≤ 64 ∧ ∀ x ∈ P, mayE x P.length = 0 := by
    unfold checkP at hc
    by_cases h64 : 64 < P.length
    · rw [if_pos h64] at hc; cases hc
    · rw [if_neg h64] at hc; exact ⟨by omega, check_ok hc⟩
  rw [e1, hc] at *
  have HM := Lib.hid hle.2
  have hle := hle.1
  have HP := Lib.hid h
  have HT := Lib.hid hT
  have HI := Lib.hid hin
  obtain ⟨R1, hR⟩ : ∃ R1, (checkP P).1 = R1 := ⟨_, rfl⟩
  rw [hR] at HC
  clear e1 hc h hT hin hR
  go_enter Tryd.func9, Tryd.ntmps9
  go_wp2_with (go_at_call 18; (with_reducible refine HC.out.mono ?_); rintro e w1 ⟨rfl, f1⟩; have F1 := Lib.hid f1; clear f1)
  go_loopg [22] P.length (fun gk u wr => ∃ q : Nat, q ≤ P.length ∧ gk = P.length - q ∧ u = .int .i64 q ∧ Bld w1 w1.heap.size (printL (P.take q)) wr)
  case atStart => exact ⟨0, by omega, rfl, rfl, Bld.new w1⟩
  case round =>
    obtain ⟨q, hq, rfl, rfl, hB⟩ := hrel
    have HB := Lib.hid hB
    have HF := Lib.hid (F1.out.step hB.f (fun _ _ h => h))
    have lb : w1.heap.size < wr.heap.size := by
      rcases hB.is with hb | hb
      · obtain ⟨_, v, hbk, _⟩ := hb; exact (Array.getElem?_eq_some_iff.1 hbk).1
      · obtain ⟨_, v, hbk, _⟩ := hb; exact (Array.getElem?_eq_some_iff.1 hbk).1
    clear hB
    by_cases hlt : q < P.length
    · obtain ⟨x, hx⟩ : ∃ x, P[q]? = some x := ⟨_, List.getElem?_eq_getElem hlt⟩
      have hxm := List.mem_of_getElem? hx
      have hmay := HM.out x hxm
      have hxi := HI.out x hxm
      obtain ⟨hop, _⟩ := mayE_op hmay
      have HX := Lib.hid hxi
      have HOP := Lib.hid hop
      have HS := Lib.hid (print_succ hx)
      have hpl := print_len (P := P.take q) (fun y hy => HI.out y (List.mem_of_mem_take hy))
      rw [List.length_take] at hpl
      obtain ⟨L, hL⟩ : ∃ L, printL (P.take q) = L := ⟨_, rfl⟩
      rw [hL] at HB HS hpl
      have hLl : L.length ≤ 6000 := by omega
      have HPart := Lib.hid (fun i => part_len hxi i)
      obtain ⟨op, a, b, c', d⟩ := x
      obtain ⟨k, hk⟩ := Int.eq_ofNat_of_zero_le (show 0 ≤ op by simp only at hop; omega)
      simp only at hop hk
      subst hk
      obtain ⟨g, off, rfl, lt, c0, c1, c2, c3, c4⟩ := (HP.out.fresh HF.out).five hx
      obtain ⟨k0, k1, k2, k3, hask⟩ := ask_four (k : Int)
      have hk1 : 1 ≤ k := by omega
      have hk2 : k ≤ 15 := by omega
      have fA : Fresh w (wr.alloc (.cells #[.int .i64 k, .int .i64 a, .int .i64 b, .int .i64 c', .int .i64 d] 34)) := HF.out.alloc _
      have hTr := HT.out.fresh fA
      have e0 := hTr.text k hk1 hk2
      have e1 := hTr.many k hk1 hk2
      have n0 := hTr.nums k hk1 hk2 0 k0 (by rw [hask]; rfl)
      have n1 := hTr.nums k hk1 hk2 1 k1 (by rw [hask]; rfl)
      have n2 := hTr.nums k hk1 hk2 2 k2 (by rw [hask]; rfl)
      have n3 := hTr.nums k hk1 hk2 3 k3 (by rw [hask]; rfl)
      obtain ⟨M, hM⟩ : ∃ M, many (k : Int) = M := ⟨_, rfl⟩
      have HMM := Lib.hid hM
      rw [hM] at e1
      have e0 : (wr.alloc (.cells #[.int .i64 k, .int .i64 a, .int .i64 b, .int .i64 c', .int .i64 d] 34)).cell? ⟨0, k * 6, none⟩ = some (.string (str (word k))) := e0
      have t1 : decide ((q : Int) < (P.length : Int)) = true := decide_eq_true (by omega)
      have t1' : decide (q < P.length) = true := decide_eq_true hlt
      have q1 : (q : Int) < (P.length : Int) := by omega
      have q2 : (k : Int) < 16 := by omega
      have BX : Hid (Blk (wr.alloc (.cells #[.int .i64 k, .int .i64 a, .int .i64 b, .int .i64 c', .int .i64 d] 34)) wr.heap.size 34 #[.int .i64 k, .int .i64 a, .int .i64 b, .int .i64 c', .int .i64 d]) := Lib.hid (Blk.new wr _ _)
      clear hTr hask hM hx hxm hmay hxi hpl hL hop
      go_upto_region 9 with (fail)
      have gxb : wr.heap.size ≠ w1.heap.size := by omega
      have gab : wr.heap.size + 1 ≠ w1.heap.size := by omega
      have BX2 : Hid (Blk ((wr.alloc (.cells #[.int .i64 k, .int .i64 a, .int .i64 b, .int .i64 c', .int .i64 d] 34)).alloc (.cells #[.string ⟨(word k).toArray⟩, .int .i64 M, .int .i64 k0, .int .i64 k1, .int .i64 k2, .int .i64 k3] 56)) wr.heap.size 34 #[.int .i64 k, .int .i64 a, .int .i64 b, .int .i64 c', .int .i64 d]) := Lib.hid (BX.out.alloc _)
      have BA2 : Hid (Blk ((wr.alloc (.cells #[.int .i64 k, .int .i64 a, .int .i64 b, .int .i64 c', .int .i64 d] 34)).alloc (.cells #[.string ⟨(word k).toArray⟩, .int .i64 M, .int .i64 k0, .int .i64 k1, .int .i64 k2, .int .i64 k3] 56)) (wr.heap.size + 1) 56 #[.string ⟨(word k).toArray⟩, .int .i64 M, .int .i64 k0, .int .i64 k1, .int .i64 k2, .int .i64 k3]) := Lib.hid (Blk.at_new (by simp) _ _)
      have HB2 : Hid (Bld w1 w1.heap.size L ((wr.alloc (.cells #[.int .i64 k, .int .i64 a, .int .i64 b, .int .i64 c', .int .i64 d] 34)).alloc (.cells #[.string ⟨(word k).toArray⟩, .int .i64 M, .int .i64 k0, .int .i64 k1, .int .i64 k2, .int .i64 k3] 56))) := Lib.hid ((HB.out.alloc _).alloc _)
      obtain ⟨wA, hwA⟩ : ∃ wA, (wr.alloc (.cells #[.int .i64 k, .int .i64 a, .int .i64 b, .int .i64 c', .int .i64 d] 34)).alloc (.cells #[.string ⟨(word k).toArray⟩, .int .i64 M, .int .i64 k0, .int .i64 k1, .int .i64 k2, .int .i64 k3] 56) = wA := ⟨_, rfl⟩
      rw [hwA] at BX2 BA2 HB2 ⊢
      obtain ⟨gx, hgx⟩ : ∃ gx, wr.heap.size = gx := ⟨_, rfl⟩
      rw [hgx] at BX2 BA2 gxb gab ⊢
      have cx := BX2.out.cell
      have lx := BX2.out.lt
      have ca := BA2.out.cell
      have la := BA2.out.lt
      have HW4 := word_len (op := (k : Int))
      clear hwA hgx c0 c1 c2 c3 c4 e0 e1 n0 n1 n2 n3 BX fA lt
      go_upto_region 11 with (first
        | (go_at_call 21; refine (bstr_any HB2.out (word k) (by omega)).mono ?_; rintro e w2 ⟨⟨v2, rfl⟩, b2, o2⟩; have HB3 := Lib.hid b2; have BX3 := Lib.hid (blk_others BX2.out o2 gxb (by decide)); have BA3 := Lib.hid (blk_others BA2.out o2 gab (by decide)); have cx3 := BX3.out.cell; have lx3 := BX3.out.lt; clear b2 o2)
        | (go_at_call 22; refine (numbers_any ⟨k, a, b, c', d⟩ _).mono ?_; rintro e w3 ⟨rfl, f3⟩; have HB4 := Lib.hid (HB3.out.fresh f3); have BX4 := Lib.hid (Fresh.blk_ f3 BX3.out); have BA4 := Lib.hid (Fresh.blk_ f3 BA3.out); clear f3))
      obtain ⟨X, hX⟩ : ∃ X : Ins, X = ⟨k, a, b, c', d⟩ := ⟨_, rfl⟩
      have HXX := Lib.hid hX
      rw [← hX] at HX HS HPart
      have HOP : Hid (¬ (X.op < 1 ∨ 15 < X.op)) := Lib.hid (by rw [hX]; exact HOP.out)
      have hwordX : word k = word X.op := by rw [hX]
      have START : Hid (Bld w1 w1.heap.size (L ++ partOf X 0) w3) := Lib.hid (by rw [part_zero, ← hwordX]; exact HB4.out)
      have hMX : many X.op = M := by rw [hX]; exact HMM.out
      have HMX := Lib.hid hMX
      have hFX : Hid (Fresh w w3) := Lib.hid (F1.out.step HB4.out.f (fun _ _ h => h))
      obtain ⟨NL, hNL⟩ : ∃ NL : List Int, [a, b, c', d] = NL := ⟨_, rfl⟩
      have HNL : Hid (∀ i : Nat, i < 4 → ∃ N, X.nums[i]? = some N ∧ inI64 N ∧ ∀ W, (Instr.index 54 (.agg #[.int .i64 a, .int .i64 b, .int .i64 c', .int .i64 d]) (.int .i64 i)).run Tryd.prog W = .ok (.int .i64 N) W) := Lib.hid (by
        have hi4 := HX.out
        rw [hX] at hi4 ⊢
        intro i hi
        rcases (by omega : i = 0 ∨ i = 1 ∨ i = 2 ∨ i = 3) with rfl | rfl | rfl | rfl
        · exact ⟨a, rfl, hi4 a (by simp [Ins.nums]), fun W => run_ix4_0 a b c' d W⟩
        · exact ⟨b, rfl, hi4 b (by simp [Ins.nums]), fun W => run_ix4_1 a b c' d W⟩
        · exact ⟨c', rfl, hi4 c' (by simp [Ins.nums]), fun W => run_ix4_2 a b c' d W⟩
        · exact ⟨d, rfl, hi4 d (by simp [Ins.nums]), fun W => run_ix4_3 a b c' d W⟩)
      clear hX hwordX hMX hNL cx lx ca la cx3 lx3 HB2 BX2 BA2 HB3 BX3 BA3 HMM
      go_loopg [36] 4 (fun gk u wr => ∃ i : Nat, i ≤ 4 ∧ gk = 4 - i ∧ u = .int .i64 i ∧ Bld w1 w1.heap.size (L ++ partOf X i) wr ∧ Blk wr (gx + 1) 56 #[.string ⟨(word k).toArray⟩, .int .i64 M, .int .i64 k0, .int .i64 k1, .int .i64 k2, .int .i64 k3])
      case atStart => exact ⟨0, by omega, rfl, rfl, START.out, BA4.out⟩
      case round =>
        obtain ⟨i, hi, rfl, rfl, hB, hA⟩ := hrel
        have HBi := Lib.hid hB
        have HAi := Lib.hid hA
        have ca := hA.cell
        have la := hA.lt
        have hpl := HPart.out i
        clear hB hA START
        by_cases hi4 : i < 4
        · obtain ⟨N, hN, hNi, hix⟩ := HNL.out i hi4
          have ti : decide ((i : Int) < 4) = true := decide_eq_true (by omega)
          have ti' : decide (i < 4) = true := decide_eq_true hi4
          have HTi := Lib.hid (HT.out.fresh (F1.out.step HBi.out.f (fun _ _ h => h))).pow
          have HNi := Lib.hid hNi
          have HNN := Lib.hid hN
          clear hN hNi
          by_cases hM : i < M
          · have tm : decide ((i : Int) < (M : Int)) = true := decide_eq_true (by omega)
            have tm' : decide (i < M) = true := decide_eq_true hM
            have HPI := Lib.hid (part_in (x := X) (i := i) (by rw [HMX.out]; exact hM) HNN.out)
            have hlen := Lib.itoa_length_le N HNi.out.1 HNi.out.2
            have hcat : ∀ W, (Op.stringOp .add ⟨#[32]⟩ (str (Lib.itoa N))).run Tryd.prog W = .ok (.string (str (32 :: Lib.itoa N))) W := fun W => run_string_add_lists W [32] (Lib.itoa N) (by simp) (by omega)
            clear hM
            go_wp2_with (first
              | (go_at_call 23; (with_reducible refine (itoa_any N HNi.out _ HTi.out).mono ?_); rintro e w5 ⟨rfl, f5⟩; have HB5 := Lib.hid (HBi.out.fresh f5); have HA5 := Lib.hid (Fresh.blk_ f5 HAi.out); clear f5)
              | (go_at_call 21; refine (bstr_any HB5.out (32 :: Lib.itoa N) (by simp only [List.length_append, List.length_cons]; omega)).mono ?_; rintro e w6 ⟨⟨v6, rfl⟩, b6, o6⟩; have HB6 := Lib.hid b6; have HA6 := Lib.hid (blk_others HA5.out o6 gab (by decide)); clear b6 o6))
            go_roundg (4 - (i + 1))
            case measure => omega
            case rel => exact ⟨i + 1, by omega, rfl, by go_num, by rw [HPI.out, ← List.append_assoc]; exact HB6.out, HA6.out⟩
          · have tm : decide ((i : Int) < (M : Int)) = false := decide_eq_false (by omega)
            have tm' : decide (i < M) = false := decide_eq_false hM
            have HPO := Lib.hid (part_out (x := X) (i := i) (by rw [HMX.out]; exact hM))
            clear hM
            go_wp2_with fail
            go_roundg (4 - (i + 1))
            case measure => omega
            case rel => exact ⟨i + 1, by omega, rfl, by go_num, by rw [HPO.out]; exact HBi.out, HAi.out⟩
        · obtain rfl : i = 4 := by omega
          have HPF := Lib.hid (part_four HOP.out)
          go_wp2_with (go_at_call 24; refine (bbyte_any HBi.out 10 (by rw [List.length_append]; omega)).mono ?_; rintro e w7 ⟨rfl, b7, o7⟩; have HB7 := Lib.hid b7; clear b7 o7)
          go_roundg (P.length - (q + 1))
          case measure => omega
          case rel => exact ⟨q + 1, by omega, rfl, by go_num, by rw [HS.out, ← HPF.out]; exact HB7.out⟩
    · obtain rfl : q = P.length := by omega
      rw [List.take_length] at HB
      have t1 : decide ((P.length : Int) < (P.length : Int)) = false := decide_eq_false (by omega)
      go_wp2_with (go_at_call 25; (with_reducible refine (bget_any HB.out).mono ?_); rintro e w3 ⟨rfl, f3⟩)
      go_returns
      exact ⟨rfl, F1.out.step f3 (fun _ _ h => h)⟩
end Go.Proofs.YtkhlldmnnakoaaaDoor
