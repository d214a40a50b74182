/-
  A program's text, in plain words: what is printed, what is read, and that each undoes the other.
-/
import Derived.Test.YtkhlldmnnakoaaaDoorInsP
import Derived.Lib.Split
import Derived.Lib.SplitLaws
import Derived.Lib.AtoiAll
import Derived.Lib.ItoaNum
import Derived.Lib.CutLaws
import Derived.Lib.AtoiAllCases
namespace Go.Proofs.YtkhlldmnnakoaaaDoor
open Go.Lib

/-! ### the words -/
def wordT : List (List UInt8) := [[115, 101, 116], [109, 111, 118, 101], [97, 100, 100], [115, 117, 98], [109, 117, 108], [109, 111, 100], [108, 101, 115, 115], [106, 117, 109, 112], [122, 101, 114, 111], [110, 111, 119], [107, 105, 110, 100], [100, 97, 116, 97], [115, 101, 108, 102], [115, 101, 110, 100], [115, 116, 111, 112]]
def manyT : List Nat := [2, 2, 3, 3, 3, 3, 3, 1, 2, 1, 1, 1, 1, 4, 0]
def word (op : Int) : List UInt8 := if op < 1 ∨ 15 < op then [] else wordT.getD (op - 1).toNat []
def many (op : Int) : Nat := if op < 1 ∨ 15 < op then 0 else manyT.getD (op - 1).toNat 0
def namedFrom (w : List UInt8) : Nat → List (List UInt8) → Nat
  | _, [] => 0
  | k, t :: ts => if t = w then k else namedFrom w (k + 1) ts
def namedP (w : List UInt8) : Nat := namedFrom w 1 wordT
theorem op_cases {op : Int} (h : ¬ (op < 1 ∨ 15 < op)) : op = 1 ∨ op = 2 ∨ op = 3 ∨ op = 4 ∨ op = 5 ∨ op = 6 ∨ op = 7 ∨ op = 8 ∨ op = 9 ∨ op = 10 ∨ op = 11 ∨ op = 12 ∨ op = 13 ∨ op = 14 ∨ op = 15 := by omega
theorem named_word {op : Int} (h : ¬ (op < 1 ∨ 15 < op)) : (namedP (word op) : Int) = op := by
  rcases op_cases h with rfl | rfl | rfl | rfl | rfl | rfl | rfl | rfl | rfl | rfl | rfl | rfl | rfl | rfl | rfl <;> decide
theorem word_clean {op : Int} (h : ¬ (op < 1 ∨ 15 < op)) : 32 ∉ word op ∧ 10 ∉ word op := by
  rcases op_cases h with rfl | rfl | rfl | rfl | rfl | rfl | rfl | rfl | rfl | rfl | rfl | rfl | rfl | rfl | rfl <;> decide
theorem ask_many {op : Int} (h : ¬ (op < 1 ∨ 15 < op)) : many op ≤ 4 ∧ ∀ j, j < 4 → many op ≤ j → (ask op)[j]? = some 0 := by
  rcases op_cases h with rfl | rfl | rfl | rfl | rfl | rfl | rfl | rfl | rfl | rfl | rfl | rfl | rfl | rfl | rfl <;> decide
theorem namedFrom_some {w : List UInt8} : ∀ {ts : List (List UInt8)} {k : Nat}, 0 < k → namedFrom w k ts ≠ 0 → ∃ i, ts[i]? = some w ∧ namedFrom w k ts = k + i
  | [], k, _, h => by simp [namedFrom] at h
  | t :: ts, k, hk, h => by
    unfold namedFrom at h ⊢
    by_cases e : t = w
    · rw [if_pos e]; exact ⟨0, by simp [e], rfl⟩
    · rw [if_neg e] at h ⊢
      obtain ⟨i, h1, h2⟩ := namedFrom_some (k := k + 1) (by omega) h
      exact ⟨i + 1, by simpa using h1, by omega⟩
theorem namedP_some {w : List UInt8} (h : namedP w ≠ 0) : 1 ≤ namedP w ∧ namedP w ≤ 15 ∧ word (namedP w) = w := by
  unfold namedP at h ⊢
  obtain ⟨i, h1, h2⟩ := namedFrom_some (by omega) h
  have hi : i < 15 := (List.getElem?_eq_some_iff.1 h1).1
  rw [h2]
  refine ⟨by omega, by omega, ?_⟩
  unfold word
  rw [if_neg (by omega), show ((((1 + i : Nat) : Int) - 1).toNat) = i by omega, List.getD_eq_getElem?_getD, h1]
  rfl

/-! ### a text in pieces -/
def pieces (c : UInt8) : List UInt8 → List (List UInt8)
  | [] => [[]]
  | b :: l => if b = c then [] :: pieces c l else
    match pieces c l with
    | [] => [[b]]
    | w :: ws => (b :: w) :: ws
theorem pieces_ne (c : UInt8) : ∀ l, pieces c l ≠ []
  | [] => by simp [pieces]
  | b :: l => by
    unfold pieces
    split
    · simp
    · split <;> simp
theorem pieces_clean {c : UInt8} : ∀ {l : List UInt8}, c ∉ l → pieces c l = [l]
  | [], _ => rfl
  | b :: l, h => by
    simp only [List.mem_cons, not_or] at h
    unfold pieces
    rw [if_neg (fun e => h.1 e.symm), pieces_clean h.2]
theorem pieces_app {c : UInt8} : ∀ {l : List UInt8} (m : List UInt8), c ∉ l → pieces c (l ++ c :: m) = l :: pieces c m
  | [], m, _ => by simp [pieces]
  | b :: l, m, h => by
    simp only [List.mem_cons, not_or] at h
    rw [List.cons_append, pieces, if_neg (fun e => h.1 e.symm), pieces_app m h.2]
theorem pieces_count (c : UInt8) : ∀ l : List UInt8, (pieces c l).length = l.count c + 1
  | [] => rfl
  | b :: l => by
    have ih := pieces_count c l
    unfold pieces
    by_cases e : b = c
    · rw [if_pos e, List.length_cons, ih, e, List.count_cons_self]
    · rw [if_neg e, List.count_cons_of_ne e]
      split
      · rename_i h; exact absurd h (pieces_ne c l)
      · rename_i w ws h; rw [h] at ih; simpa using ih
/-- the pieces, each with its end but the last one -/
def glue (c : UInt8) : List (List UInt8) → List UInt8
  | [] => []
  | [w] => w
  | w :: ws => w ++ c :: glue c ws
theorem glue_cons (c : UInt8) (w : List UInt8) {ws : List (List UInt8)} (h : ws ≠ []) : glue c (w :: ws) = w ++ c :: glue c ws := by
  cases ws with
  | nil => exact absurd rfl h
  | cons a l => rfl
theorem glue_pieces (c : UInt8) : ∀ l, glue c (pieces c l) = l
  | [] => rfl
  | b :: l => by
    have ih := glue_pieces c l
    unfold pieces
    by_cases e : b = c
    · rw [if_pos e, glue_cons _ _ (pieces_ne c l), ih, e]; rfl
    · rw [if_neg e]
      cases h : pieces c l with
      | nil => exact absurd h (pieces_ne c l)
      | cons w ws =>
        simp only
        rw [h] at ih
        cases ws with
        | nil => simpa [glue] using ih
        | cons a m => simp only [glue, List.cons_append] at ih ⊢; rw [ih]
theorem glue_flat (c : UInt8) (w : List UInt8) : ∀ ws : List (List UInt8), glue c (w :: ws) = w ++ ws.flatMap fun u => c :: u
  | [] => by simp [glue]
  | a :: ws => by
    have ih := glue_flat c a ws
    rw [glue_cons c w (by simp), ih]
    simp
theorem pieces_clean_mem {c : UInt8} : ∀ {l w : List UInt8}, w ∈ pieces c l → c ∉ w
  | [], w, h => by
    simp only [pieces, List.mem_singleton] at h
    subst h
    simp
  | b :: l, w, h => by
    unfold pieces at h
    by_cases e : b = c
    · rw [if_pos e] at h
      rcases List.mem_cons.1 h with rfl | h
      · simp
      · exact pieces_clean_mem h
    · rw [if_neg e] at h
      cases hp : pieces c l with
      | nil => exact absurd hp (pieces_ne c l)
      | cons u us =>
        rw [hp] at h
        rcases List.mem_cons.1 h with rfl | h
        · have := pieces_clean_mem (c := c) (l := l) (w := u) (by rw [hp]; simp)
          simp only [List.mem_cons, not_or]
          exact ⟨fun h => e h.symm, this⟩
        · exact pieces_clean_mem (l := l) (by rw [hp]; simp [h])

/-! ### a number as a word -/
theorem parse_snoc {c : UInt8} (hc : 48 ≤ c.toNat ∧ c.toNat ≤ 57) : ∀ {l : List UInt8} {acc v : Nat}, parseUint10 acc l = .ok v → v * 10 + (c.toNat - 48) < 18446744073709551616 → parseUint10 acc (l ++ [c]) = .ok (v * 10 + (c.toNat - 48))
  | [], acc, v, h, hv => by
    simp only [parseUint10, NumEnd.ok.injEq] at h
    subst h
    simp only [List.nil_append, parseUint10]
    rw [if_pos hc, if_neg (by omega), if_neg (by omega)]
  | b :: l, acc, v, h, hv => by
    simp only [List.cons_append, parseUint10] at h ⊢
    split at h
    · rename_i hb
      rw [if_pos hb]
      split at h
      · cases h
      · rename_i h1
        rw [if_neg h1]
        split at h
        · cases h
        · rename_i h2
          rw [if_neg h2]
          exact parse_snoc hc h hv
    · cases h
theorem digit_nat (d : Nat) (h : d < 10) : (UInt8.ofNat (48 + d)).toNat = 48 + d := by
  rw [UInt8.toNat_ofNat']
  omega
theorem decDigits_ne (u : Nat) : decDigits u ≠ [] := by
  rw [decDigits]
  split <;> simp
theorem parse_dec (u : Nat) : u < 18446744073709551616 → parseUint10 0 (decDigits u) = .ok u := by
  induction u using Nat.strongRecOn with
  | _ u ih =>
    intro hu
    rw [decDigits]
    by_cases h : u < 10
    · rw [dif_pos h]
      have hd := digit_nat u h
      simp only [parseUint10]
      rw [if_pos (by omega), if_neg (by omega), if_neg (by omega), hd]
      congr 1
      omega
    · rw [dif_neg h]
      have hd := digit_nat (u % 10) (by omega)
      have := parse_snoc (c := UInt8.ofNat (48 + u % 10)) (by omega) (ih (u / 10) (by omega) (by omega)) (by omega)
      rw [this, hd]
      congr 1
      omega
theorem decDigits_mem (u : Nat) : ∀ c ∈ decDigits u, 48 ≤ c.toNat ∧ c.toNat ≤ 57 := by
  induction u using Nat.strongRecOn with
  | _ u ih =>
    rw [decDigits]
    by_cases h : u < 10
    · rw [dif_pos h]
      intro c hc
      have hd := digit_nat u h
      rw [List.mem_singleton.1 hc]
      omega
    · rw [dif_neg h]
      intro c hc
      have hd := digit_nat (u % 10) (by omega)
      rcases List.mem_append.1 hc with hc | hc
      · exact ih (u / 10) (by omega) c hc
      · rw [List.mem_singleton.1 hc]; omega
theorem itoa_mem (n : Int) : ∀ c ∈ itoa n, c.toNat = 45 ∨ (48 ≤ c.toNat ∧ c.toNat ≤ 57) := by
  unfold itoa
  split
  · intro c hc
    rcases List.mem_cons.1 hc with rfl | hc
    · exact .inl rfl
    · exact .inr (decDigits_mem _ c hc)
  · intro c hc
    exact .inr (decDigits_mem _ c hc)
theorem itoa_clean (n : Int) : 32 ∉ itoa n ∧ 10 ∉ itoa n := by
  constructor <;> intro h <;> rcases itoa_mem n _ h with h | h <;> revert h <;> decide
def inI64 (n : Int) : Prop := -9223372036854775808 ≤ n ∧ n ≤ 9223372036854775807
theorem atoi_itoa {n : Int} (h : inI64 n) : atoiAll (itoa n) = .ok n := by
  obtain ⟨h0, h1⟩ := h
  unfold itoa
  by_cases hn : n < 0
  · rw [if_pos hn, atoiAll_minus]
    unfold parseMag signed
    rw [if_neg (decDigits_ne _), parse_dec _ (by omega)]
    simp only
    rw [if_neg (by omega)]
    congr 1
    omega
  · rw [if_neg hn]
    cases hd : decDigits n.toNat with
    | nil => exact absurd hd (decDigits_ne _)
    | cons c r =>
      have hc := decDigits_mem n.toNat c (by rw [hd]; simp)
      rw [atoiAll_plain c r (by omega) (by omega)]
      unfold parseMag signless
      rw [if_neg (by simp), ← hd, parse_dec _ (by omega)]
      simp only
      rw [if_neg (by omega)]
      congr 1
      omega
def numP (w : List UInt8) : Option Int :=
  match atoiAll w with
  | .ok v => if itoa v = w then some v else none
  | _ => none
theorem num_itoa {n : Int} (h : inI64 n) : numP (itoa n) = some n := by
  unfold numP
  rw [atoi_itoa h]
  simp
theorem num_some {w : List UInt8} {v : Int} (h : numP w = some v) : itoa v = w ∧ inI64 v := by
  unfold numP at h
  split at h
  · rename_i u hu
    split at h
    · rename_i e
      simp only [Option.some.injEq] at h
      subst h
      exact ⟨e, atoiAll_bounds hu⟩
    · cases h
  · cases h
def numsP : List (List UInt8) → Option (List Int)
  | [] => some []
  | w :: ws => match numP w with
    | none => none
    | some v => match numsP ws with
      | none => none
      | some vs => some (v :: vs)
theorem nums_itoa : ∀ {l : List Int}, (∀ n ∈ l, inI64 n) → numsP (l.map itoa) = some l
  | [], _ => rfl
  | n :: l, h => by
    simp only [List.map_cons, numsP]
    rw [num_itoa (h n (by simp)), nums_itoa (fun m hm => h m (by simp [hm]))]
theorem nums_some : ∀ {ws : List (List UInt8)} {vs : List Int}, numsP ws = some vs → vs.map itoa = ws ∧ vs.length = ws.length ∧ ∀ v ∈ vs, inI64 v
  | [], vs, h => by
    simp only [numsP, Option.some.injEq] at h
    subst h
    simp
  | w :: ws, vs, h => by
    simp only [numsP] at h
    split at h
    · cases h
    · rename_i v hv
      split at h
      · cases h
      · rename_i us hus
        simp only [Option.some.injEq] at h
        subst h
        obtain ⟨h1, h2, h3⟩ := nums_some hus
        obtain ⟨h4, h5⟩ := num_some hv
        refine ⟨by simp [h1, h4], by simp [h2], fun x hx => ?_⟩
        rcases List.mem_cons.1 hx with rfl | hx
        · exact h5
        · exact h3 x hx

/-! ### a line, and a text -/
def wordsOf (x : Ins) : List (List UInt8) := (x.nums.take (many x.op)).map itoa
def lineOf (x : Ins) : List UInt8 := word x.op ++ (wordsOf x).flatMap fun w => 32 :: w
def printL (p : List Ins) : List UInt8 := p.flatMap fun x => lineOf x ++ [10]
def checkFrom (many : Nat) : Nat → List Ins → Nat × Int
  | _, [] => (0, 0)
  | i, x :: p => if mayE x many ≠ 0 then (i + 1, mayE x many) else checkFrom many (i + 1) p
def checkP (p : List Ins) : Nat × Int := if 64 < p.length then (0, 11) else checkFrom p.length 0 p
def printP (p : List Ins) : List UInt8 × Int := if (checkP p).2 ≠ 0 then ([], (checkP p).2) else (printL p, 0)
def insOf (op : Nat) (ns : List Int) : Ins := ⟨op, ns.getD 0 0, ns.getD 1 0, ns.getD 2 0, ns.getD 3 0⟩
def readP (line : List UInt8) : Option Ins :=
  match pieces 32 line with
  | [] => none
  | w :: ws => if namedP w = 0 ∨ ws.length ≠ many (namedP w) then none else (numsP ws).map (insOf (namedP w))
def parseL (many : Nat) : Nat → List (List UInt8) → List Ins × Nat × Int
  | _, [] => ([], 0, 0)
  | k, l :: ls => if ls = [] then (if l = [] then ([], 0, 0) else ([], k + 1, 15)) else
    match readP l with
    | none => ([], k + 1, 15)
    | some x => if mayE x many ≠ 0 then ([], k + 1, mayE x many) else
      match parseL many (k + 1) ls with
      | (q, n, e) => if e = 0 then (x :: q, n, 0) else ([], n, e)
def parseP (s : List UInt8) : List Ins × Nat × Int := if 64 < s.count 10 then ([], 0, 11) else parseL (s.count 10) 0 (pieces 10 s)

theorem mayE_cases (x : Ins) (n : Nat) : mayE x n = 0 ∨ mayE x n = 10 ∨ mayE x n = 15 := by
  unfold mayE
  split
  · exact .inr (.inr rfl)
  · split
    · exact .inl rfl
    · exact .inr (.inl rfl)
theorem mayE_op {x : Ins} {n : Nat} (h : mayE x n = 0) : ¬ (x.op < 1 ∨ 15 < x.op) ∧ allFit n (ask x.op) x.nums = true := by
  unfold mayE at h
  by_cases ho : x.op < 1 ∨ 15 < x.op
  · rw [if_pos ho] at h; cases h
  · rw [if_neg ho] at h
    refine ⟨ho, ?_⟩
    by_cases hf : allFit n (ask x.op) x.nums = true
    · exact hf
    · rw [if_neg hf] at h; cases h
theorem allFit_at {n : Nat} : ∀ {ks ns : List Int}, allFit n ks ns = true → ∀ {j : Nat} {k m : Int}, ks[j]? = some k → ns[j]? = some m → fitsP k m n = true
  | [], _, _, j, k, m, h, _ => by simp at h
  | _ :: _, [], _, j, k, m, _, h => by simp at h
  | k0 :: ks, n0 :: ns, h, 0, k, m, h1, h2 => by
    simp only [allFit, Bool.and_eq_true] at h
    simp at h1 h2
    subst h1 h2
    exact h.1
  | k0 :: ks, n0 :: ns, h, j + 1, k, m, h1, h2 => by
    simp only [allFit, Bool.and_eq_true] at h
    exact allFit_at h.2 (j := j) (by simpa using h1) (by simpa using h2)
theorem fits0 {m : Int} {n : Nat} (h : fitsP 0 m n = true) : m = 0 := by
  simpa [fitsP] using h
theorem may_ins {x : Ins} {n : Nat} (h : mayE x n = 0) : insOf x.op.toNat (x.nums.take (many x.op)) = x := by
  obtain ⟨h1, h2⟩ := mayE_op h
  obtain ⟨h3, h4⟩ := ask_many h1
  have hz : ∀ j m, many x.op ≤ j → j < 4 → x.nums[j]? = some m → m = 0 := fun j m hj hj4 hm => fits0 (allFit_at h2 (h4 j hj4 hj) hm)
  have get : ∀ j m, j < 4 → x.nums[j]? = some m → (x.nums.take (many x.op)).getD j 0 = m := fun j m hj4 hm => by
    rw [List.getD_eq_getElem?_getD, List.getElem?_take]
    by_cases hj : j < many x.op
    · rw [if_pos hj, hm]; rfl
    · rw [if_neg hj]
      exact (hz j m (by omega) hj4 hm).symm
  unfold insOf
  rw [get 0 x.a (by omega) rfl, get 1 x.b (by omega) rfl, get 2 x.c (by omega) rfl, get 3 x.d (by omega) rfl, Int.toNat_of_nonneg (by omega)]
theorem pieces_words : ∀ (ws : List (List UInt8)) (w : List UInt8), 32 ∉ w → (∀ u ∈ ws, 32 ∉ u) → pieces 32 (w ++ ws.flatMap fun u => 32 :: u) = w :: ws
  | [], w, hw, _ => by simp [pieces_clean hw]
  | u :: ws, w, hw, h => by
    rw [List.flatMap_cons, List.cons_append, pieces_app _ hw, pieces_words ws u (h u (by simp)) (fun v hv => h v (by simp [hv]))]
theorem wordsOf_len {x : Ins} (h : ¬ (x.op < 1 ∨ 15 < x.op)) : (wordsOf x).length = many x.op := by
  have := (ask_many h).1
  simp [wordsOf, Ins.nums]
  omega
def Ins.In (x : Ins) : Prop := ∀ n ∈ x.nums, inI64 n
theorem read_line {x : Ins} {n : Nat} (h : mayE x n = 0) (hx : x.In) : readP (lineOf x) = some x := by
  obtain ⟨h1, h2⟩ := mayE_op h
  have hw : ∀ u ∈ wordsOf x, 32 ∉ u := fun u hu => by
    obtain ⟨m, _, rfl⟩ := List.mem_map.1 hu
    exact (itoa_clean m).1
  have hnm := named_word h1
  unfold readP lineOf
  rw [pieces_words _ _ (word_clean h1).1 hw]
  simp only
  rw [if_neg ?_]
  · unfold wordsOf
    rw [nums_itoa (fun m hm => hx m (List.mem_of_mem_take hm))]
    simp only [Option.map_some, Option.some.injEq]
    rw [show namedP (word x.op) = x.op.toNat by omega]
    exact may_ins h
  · rw [wordsOf_len h1]
    rintro (e | e)
    · omega
    · rw [hnm] at e; exact e rfl
theorem line_read {l : List UInt8} {x : Ins} (h : readP l = some x) : lineOf x = l ∧ x.In ∧ ¬ (x.op < 1 ∨ 15 < x.op) := by
  unfold readP at h
  have hg := glue_pieces 32 l
  cases hp : pieces 32 l with
  | nil => exact absurd hp (pieces_ne _ _)
  | cons w ws =>
    rw [hp] at h hg
    simp only at h
    split at h
    · cases h
    · rename_i hn
      rw [not_or] at hn
      obtain ⟨n1, n2⟩ := hn
      obtain ⟨m1, m2, m3⟩ := namedP_some n1
      obtain ⟨vs, hv, rfl⟩ := Option.map_eq_some_iff.1 h
      obtain ⟨v1, v2, v3⟩ := nums_some hv
      have hop : (insOf (namedP w) vs).op = (namedP w : Int) := rfl
      have ho : ¬ ((namedP w : Int) < 1 ∨ 15 < (namedP w : Int)) := by omega
      have hl : ws.length = many (namedP w : Int) := by
        by_cases e : ws.length = many (namedP w : Int)
        · exact e
        · exact absurd e n2
      have h4 := (ask_many ho).1
      have hns : (insOf (namedP w) vs).nums.take (many (insOf (namedP w) vs).op) = vs := by
        rw [hop, ← hl, ← v2]
        have : vs.length ≤ 4 := by omega
        match vs, this with
        | [], _ => rfl
        | [_], _ => rfl
        | [_, _], _ => rfl
        | [_, _, _], _ => rfl
        | [_, _, _, _], _ => rfl
      refine ⟨?_, ?_, ho⟩
      · unfold lineOf wordsOf
        rw [hns, v1, hop, m3, ← glue_flat, hg]
      · have hin : ∀ j, inI64 (vs.getD j 0) := fun j => by
          rw [List.getD_eq_getElem?_getD]
          cases hj : vs[j]? with
          | none => exact ⟨by simp, by simp⟩
          | some v => exact v3 v (List.mem_of_getElem? hj)
        intro m hm
        simp only [insOf, Ins.nums, List.mem_cons, List.not_mem_nil, or_false] at hm
        rcases hm with rfl | rfl | rfl | rfl <;> exact hin _
theorem line_clean {x : Ins} (h : ¬ (x.op < 1 ∨ 15 < x.op)) : 10 ∉ lineOf x := by
  unfold lineOf
  rw [List.mem_append, not_or]
  refine ⟨(word_clean h).2, fun hm => ?_⟩
  obtain ⟨u, hu, hm⟩ := List.mem_flatMap.1 hm
  obtain ⟨m, _, rfl⟩ := List.mem_map.1 hu
  rcases List.mem_cons.1 hm with hm | hm
  · revert hm; decide
  · exact (itoa_clean m).2 hm
theorem pieces_print : ∀ {p : List Ins}, (∀ x ∈ p, ¬ (x.op < 1 ∨ 15 < x.op)) → pieces 10 (printL p) = p.map lineOf ++ [[]]
  | [], _ => rfl
  | x :: p, h => by
    have e : printL (x :: p) = lineOf x ++ 10 :: printL p := by simp [printL]
    rw [e, pieces_app _ (line_clean (h x (by simp))), pieces_print (fun y hy => h y (by simp [hy]))]
    rfl
theorem check_ok {many : Nat} : ∀ {p : List Ins} {i : Nat}, (checkFrom many i p).2 = 0 → ∀ x ∈ p, mayE x many = 0
  | [], _, _, x, hx => by cases hx
  | y :: p, i, h, x, hx => by
    unfold checkFrom at h
    by_cases hy : mayE y many = 0
    · rw [if_neg (by simp [hy])] at h
      rcases List.mem_cons.1 hx with rfl | hx
      · exact hy
      · exact check_ok h x hx
    · rw [if_pos hy] at h
      exact absurd h hy
theorem ok_check {many : Nat} : ∀ {p : List Ins} {i : Nat}, (∀ x ∈ p, mayE x many = 0) → checkFrom many i p = (0, 0)
  | [], _, _ => rfl
  | y :: p, i, h => by
    unfold checkFrom
    rw [if_neg (by simp [h y]), ok_check (fun x hx => h x (by simp [hx]))]
theorem parse_lines {many : Nat} : ∀ {p : List Ins} {k : Nat}, (∀ x ∈ p, mayE x many = 0 ∧ x.In) → parseL many k (p.map lineOf ++ [[]]) = (p, 0, 0)
  | [], _, _ => rfl
  | x :: p, k, h => by
    obtain ⟨h1, h2⟩ := h x (by simp)
    have ih := parse_lines (many := many) (p := p) (k := k + 1) (fun y hy => h y (by simp [hy]))
    simp only [List.map_cons, List.cons_append, parseL]
    rw [if_neg (by simp), read_line h1 h2]
    simp only
    rw [if_neg (by simp [h1]), ih]
    rfl
/-- what is printed is read again -/
theorem parse_print {p : List Ins} (h : (checkP p).2 = 0) (hp : ∀ x ∈ p, x.In) : parseP (printL p) = (p, 0, 0) := by
  unfold checkP at h
  by_cases hl : 64 < p.length
  · rw [if_pos hl] at h; cases h
  · rw [if_neg hl] at h
    have hok := check_ok h
    have hpc := pieces_print (p := p) (fun x hx => (mayE_op (hok x hx)).1)
    have hct : (printL p).count 10 = p.length := by
      have := pieces_count 10 (printL p)
      rw [hpc] at this
      simp at this
      omega
    unfold parseP
    rw [hct, if_neg hl, hpc]
    exact parse_lines (fun x hx => ⟨hok x hx, hp x hx⟩)
theorem parseL_ok {many : Nat} : ∀ {ls : List (List UInt8)} {k : Nat} {q : List Ins} {n : Nat}, ls ≠ [] → parseL many k ls = (q, n, 0) → n = 0 ∧ (∀ x ∈ q, mayE x many = 0 ∧ x.In) ∧ printL q = glue 10 ls ∧ q.length + 1 = ls.length
  | [], _, _, _, h, _ => absurd rfl h
  | l :: ls, k, q, n, _, h => by
    unfold parseL at h
    by_cases hls : ls = []
    · subst hls
      rw [if_pos rfl] at h
      by_cases hl : l = []
      · subst hl
        rw [if_pos rfl] at h
        simp only [Prod.mk.injEq] at h
        obtain ⟨rfl, rfl, _⟩ := h
        exact ⟨rfl, by simp, rfl, rfl⟩
      · rw [if_neg hl] at h
        simp only [Prod.mk.injEq] at h
        exact absurd h.2.2 (by decide)
    · rw [if_neg hls] at h
      cases hr : readP l with
      | none =>
        rw [hr] at h
        simp only [Prod.mk.injEq] at h
        exact absurd h.2.2 (by decide)
      | some x =>
        rw [hr] at h
        simp only at h
        by_cases hm : mayE x many = 0
        · rw [if_neg (by simp [hm])] at h
          obtain ⟨q', n', e', hq⟩ : ∃ q' n' e', parseL many (k + 1) ls = (q', n', e') := ⟨_, _, _, rfl⟩
          rw [hq] at h
          simp only at h
          by_cases he : e' = 0
          · rw [if_pos he] at h
            subst he
            simp only [Prod.mk.injEq] at h
            obtain ⟨rfl, rfl, _⟩ := h
            obtain ⟨h1, h2, h3, h4⟩ := parseL_ok hls hq
            obtain ⟨l1, l2, l3⟩ := line_read hr
            refine ⟨h1, fun y hy => ?_, ?_, by simp [h4]⟩
            · rcases List.mem_cons.1 hy with rfl | hy
              · exact ⟨hm, l2⟩
              · exact h2 y hy
            · rw [glue_cons _ _ hls, ← h3, ← l1]
              simp [printL]
          · rw [if_neg he] at h
            simp only [Prod.mk.injEq] at h
            exact absurd h.2.2 he
        · rw [if_pos hm] at h
          simp only [Prod.mk.injEq] at h
          exact absurd h.2.2 hm
theorem parseL_bad {many : Nat} : ∀ {ls : List (List UInt8)} {k : Nat}, ls ≠ [] → (parseL many k ls).2.2 ≠ 0 → (parseL many k ls).1 = [] ∧ 0 < (parseL many k ls).2.1
  | [], _, h, _ => absurd rfl h
  | l :: ls, k, _, h => by
    unfold parseL at h ⊢
    by_cases hls : ls = []
    · rw [if_pos hls] at h ⊢
      by_cases hl : l = []
      · rw [if_pos hl] at h; exact absurd rfl h
      · rw [if_neg hl]; exact ⟨rfl, by simp⟩
    · rw [if_neg hls] at h ⊢
      cases hr : readP l with
      | none => exact ⟨rfl, by simp⟩
      | some x =>
        rw [hr] at h
        simp only at h ⊢
        by_cases hm : mayE x many = 0
        · rw [if_neg (by simp [hm])] at h ⊢
          obtain ⟨q', n', e', hq⟩ : ∃ q' n' e', parseL many (k + 1) ls = (q', n', e') := ⟨_, _, _, rfl⟩
          have ih := parseL_bad (many := many) (k := k + 1) hls
          rw [hq] at h ih ⊢
          simp only at h ih ⊢
          by_cases he : e' = 0
          · rw [if_pos he] at h; exact absurd rfl h
          · rw [if_neg he]
            exact ⟨rfl, (ih he).2⟩
        · rw [if_pos hm]
          exact ⟨rfl, by simp⟩
/-- what is read is printed again -/
theorem print_parse {s : List UInt8} (h : (parseP s).2.2 = 0) : (parseP s).2.1 = 0 ∧ (checkP (parseP s).1).2 = 0 ∧ printL (parseP s).1 = s := by
  unfold parseP at h ⊢
  by_cases hc : 64 < s.count 10
  · rw [if_pos hc] at h; cases h
  · rw [if_neg hc] at h ⊢
    obtain ⟨q, n, e, hq⟩ : ∃ q n e, parseL (s.count 10) 0 (pieces 10 s) = (q, n, e) := ⟨_, _, _, rfl⟩
    rw [hq] at h ⊢
    simp only at h ⊢
    subst h
    obtain ⟨h1, h2, h3, h4⟩ := parseL_ok (pieces_ne 10 s) hq
    have hpc := pieces_count 10 s
    have hql : q.length = s.count 10 := by omega
    refine ⟨h1, ?_, by rw [h3, glue_pieces]⟩
    unfold checkP
    rw [if_neg (by omega), hql, ok_check (fun x hx => (h2 x hx).1)]
theorem parse_bad {s : List UInt8} (h : (parseP s).2.2 ≠ 0) : (parseP s).1 = [] ∧ (0 < (parseP s).2.1 ∨ (parseP s).2.2 = 11) := by
  unfold parseP at h ⊢
  by_cases hc : 64 < s.count 10
  · rw [if_pos hc]; exact ⟨rfl, .inr rfl⟩
  · rw [if_neg hc] at h ⊢
    obtain ⟨h1, h2⟩ := parseL_bad (pieces_ne 10 s) h
    exact ⟨h1, .inl h2⟩
end Go.Proofs.YtkhlldmnnakoaaaDoor
