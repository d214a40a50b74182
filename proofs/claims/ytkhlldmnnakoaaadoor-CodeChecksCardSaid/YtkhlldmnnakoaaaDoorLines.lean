/-
  How a text falls into lines and words; how its reading goes on. Plain.
-/
import Derived.Test.YtkhlldmnnakoaaaDoorCodeT
namespace Go.Proofs.YtkhlldmnnakoaaaDoor
open Go.Lib
theorem index_miss {c : UInt8} : ∀ {s : List UInt8}, c ∉ s → index s [c] = -1
  | [], _ => rfl
  | b :: l, h => by
    simp only [List.mem_cons, not_or] at h
    unfold index
    have hp : [c].isPrefixOf (b :: l) = false := by
      show (c == b && List.isPrefixOf [] l) = false
      rw [beq_eq_false_iff_ne.2 h.1]
      rfl
    rw [hp, if_neg (by simp), index_miss h.2]
    rfl
theorem index_hit {c : UInt8} (b : List UInt8) : ∀ {a : List UInt8}, c ∉ a → index (a ++ c :: b) [c] = (a.length : Int)
  | [], _ => by
    rw [List.nil_append]
    unfold index
    have hp : [c].isPrefixOf (c :: b) = true := by simp
    rw [hp, if_pos rfl]
    rfl
  | x :: a, h => by
    simp only [List.mem_cons, not_or] at h
    rw [List.cons_append]
    unfold index
    have hp : [c].isPrefixOf (x :: (a ++ c :: b)) = false := by
      show (c == x && List.isPrefixOf [] (a ++ c :: b)) = false
      rw [beq_eq_false_iff_ne.2 h.1]
      rfl
    rw [hp, if_neg (by simp), index_hit b h.2, if_neg (by rw [beq_iff_eq]; omega)]
    simp
theorem parts_of {c : UInt8} {s : List UInt8} (h : c ∈ s) : ∃ a b, s = a ++ c :: b ∧ c ∉ a := by
  obtain ⟨a, b, h1, h2⟩ := List.eq_append_cons_of_mem h
  exact ⟨a, b, h1, h2⟩
theorem splitK_pieces (c : UInt8) : ∀ (n : Nat) (s : List UInt8), s.length ≤ n → splitK [c] 0 (s.count c) s = pieces c s
  | n, s, hn => by
    by_cases h : c ∈ s
    · obtain ⟨a, b, rfl, ha⟩ := parts_of h
      have hc : (a ++ c :: b).count c = b.count c + 1 := by
        rw [List.count_append, List.count_cons_self, List.count_eq_zero.2 ha]
        omega
      have hi := index_hit b ha
      rw [hc, pieces_app b ha]
      unfold splitK
      rw [hi, if_neg (by rw [beq_iff_eq]; omega)]
      have e1 : ((a.length : Int)).toNat + 0 = a.length := by simp
      have e2 : ((a.length : Int)).toNat + [c].length = a.length + 1 := by simp
      rw [e1, e2]
      have e3 : (a ++ c :: b).take a.length = a := by simp
      have e4 : (a ++ c :: b).drop (a.length + 1) = b := by simp
      rw [e3, e4]
      match n, hn with
      | 0, hn => simp at hn
      | n + 1, hn =>
        rw [splitK_pieces c n b (by simp at hn; omega)]
    · rw [List.count_eq_zero.2 h, pieces_clean h]
      rfl
theorem cut_miss {c : UInt8} {s : List UInt8} (h : c ∉ s) : cut s [c] = (s, [], false) := by
  unfold cut
  rw [index_miss h, if_neg (by decide)]
theorem cut_hit {c : UInt8} {a : List UInt8} (b : List UInt8) (h : c ∉ a) : cut (a ++ c :: b) [c] = (a, b, true) := by
  unfold cut
  rw [index_hit b h, if_pos (by omega)]
  simp
/-- how a text's reading goes on: R is the end, behind the instructions p -/
def Goes (many : Nat) (R : List Ins × Nat × Int) (p : List Ins) (s : List UInt8) : Prop :=
  R = (match parseL many p.length (pieces 10 s) with
    | (q, n, e) => if e = 0 then (p ++ q, n, 0) else ([], n, e))
theorem Goes.start {s : List UInt8} {R : List Ins × Nat × Int} (h : parseL (s.count 10) 0 (pieces 10 s) = R) (he : R.2.2 ≠ 0 → R.1 = []) : Goes (s.count 10) R [] s := by
  unfold Goes
  rw [List.length_nil, h]
  obtain ⟨q, n, e⟩ := R
  simp only at he ⊢
  by_cases h0 : e = 0
  · rw [if_pos h0, h0]; rfl
  · rw [if_neg h0, he h0]
theorem Goes.done {many : Nat} {R : List Ins × Nat × Int} {p : List Ins} (h : Goes many R p []) : R = (p, 0, 0) := by
  unfold Goes at h
  rw [h]
  simp [pieces, parseL]
theorem Goes.noend {many : Nat} {R : List Ins × Nat × Int} {p : List Ins} {s : List UInt8} (h : Goes many R p s) (hs : s ≠ []) (hc : 10 ∉ s) : R = ([], p.length + 1, 15) := by
  unfold Goes at h
  rw [h, pieces_clean hc]
  simp [parseL, hs]
theorem Goes.noread {many : Nat} {R : List Ins × Nat × Int} {p : List Ins} {a b : List UInt8} (h : Goes many R p (a ++ 10 :: b)) (ha : 10 ∉ a) (hr : readP a = none) : R = ([], p.length + 1, 15) := by
  unfold Goes at h
  rw [h, pieces_app b ha]
  simp [parseL, pieces_ne, hr]
theorem Goes.nomay {many : Nat} {R : List Ins × Nat × Int} {p : List Ins} {a b : List UInt8} {x : Ins} (h : Goes many R p (a ++ 10 :: b)) (ha : 10 ∉ a) (hr : readP a = some x) (hm : mayE x many ≠ 0) : R = ([], p.length + 1, mayE x many) := by
  unfold Goes at h
  rw [h, pieces_app b ha]
  simp [parseL, pieces_ne, hr, hm]
theorem Goes.next {many : Nat} {R : List Ins × Nat × Int} {p : List Ins} {a b : List UInt8} {x : Ins} (h : Goes many R p (a ++ 10 :: b)) (ha : 10 ∉ a) (hr : readP a = some x) (hm : mayE x many = 0) : Goes many R (p ++ [x]) b := by
  unfold Goes at h ⊢
  rw [h, pieces_app b ha, List.length_append, List.length_singleton]
  obtain ⟨q, n, e, hq⟩ : ∃ q n e, parseL many (p.length + 1) (pieces 10 b) = (q, n, e) := ⟨_, _, _, rfl⟩
  simp only [parseL, pieces_ne, hr, hm, hq, if_false, ne_eq, not_true_eq_false]
  by_cases h0 : e = 0
  · simp [h0]
  · simp [h0]
/-- four cells out of the numbers that were read -/
def four (vs : List Int) : List Int := [vs.getD 0 0, vs.getD 1 0, vs.getD 2 0, vs.getD 3 0]
theorem four_set {vs : List Int} {v : Int} (h : vs.length < 4) : (four vs).set vs.length v = four (vs ++ [v]) := by
  match vs, h with
  | [], _ => rfl
  | [_], _ => rfl
  | [_, _], _ => rfl
  | [_, _, _], _ => rfl
theorem nums_none {ws : List (List UInt8)} {i : Nat} {w : List UInt8} (h : ws[i]? = some w) (hn : numP w = none) : numsP ws = none := by
  induction ws generalizing i with
  | nil => simp at h
  | cons a ws ih =>
    unfold numsP
    cases i with
    | zero =>
      simp at h
      subst h
      rw [hn]
    | succ i =>
      cases hv : numP a with
      | none => rfl
      | some v =>
        simp only
        rw [ih (by simpa using h)]
theorem nums_snoc {ws : List (List UInt8)} {vs : List Int} (h : numsP ws = some vs) {w : List UInt8} {v : Int} (hv : numP w = some v) : numsP (ws ++ [w]) = some (vs ++ [v]) := by
  induction ws generalizing vs with
  | nil =>
    simp only [numsP, Option.some.injEq] at h
    subst h
    simp [numsP, hv]
  | cons a ws ih =>
    simp only [numsP] at h
    split at h
    · cases h
    · rename_i u hu
      split at h
      · cases h
      · rename_i us hus
        simp only [Option.some.injEq] at h
        subst h
        simp only [List.cons_append, numsP, hu]
        rw [ih hus]
end Go.Proofs.YtkhlldmnnakoaaaDoor
