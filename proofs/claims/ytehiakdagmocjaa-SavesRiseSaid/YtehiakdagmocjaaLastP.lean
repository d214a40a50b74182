/-
  What Last answers behind a call: plain.
-/
import Derived.Test.YtehiakdagmocjaaDoes
namespace Go.Proofs.Ytehiakdagmocjaa
open Go.RowKit R_int

theorem upTo_drop : ∀ (l : List (Int × Int)) (b : Int) (d : Nat), d ≤ upTo l b → upTo (l.drop d) b = upTo l b - d
  | _, b, 0, _ => by simp
  | [], b, d + 1, h => by simp [upTo]
  | a :: l, b, d + 1, h => by
    rw [upTo_cons] at h ⊢
    by_cases h1 : a.1 < b
    · rw [if_pos h1] at h ⊢
      rw [List.drop_succ_cons, upTo_drop l b d (by omega)]
      omega
    · rw [if_neg h1] at h; omega
theorem upTo_take : ∀ (l : List (Int × Int)) (b : Int) (n : Nat), upTo (l.take n) b = min n (upTo l b)
  | _, b, 0 => by simp [upTo]
  | [], b, n + 1 => by simp [upTo]
  | a :: l, b, n + 1 => by
    rw [List.take_succ_cons, upTo_cons, upTo_cons, upTo_take l b n]
    split <;> omega
theorem upTo_snoc : ∀ (l : List (Int × Int)) (b : Int) (s : Int × Int), b ≤ s.1 → upTo (l ++ [s]) b = upTo l b
  | [], b, s, h => by
    have h1 : ¬ s.1 < b := by omega
    rw [List.nil_append, upTo_cons, if_neg h1]
    simp [upTo]
  | a :: l, b, s, h => by
    rw [List.cons_append, upTo_cons, upTo_cons, upTo_snoc l b s h]
theorem upTo_mono : ∀ (l : List (Int × Int)) (b t : Int), b ≤ t → upTo l b ≤ upTo l t
  | [], b, t, h => by simp [upTo]
  | a :: l, b, t, h => by
    have := upTo_mono l b t h
    rw [upTo_cons, upTo_cons]
    by_cases h1 : a.1 < b
    · rw [if_pos h1, if_pos (by omega)]; omega
    · rw [if_neg h1]; omega

theorem lastR_of {l m : List (Int × Int)} {b : Int} (h0 : upTo l b = 0 ↔ upTo m b = 0) (h : upTo l b ≠ 0 → l[upTo l b - 1]? = m[upTo m b - 1]?) : lastR l b = lastR m b := by
  unfold lastR
  by_cases hz : upTo l b = 0
  · rw [if_pos hz, if_pos (h0.1 hz)]
  · rw [if_neg hz, if_neg (fun e => hz (h0.2 e)), h hz]

theorem lastR_step (l : List (Int × Int)) (o : Op) (b : Int) (h2 : o.ask = 2 → o.at_ ≤ b) (hn : o.ask ≠ 2 → b ≤ o.at_) : lastR (step l o) b = lastR l b := by
  unfold step
  split
  · have := hn (by omega)
    unfold saveL
    split
    · have e := upTo_snoc l b (o.at_, o.x) this
      have := upTo_le l b
      refine lastR_of (by rw [e]) (fun hz => ?_)
      rw [e] at hz ⊢
      rw [List.getElem?_append_left (by omega)]
    · rfl
  split
  · have := hn (by omega)
    have e := upTo_take l b (max (upTo l o.at_) 1)
    have h3 := upTo_mono l b o.at_ this
    have e : upTo (cutL l o.at_) b = upTo l b := by unfold cutL; rw [e]; omega
    refine lastR_of (by rw [e]) (fun hz => ?_)
    rw [e] at hz ⊢
    unfold cutL
    rw [List.getElem?_take, if_pos (by omega)]
  split
  · have := h2 (by omega)
    have h3 := upTo_mono l o.at_ b this
    have e : upTo (freeL l o.at_) b = upTo l b - (upTo l o.at_ - 1) := by unfold freeL; exact upTo_drop l b _ (by omega)
    refine lastR_of (by rw [e]; omega) (fun hz => ?_)
    rw [e] at hz ⊢
    unfold freeL
    rw [List.getElem?_drop]
    congr 1
    omega
  · rfl
end Go.Proofs.Ytehiakdagmocjaa
