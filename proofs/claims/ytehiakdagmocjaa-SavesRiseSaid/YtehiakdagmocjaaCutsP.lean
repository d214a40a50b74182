/-
  Ints of two equal rows; and what Cut and Free leave: plain.
-/
import Derived.Test.YtehiakdagmocjaaLastP
namespace Go.Proofs.Ytehiakdagmocjaa
open Go.RowKit R_int

set_option maxRecDepth 100000 in
theorem ints_same (ga oa ca gb ob cb n : Nat) (xs : List Int) (w : World) (hn : xs.length = n) (h1 : n ≤ ca) (h2 : n ≤ cb) (h3 : ca ≤ maxLen) (h4 : cb ≤ maxLen)
    (ha : ∀ j u, (ints xs)[j]? = some u → w.cell? ⟨ga, oa + j, none⟩ = some u) (hb : ∀ j u, (ints xs)[j]? = some u → w.cell? ⟨gb, ob + j, none⟩ = some u) :
    Calls Try.prog 16 #[.slice (some ⟨ga, oa, none⟩) n ca, .slice (some ⟨gb, ob, none⟩) n cb] w fun e w' => e = .returned (.bool true) ∧ Fresh w w' := by
  have HA := Lib.hid ha
  have HB := Lib.hid hb
  have hm : n ≤ 9223372036854775807 := by unfold maxLen at h3; omega
  clear ha hb h3 h4
  go_enter Try.func16, Try.ntmps16
  go_wp2_with fail
  go_loopg [5] n (fun gk u wr => ∃ k : Nat, k ≤ n ∧ gk = n - k ∧ u = .int .i64 k ∧ Fresh w wr)
  case atStart => exact ⟨0, by omega, rfl, rfl, Keep.refl _ _⟩
  case round =>
    obtain ⟨k, hk, rfl, rfl, hF⟩ := hrel
    have HF := Lib.hid hF
    clear hF
    by_cases hlt : k < n
    · have c1 := HA.out k (.int .i64 (xs[k]'(by omega))) (by simp [ints, show k < xs.length by omega])
      have c2 := HB.out k (.int .i64 (xs[k]'(by omega))) (by simp [ints, show k < xs.length by omega])
      obtain ⟨x, hx⟩ : ∃ x, xs[k]'(by omega) = x := ⟨_, rfl⟩
      rw [hx] at c1 c2
      have c1 := HF.out.cell_ c1
      have c2 := HF.out.cell_ c2
      clear hx
      go_wp2_with fail
      go_quiet (fail)
      go_wp2_with fail
      go_roundg (n - (k + 1))
      case measure => omega
      case rel => exact ⟨k + 1, by omega, rfl, by go_num, HF.out.drewN _⟩
    · go_wp2_with fail
      go_ret
      exact ⟨rfl, HF.out⟩

theorem cutL_length {l : List (Int × Int)} (h : Rises l) (t : Int) : (cutL l t).length = max (upTo l t) 1 := by
  have := upTo_le l t
  have := h.1
  unfold cutL
  rw [List.length_take]
  omega
theorem cutL_at {l : List (Int × Int)} (h : Rises l) (t : Int) (k : Nat) (s : Int × Int) (h1 : 0 < k) (hs : (cutL l t)[k]? = some s) : s.1 < t := by
  have hk := (List.getElem?_eq_some_iff.1 hs).1
  rw [cutL_length h] at hk
  unfold cutL at hs
  rw [List.getElem?_take, if_pos hk] at hs
  exact (upTo_spec l t h.2 k s hs).2 (by omega)
theorem cutL_may {l : List (Int × Int)} (h : Rises l) (t : Int) (s : Int × Int) (hs : (cutL l t)[0]? = some s) (h0 : s.1 < t) (ht : t ≤ 1073741824) : may (cutL l t) t = true := by
  rw [may_iff]
  refine ⟨fun s' hs' => ?_, ht⟩
  obtain ⟨k, hk⟩ := List.getElem?_of_mem hs'
  by_cases h1 : 0 < k
  · exact cutL_at h t k s' h1 hk
  · obtain rfl : k = 0 := by omega
    rw [hs] at hk
    injection hk with hk
    subst hk
    exact h0
/-- how many of the first k are ahead -/
def aheadN (m : List (Int × Int)) (t : Int) (k : Nat) : Nat := min k (upTo m t)
theorem aheadN_succ {m : List (Int × Int)} (h : m.Pairwise (fun a b => a.1 < b.1)) (t : Int) (k : Nat) (s : Int × Int) (hs : m[k]? = some s) : aheadN m t (k + 1) = if s.1 < t then aheadN m t k + 1 else aheadN m t k := by
  have := upTo_spec m t h k s hs
  unfold aheadN
  split
  · have := this.1 (by assumption); omega
  · rename_i h1
    have : ¬ k < upTo m t := fun h2 => h1 (this.2 h2)
    omega
theorem freeL_ahead {l : List (Int × Int)} (t : Int) : upTo (freeL l t) t = min (upTo l t) 1 := by
  unfold freeL
  rw [upTo_drop l t _ (by omega)]
  omega
theorem freeL_length (l : List (Int × Int)) (t : Int) : (freeL l t).length = l.length - (upTo l t - 1) := by
  unfold freeL
  rw [List.length_drop]
theorem lastR_err (l : List (Int × Int)) (t : Int) : (lastR l t).2.2 = if upTo l t = 0 then 14 else 0 := by
  unfold lastR
  by_cases h : upTo l t = 0
  · rw [if_pos h, if_pos h]
  · rw [if_neg h, if_neg h]
    have := upTo_le l t
    rw [List.getElem?_eq_getElem (by omega)]
end Go.Proofs.Ytehiakdagmocjaa
