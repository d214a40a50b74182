/-
  Rising rows: what the calls make of a list, and that the reference's answers are the same.
-/
import Derived.Test.YtehiakdagmocjaaRef
namespace Go.Proofs.Ytehiakdagmocjaa
open Go.RowKit R_int

/-- rising, and not empty -/
def Rises (l : List (Int × Int)) : Prop := 0 < l.length ∧ l.Pairwise (fun a b => a.1 < b.1)

theorem upTo_cons (a : Int × Int) (l : List (Int × Int)) (b : Int) : upTo (a :: l) b = if a.1 < b then upTo l b + 1 else 0 := by
  by_cases h : a.1 < b <;> simp [upTo, List.takeWhile_cons, h]
theorem upTo_spec : ∀ (l : List (Int × Int)) (b : Int), l.Pairwise (fun a b => a.1 < b.1) → ∀ (k : Nat) (s : Int × Int), l[k]? = some s → (s.1 < b ↔ k < upTo l b)
  | [], _, _, _, _, h => by simp at h
  | a :: l, b, hp, 0, s, h => by
    simp at h
    subst h
    rw [upTo_cons]
    split <;> simp [*]
  | a :: l, b, hp, k + 1, s, h => by
    rw [List.pairwise_cons] at hp
    have hs : l[k]? = some s := by simpa using h
    have ih := upTo_spec l b hp.2 k s hs
    have hlt := hp.1 s (List.mem_of_getElem? hs)
    rw [upTo_cons]
    split
    · rw [ih]; omega
    · constructor
      · intro h2; omega
      · intro h2; omega

theorem lastP_rises (l : List (Int × Int)) (b : Int) (h : l.Pairwise (fun a b => a.1 < b.1)) : ∀ k, k ≤ l.length → lastP l b k = (min k (upTo l b) : Nat) - 1
  | 0, _ => by simp [lastP]
  | k + 1, hk => by
    have ih := lastP_rises l b h k (by omega)
    obtain ⟨s, hs⟩ : ∃ s, l[k]? = some s := ⟨_, List.getElem?_eq_getElem (by omega)⟩
    have hsp := upTo_spec l b h k s hs
    unfold lastP
    rw [hs]
    simp only
    split
    · rename_i h1
      have := hsp.1 h1
      omega
    · rename_i h1
      have : ¬ k < upTo l b := fun h2 => h1 (hsp.2 h2)
      rw [ih]
      omega
theorem lastP_ahead (l : List (Int × Int)) (b : Int) (h : Rises l) : lastP l b l.length = (upTo l b : Int) - 1 := by
  rw [lastP_rises l b h.2 _ (Nat.le_refl _)]
  have := upTo_le l b
  omega
theorem lastN_ahead (l : List (Int × Int)) (b : Int) (h : Rises l) : lastN l b = upTo l b - 1 := by
  unfold lastN
  rw [lastP_ahead l b h]
  omega

/-- may a thing be saved at this time? -/
def may (l : List (Int × Int)) (t : Int) : Bool := l.all (fun s => decide (s.1 < t)) && decide (t ≤ 1073741824)
def saveL (l : List (Int × Int)) (t x : Int) : List (Int × Int) := if may l t then l ++ [(t, x)] else l
def saveE (l : List (Int × Int)) (t : Int) : Int := if may l t then 0 else 18
def cutL (l : List (Int × Int)) (t : Int) : List (Int × Int) := l.take (max (upTo l t) 1)
def freeL (l : List (Int × Int)) (t : Int) : List (Int × Int) := l.drop (upTo l t - 1)

theorem rises_init {l : List (Int × Int)} (h : Rises l) : ∃ init last, l = init ++ [last] ∧ ∀ s ∈ init, s.1 < last.1 := by
  obtain ⟨h1, h2⟩ := h
  obtain ⟨init, last, rfl⟩ : ∃ init last, l = init ++ [last] := ⟨l.dropLast, l.getLast (by intro e; simp [e] at h1), (List.dropLast_concat_getLast _).symm⟩
  refine ⟨init, last, rfl, fun s hs => ?_⟩
  rw [List.pairwise_append] at h2
  exact h2.2.2 s hs last (by simp)
theorem may_last {init : List (Int × Int)} {last : Int × Int} (h : ∀ s ∈ init, s.1 < last.1) (t : Int) : may (init ++ [last]) t = (decide (last.1 < t) && decide (t ≤ 1073741824)) := by
  unfold may
  congr 1
  by_cases hl : last.1 < t
  · simp only [hl, decide_true, List.all_eq_true, decide_eq_true_eq]
    intro s hs
    rcases List.mem_append.1 hs with hs | hs
    · have := h s hs; omega
    · simp at hs; subst hs; exact hl
  · simp [hl]
theorem may_iff (l : List (Int × Int)) (t : Int) : may l t = true ↔ (∀ s ∈ l, s.1 < t) ∧ t ≤ 1073741824 := by simp [may]

theorem saveL_rises {l : List (Int × Int)} (h : Rises l) (t x : Int) : Rises (saveL l t x) := by
  unfold saveL
  split
  · rename_i hm
    rw [may_iff] at hm
    refine ⟨by simp, ?_⟩
    rw [List.pairwise_append]
    exact ⟨h.2, by simp, fun a ha b hb => by simp at hb; subst hb; exact hm.1 a ha⟩
  · exact h
theorem cutL_rises {l : List (Int × Int)} (h : Rises l) (t : Int) : Rises (cutL l t) := by
  refine ⟨?_, h.2.sublist (List.take_sublist _ _)⟩
  have := h.1
  unfold cutL
  rw [List.length_take]
  omega
theorem freeL_rises {l : List (Int × Int)} (h : Rises l) (t : Int) : Rises (freeL l t) := by
  refine ⟨?_, h.2.sublist (List.drop_sublist _ _)⟩
  have := h.1
  have := upTo_le l t
  unfold freeL
  rw [List.length_drop]
  omega

structure Op where
  ask : Int
  at_ : Int
  x : Int
def step (l : List (Int × Int)) (o : Op) : List (Int × Int) :=
  if o.ask = 0 then saveL l o.at_ o.x else if o.ask = 1 then cutL l o.at_ else if o.ask = 2 then freeL l o.at_ else l
theorem step_rises {l : List (Int × Int)} (h : Rises l) (o : Op) : Rises (step l o) := by
  unfold step
  split
  · exact saveL_rises h _ _
  split
  · exact cutL_rises h _
  split
  · exact freeL_rises h _
  · exact h
theorem step_length (l : List (Int × Int)) (o : Op) : (step l o).length ≤ l.length + 1 := by
  unfold step saveL cutL freeL
  split
  · split <;> simp
  split
  · rw [List.length_take]; omega
  split
  · rw [List.length_drop]; omega
  · omega

/-! ### the calls, each by one contract -/
theorem save_any (g : Nat) (v : Value) (l : List (Int × Int)) (t x : Int) (w : World) (h : SRow w g v l) (hr : Rises l) (hl : l.length ≤ 100000) :
    Calls Try.prog 21 #[.pointer (some ⟨g, 0, none⟩), .int .i64 t, .int .i64 x] w fun e w' => e = .returned (.int .i64 (saveE l t)) ∧ ∃ v', SRow w' g v' (saveL l t x) ∧ Keep (foot g v) w w' ∧ Later w v v' := by
  obtain ⟨init, last, rfl, hi⟩ := rises_init hr
  have hm := may_last hi t
  by_cases hb : last.1 < t ∧ t ≤ 1073741824
  · have : may (init ++ [last]) t = true := by rw [hm]; simp [hb.1, hb.2]
    simp only [saveE, saveL, this, if_true]
    exact save_ok g v init last t x w h hb.1 hb.2 (by simp at hl; omega)
  · have : may (init ++ [last]) t = false := by
      rw [hm]
      simp only [Bool.and_eq_false_iff, decide_eq_false_iff_not]
      omega
    simp only [saveE, saveL, this, Bool.false_eq_true, if_false]
    exact (save_no g v init last t x w h (by omega)).mono fun e w' ⟨h1, h2⟩ => ⟨h1, v, h2 ▸ h, h2 ▸ Keep.refl _ w, fun k hk => .inl hk⟩
theorem rsave_any (g : Nat) (va vx : Value) (l : List (Int × Int)) (t x : Int) (w : World) (h : SRef w g va vx l) (hl : l.length ≤ 100000) :
    Calls Try.prog 30 #[.pointer (some ⟨g, 0, none⟩), .int .i64 t, .int .i64 x] w fun e w' => e = .returned (.int .i64 (saveE l t)) ∧ ∃ va' vx', SRef w' g va' vx' (saveL l t x) ∧ Keep (rfoot g va vx) w w' ∧ RLater w g va vx va' vx' := by
  by_cases hm : may l t = true
  · have hm' := (may_iff l t).1 hm
    simp only [saveE, saveL, hm, if_true]
    exact rsave_ok g va vx l t x w h hm'.1 hm'.2 hl
  · simp only [saveE, saveL, hm, Bool.false_eq_true, if_false]
    rw [may_iff] at hm
    refine (rsave_no g va vx l t x w h ?_).mono fun e w' ⟨h1, h2⟩ => ⟨h1, va, vx, h2 ▸ h, h2 ▸ Keep.refl _ w, fun k hk => .inl hk⟩
    by_cases ht : t ≤ 1073741824
    · left
      apply Classical.byContradiction
      intro hn
      exact hm ⟨fun s hs => by
        apply Classical.byContradiction
        intro h2
        exact hn ⟨s, hs, by omega⟩, ht⟩
    · right; omega
theorem rcut_any' (g : Nat) (va vx : Value) (l : List (Int × Int)) (t : Int) (w : World) (h : SRef w g va vx l) (hr : Rises l) (hl : l.length ≤ 100000) :
    Calls Try.prog 31 #[.pointer (some ⟨g, 0, none⟩), .int .i64 t] w fun e w' => e = .returned (.int .i64 (l.length - max (upTo l t) 1 : Nat)) ∧ ∃ va' vx', SRef w' g va' vx' (cutL l t) ∧ Keep (rfoot g va vx) w w' ∧ RLater w g va vx va' vx' := by
  have e1 : lastN l t + 1 = max (upTo l t) 1 := by rw [lastN_ahead l t hr]; omega
  have := rcut_any g va vx l t w h hr.1 hl
  rw [e1] at this
  exact this.mono fun e w' ⟨h1, va', vx', h2, h3, h4⟩ => ⟨h1, va', vx', h2, h3.more (fun _ _ h => .inl h), h4⟩
theorem rfree_any' (g : Nat) (va vx : Value) (l : List (Int × Int)) (t : Int) (w : World) (h : SRef w g va vx l) (hr : Rises l) (hl : l.length ≤ 100000) :
    Calls Try.prog 32 #[.pointer (some ⟨g, 0, none⟩), .int .i64 t] w fun e w' => e = .returned (.int .i64 (upTo l t - 1 : Nat)) ∧ ∃ va' vx', SRef w' g va' vx' (freeL l t) ∧ Keep (rfoot g va vx) w w' ∧ RLater w g va vx va' vx' := by
  have := rfree_any g va vx l t w h hr.1 hl
  rw [lastN_ahead l t hr] at this
  exact this.mono fun e w' ⟨h1, va', vx', h2, h3, h4⟩ => ⟨h1, va', vx', h2, h3.more (fun _ _ h => .inl h), h4⟩
theorem free_any' (g : Nat) (v : Value) (l : List (Int × Int)) (t : Int) (w : World) (h : SRow w g v l) (hl : l.length ≤ 100000) :
    Calls Try.prog 23 #[.pointer (some ⟨g, 0, none⟩), .int .i64 t] w fun e w' => e = .returned (.int .i64 (upTo l t - 1 : Nat)) ∧ ∃ v', SRow w' g v' (freeL l t) ∧ Keep (foot g v) w w' ∧ Later w v v' := by
  by_cases h2 : 2 ≤ upTo l t
  · exact free_any g v l t w h h2 hl
  · have e1 : upTo l t - 1 = 0 := by omega
    unfold freeL
    rw [e1]
    exact (free_few g v l t w h (by omega)).mono fun e w' ⟨h1, h2⟩ => ⟨h1, v, by rw [List.drop_zero]; exact h2 ▸ h, h2 ▸ Keep.refl _ w, fun k hk => .inl hk⟩
end Go.Proofs.Ytehiakdagmocjaa
