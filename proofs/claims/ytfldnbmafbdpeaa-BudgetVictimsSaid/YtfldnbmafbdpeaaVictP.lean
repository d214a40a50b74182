/-
  Who is taken does not hang on the order: plain.
-/
import Derived.Test.YtfldnbmafbdpeaaVict
import Derived.Test.YtfldnbmafbdpeaaEvOrd
namespace Go.Proofs.Ytfldnbmafbdpeaa
open Go.RowKit

def valid (f : Int) (e : Ev) : Prop := ¬ (e.s < 0 ∨ e.t < f)
def over (v e : Ev) : Prop := v.t < e.t ∨ (e.t = v.t ∧ evLt v e = true)
theorem over_trans {a b c : Ev} (h : over a b) (h' : over b c) : over a c := by
  unfold over at *
  rcases h with h | ⟨h1, h2⟩ <;> rcases h' with h' | ⟨h3, h4⟩
  · left; omega
  · left; omega
  · left; omega
  · exact .inr ⟨by omega, evLt_trans h2 h4⟩
theorem over_total {a b : Ev} (h : ¬ over a b) (h' : ¬ over b a) : a = b := by
  unfold over at *
  have ht : a.t = b.t := by
    have h1 : ¬ a.t < b.t := fun hh => h (.inl hh)
    have h2 : ¬ b.t < a.t := fun hh => h' (.inl hh)
    omega
  refine evLt_total ?_ ?_
  · cases hq : evLt a b
    · rfl
    · exact absurd (.inr ⟨ht.symm, hq⟩) h
  · cases hq : evLt b a
    · rfl
    · exact absurd (.inr ⟨ht, hq⟩) h'

def Best (f : Int) (l : List Ev) (s : Ev × Bool) : Prop :=
  (s = (ev0, false) ∧ ∀ e ∈ l, ¬ valid f e) ∨ (s.2 = true ∧ s.1 ∈ l ∧ valid f s.1 ∧ ∀ e ∈ l, valid f e → ¬ over s.1 e)
theorem vic_snoc (f : Int) (l : List Ev) (e : Ev) : vic f (l ++ [e]) = vstep f (vic f l) e := by simp [vic]
theorem over_irrefl (e : Ev) : ¬ over e e := by
  rintro (h | ⟨_, h⟩)
  · omega
  · rw [evLt_irrefl] at h; cases h
theorem best_step {f : Int} {l : List Ev} {s : Ev × Bool} {e : Ev} (h : Best f l s) : Best f (l ++ [e]) (vstep f s e) := by
  unfold vstep
  by_cases hv : e.s < 0 ∨ e.t < f
  · rw [if_pos hv]
    rcases h with ⟨rfl, h⟩ | ⟨h1, h2, h3, h4⟩
    · exact .inl ⟨rfl, fun x hx => by
        rcases List.mem_append.1 hx with hx | hx
        · exact h x hx
        · rw [List.mem_singleton.1 hx]; exact fun hn => hn hv⟩
    · exact .inr ⟨h1, by simp [h2], h3, fun x hx hvx => by
        rcases List.mem_append.1 hx with hx | hx
        · exact h4 x hx hvx
        · rw [List.mem_singleton.1 hx] at hvx; exact absurd hv hvx⟩
  · rw [if_neg hv]
    rcases h with ⟨rfl, h⟩ | ⟨h1, h2, h3, h4⟩
    · rw [if_pos (.inl rfl)]
      exact .inr ⟨rfl, by simp, hv, fun x hx hvx => by
        rcases List.mem_append.1 hx with hx | hx
        · exact absurd hvx (h x hx)
        · rw [List.mem_singleton.1 hx]; exact over_irrefl e⟩
    · by_cases ho : over s.1 e
      · rw [if_pos (.inr ho)]
        exact .inr ⟨rfl, by simp, hv, fun x hx hvx => by
          rcases List.mem_append.1 hx with hx | hx
          · exact fun hh => h4 x hx hvx (over_trans ho hh)
          · rw [List.mem_singleton.1 hx]; exact over_irrefl e⟩
      · rw [if_neg (by rintro (hh | hh); (rw [h1] at hh; cases hh); exact ho hh)]
        exact .inr ⟨h1, by simp [h2], h3, fun x hx hvx => by
          rcases List.mem_append.1 hx with hx | hx
          · exact h4 x hx hvx
          · rw [List.mem_singleton.1 hx]; exact ho⟩
theorem best_aux (f : Int) : ∀ (m l : List Ev), Best f l (vic f l) → Best f (l ++ m) (vic f (l ++ m))
  | [], l, h => by simpa using h
  | e :: m, l, h => by
    have := best_aux f m (l ++ [e]) (by rw [vic_snoc]; exact best_step h)
    simpa using this
theorem best_any (f : Int) (l : List Ev) : Best f l (vic f l) := by
  have := best_aux f l [] (.inl ⟨rfl, by simp⟩)
  simpa using this
theorem best_one {f : Int} {l m : List Ev} {s s' : Ev × Bool} (hm : ∀ e, e ∈ l ↔ e ∈ m) (h : Best f l s) (h' : Best f m s') : s = s' := by
  rcases h with ⟨rfl, h⟩ | ⟨h1, h2, h3, h4⟩ <;> rcases h' with ⟨rfl, h'⟩ | ⟨h1', h2', h3', h4'⟩
  · rfl
  · exact absurd h3' (h _ ((hm _).2 h2'))
  · exact absurd h3 (h' _ ((hm _).1 h2))
  · have := over_total (h4 _ ((hm _).2 h2') h3') (h4' _ ((hm _).1 h2) h3)
    exact Prod.ext this (by rw [h1, h1'])
theorem vic_reverse (f : Int) (l : List Ev) : vic f l.reverse = vic f l := best_one (by simp) (best_any f _) (best_any f _)
end Go.Proofs.Ytfldnbmafbdpeaa
