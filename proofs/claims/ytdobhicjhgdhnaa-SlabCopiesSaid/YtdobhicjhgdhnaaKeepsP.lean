/-
  What SlabKeeps keeps, call by call.
-/
import Derived.Test.YtdobhicjhgdhnaaAwake
namespace Go.Proofs.Ytdobhicjhgdhnaa
open Go.RowKit

/-- N slots; slot 0 holds v, of class c, in its turn 1; k calls so far -/
structure KS (N : Nat) (c v : Int) (k : Nat) (s : St) : Prop where
  len : s.l.length = N
  fresh : s.fresh ≤ N
  one : 1 ≤ s.fresh
  fr : s.fr.length ≤ k
  res : s.res = 1
  t : ∀ x ∈ s.l, 0 ≤ x.t ∧ x.t ≤ k + 1
  at0 : s.l[0]? = some ⟨c, 1, v⟩
  mem : ∀ i ∈ s.fr, ∃ j : Nat, i = (j : Int) ∧ 1 ≤ j ∧ j < N
theorem KS.small {N k : Nat} {c v : Int} {s : St} (h : KS N c v k s) (hN : N ≤ 100) (hk : k ≤ 100) : s.Small :=
  ⟨by rw [h.len]; omega, by have := h.fr; omega, by have := h.fresh; omega, by rw [h.res]; omega, fun x hx => by have := h.t x hx; omega⟩
theorem KS.more {N k : Nat} {c v : Int} {s : St} (h : KS N c v k s) : KS N c v (k + 1) s :=
  ⟨h.len, h.fresh, h.one, by have := h.fr; omega, h.res, fun x hx => by have := h.t x hx; omega, h.at0, h.mem⟩
theorem KS.set {N k : Nat} {c v : Int} {s : St} (h : KS N c v k s) {i : Nat} (hi : 1 ≤ i) {x : Sl} (hx : 0 ≤ x.t ∧ x.t ≤ k + 2) {fr : List Int} (hfr : fr.length ≤ k + 1) (hm : ∀ i ∈ fr, ∃ j : Nat, i = (j : Int) ∧ 1 ≤ j ∧ j < N) {fresh : Nat} (h1 : 1 ≤ fresh) (h2 : fresh ≤ N) :
    KS N c v (k + 1) ⟨s.l.set i x, fr, fresh, s.res⟩ := by
  refine ⟨by simpa using h.len, h2, h1, hfr, h.res, fun y hy => ?_, ?_, hm⟩
  · rcases List.mem_or_eq_of_mem_set hy with hy | rfl
    · have := h.t y hy; omega
    · omega
  · rw [List.getElem?_set_ne (by omega)]
    exact h.at0

/-- what a call leaves -/
def KPost (N : Nat) (c v : Int) (k : Nat) (g : Nat) (vs vf : Value) (w w' : World) : Prop :=
  ∃ s' vf', KS N c v (k + 1) s' ∧ SSlab w' g vs vf' s' ∧ Keep (foot g vs vf) w w' ∧ Later w g vs vf vs vf'
theorem KPost.same {N : Nat} {c v : Int} {k g : Nat} {vs vf : Value} {s : St} {w w' : World} (h : KS N c v k s) (hs : SSlab w g vs vf s) (f : Fresh w w') : KPost N c v k g vs vf w w' :=
  ⟨s, vf, h.more, hs.fresh f, f.more (fun _ _ h => h.elim), fun _k hk => .inl hk⟩

theorem take_k {N k g : Nat} {c v : Int} {vs vf : Value} {s : St} {w : World} (h : KS N c v k s) (hN : N ≤ 100) (hk : k ≤ 100) (hs : SSlab w g vs vf s) (cl x : Int) (u : Bool) :
    Calls Try.prog 12 #[.pointer (some ⟨g, 0, none⟩), .int .i64 cl, .bool u, .int .i64 x] w fun e w' =>
      (∃ a b er, e = .returned (.tuple #[.agg #[.int .i64 a, .int .i64 b], .int .i64 er]) ∧ (er = 0 → a ≠ 0)) ∧ KPost N c v k g vs vf w w' := by
  by_cases hc : cl < 1 ∨ 4 < cl
  · exact (take_arg g cl x u w hc).mono fun e w' ⟨h1, h2⟩ => ⟨⟨0, 0, 1, h1, by decide⟩, KPost.same h hs h2⟩
  by_cases hf : s.full u
  · exact (take_full g vs vf s cl x u w hs (h.small hN hk) (by omega) (by omega) hf).mono fun e w' ⟨h1, h2⟩ => ⟨⟨0, 0, 11, h1, by decide⟩, KPost.same h hs h2⟩
  rcases List.eq_nil_or_concat s.fr with hfr | ⟨init, i, hfr⟩
  · have hl : s.fresh < N := by
      have h0 : s.left ≠ 0 := fun h0 => hf (.inl h0)
      unfold St.left at h0
      rw [hfr, h.len] at h0
      have := h.fresh
      simp at h0
      omega
    obtain ⟨y, hy⟩ : ∃ y, s.l[s.fresh]? = some y := ⟨_, List.getElem?_eq_getElem (by rw [h.len]; exact hl)⟩
    have ht := h.t y (List.mem_of_getElem? hy)
    have h1 := h.one
    refine (take_new g vs vf s y cl x u w hs (h.small hN hk) (by omega) (by omega) hf hfr hy).mono fun e w' ⟨e1, vf', s2, k2, l2⟩ => ⟨⟨_, _, _, e1, fun _ => by omega⟩, _, vf', ?_, s2, k2, l2⟩
    exact h.set h1 (by simp only; omega) (by have := h.fr; omega) h.mem (by omega) (by omega)
  · rw [List.concat_eq_append] at hfr
    obtain ⟨j, rfl, j1, j2⟩ := h.mem i (by rw [hfr]; simp)
    obtain ⟨y, hy⟩ : ∃ y, s.l[j]? = some y := ⟨_, List.getElem?_eq_getElem (by rw [h.len]; exact j2)⟩
    have ht := h.t y (List.mem_of_getElem? hy)
    have hl := h.fr
    rw [hfr, List.length_append, List.length_singleton] at hl
    refine (take_freed g vs vf s init j y cl x u w hs (h.small hN hk) (by omega) (by omega) hf hfr hy).mono fun e w' ⟨e1, vf', s2, k2, l2⟩ => ⟨⟨_, _, _, e1, fun _ => by omega⟩, _, vf', ?_, s2, k2, l2⟩
    exact h.set j1 (by simp only; omega) (by omega) (fun i hi => h.mem i (by rw [hfr]; simp [hi])) h.one h.fresh

theorem free_k {N k g : Nat} {c v : Int} {vs vf : Value} {s : St} {w : World} (h : KS N c v k s) (hN : N ≤ 100) (hk : k ≤ 100) (hs : SSlab w g vs vf s) (a t : Int) (ha : a ≠ 0) :
    Calls Try.prog 13 #[.pointer (some ⟨g, 0, none⟩), .agg #[.int .i64 a, .int .i64 t]] w fun e w' =>
      (∃ x er, e = .returned (.tuple #[.int .i64 x, .int .i64 er])) ∧ KPost N c v k g vs vf w w' := by
  have hl := h.fr
  refine (free_any g vs vf s a t w hs (by rw [h.len]; omega) (by omega)).mono ?_
  rintro e w' (⟨i, x, vf', ht, rfl, s2, k2, l2⟩ | ⟨_, rfl, f⟩)
  · obtain ⟨rfl, hx, _, _⟩ := ht
    have hxt := h.t x (List.mem_of_getElem? hx)
    have hi := (List.getElem?_eq_some_iff.1 hx).1
    rw [h.len] at hi
    refine ⟨⟨_, _, rfl⟩, _, vf', ?_, s2, k2, l2⟩
    exact h.set (by omega) (by simp only; omega) (by simp; omega) (fun j hj => by
      rcases List.mem_append.1 hj with hj | hj
      · exact h.mem j hj
      · rw [List.mem_singleton.1 hj]; exact ⟨i, rfl, by omega, hi⟩) h.one h.fresh
  · exact ⟨⟨_, _, rfl⟩, KPost.same h hs f⟩

theorem set_k {N k g : Nat} {c v : Int} {vs vf : Value} {s : St} {w : World} (h : KS N c v k s) (hN : N ≤ 100) (hs : SSlab w g vs vf s) (a t x : Int) (ha : a ≠ 0) :
    Calls Try.prog 17 #[.pointer (some ⟨g, 0, none⟩), .agg #[.int .i64 a, .int .i64 t], .int .i64 x] w fun e w' =>
      (∃ er, e = .returned (.int .i64 er)) ∧ KPost N c v k g vs vf w w' := by
  have hl := h.fr
  refine (set_any g vs vf s a t x w hs (by rw [h.len]; omega)).mono ?_
  rintro e w' (⟨i, y, ht, rfl, s2, k2⟩ | ⟨_, rfl, f⟩)
  · obtain ⟨rfl, hx, _, _⟩ := ht
    have hxt := h.t y (List.mem_of_getElem? hx)
    refine ⟨⟨_, rfl⟩, _, vf, ?_, s2, k2, fun k hk => .inl hk⟩
    exact h.set (by omega) (by simp only; omega) (by omega) h.mem h.one h.fresh
  · exact ⟨⟨_, rfl⟩, KPost.same h hs f⟩
theorem get_k {N k g : Nat} {c v : Int} {vs vf : Value} {s : St} {w : World} (h : KS N c v k s) (hN : N ≤ 100) (hs : SSlab w g vs vf s) (hc : c ≠ 0) :
    Calls Try.prog 16 #[.pointer (some ⟨g, 0, none⟩), .agg #[.int .i64 0, .int .i64 1]] w fun e w' => e = .returned (.tuple #[.int .i64 v, .int .i64 0]) ∧ Fresh w w' := by
  refine (get_any g vs vf s 0 1 w hs (by rw [h.len]; omega)).mono ?_
  rintro e w' ⟨f, ⟨i, x, ht, rfl⟩ | ⟨hn, rfl⟩⟩
  · obtain ⟨hi, hx, _, _⟩ := ht
    obtain rfl : i = 0 := by omega
    rw [h.at0] at hx
    injection hx with hx
    subst hx
    exact ⟨rfl, f⟩
  · exact absurd ⟨rfl, h.at0, hc, rfl⟩ (hn 0 ⟨c, 1, v⟩)
theorem class_k {N k g : Nat} {c v : Int} {vs vf : Value} {s : St} {w : World} (h : KS N c v k s) (hN : N ≤ 100) (hs : SSlab w g vs vf s) (hc : c ≠ 0) :
    Calls Try.prog 18 #[.pointer (some ⟨g, 0, none⟩), .agg #[.int .i64 0, .int .i64 1]] w fun e w' => e = .returned (.tuple #[.int .i64 c, .int .i64 0]) ∧ Fresh w w' := by
  refine (class_any g vs vf s 0 1 w hs (by rw [h.len]; omega)).mono ?_
  rintro e w' ⟨f, ⟨i, x, ht, rfl⟩ | ⟨hn, rfl⟩⟩
  · obtain ⟨hi, hx, _, _⟩ := ht
    obtain rfl : i = 0 := by omega
    rw [h.at0] at hx
    injection hx with hx
    subst hx
    exact ⟨rfl, f⟩
  · exact absurd ⟨rfl, h.at0, hc, rfl⟩ (hn 0 ⟨c, 1, v⟩)
theorem free_0 {N k g : Nat} {c v : Int} {vs vf : Value} {s : St} {w : World} (h : KS N c v k s) (hN : N ≤ 100) (hk : k ≤ 100) (hs : SSlab w g vs vf s) (hc : c ≠ 0) :
    Calls Try.prog 13 #[.pointer (some ⟨g, 0, none⟩), .agg #[.int .i64 0, .int .i64 1]] w fun e w' => e = .returned (.tuple #[.int .i64 v, .int .i64 0]) ∧ Keep (foot g vs vf) w w' := by
  have hl := h.fr
  refine (free_any g vs vf s 0 1 w hs (by rw [h.len]; omega) (by omega)).mono ?_
  rintro e w' (⟨i, x, vf', ht, rfl, s2, k2, l2⟩ | ⟨hn, rfl, f⟩)
  · obtain ⟨hi, hx, _, _⟩ := ht
    obtain rfl : i = 0 := by omega
    rw [h.at0] at hx
    injection hx with hx
    subst hx
    exact ⟨rfl, k2⟩
  · exact absurd ⟨rfl, h.at0, hc, rfl⟩ (hn 0 ⟨c, 1, v⟩)
theorem few_any (A : Option Addr) (n c : Nat) (w : World) : Calls Try.prog 9 #[.slice A n c] w fun e w' => e = .returned (.bool (decide (n ≤ 60))) ∧ w = w' := by
  by_cases h : n ≤ 60
  · have q : decide ((n : Int) ≤ 60) = true := by simp; omega
    rw [decide_eq_true h]
    clear h
    go_enter Try.func9, Try.ntmps9
    go_wp2
    go_ret
    exact ⟨rfl, rfl⟩
  · have q : decide ((n : Int) ≤ 60) = false := by simp; omega
    rw [decide_eq_false h]
    clear h
    go_enter Try.func9, Try.ntmps9
    go_wp2
    go_ret
    exact ⟨rfl, rfl⟩
end Go.Proofs.Ytdobhicjhgdhnaa
