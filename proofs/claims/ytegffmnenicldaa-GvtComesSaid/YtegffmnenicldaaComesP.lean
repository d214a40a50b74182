/-
  All that is on its way comes: plain.
-/
import Derived.Test.YtegffmnenicldaaBelowP
namespace Go.Proofs.Ytegffmnenicldaa
open Go.RowKit

/-! ### all that is on its way comes -/
def wt (p : Pk) : Nat := if p.kind = 0 ∨ p.kind = 2 then 2 else 1
def pot (l : List Pk) : Nat := (l.map wt).sum
theorem pot_append (l m : List Pk) : pot (l ++ m) = pot l + pot m := by simp [pot]
theorem pot_erase {l : List Pk} {p : Pk} (h : l[0]? = some p) : pot l = wt p + pot (l.eraseIdx 0) := by
  cases l with
  | nil => simp at h
  | cons a l => simp at h; subst h; simp [pot]
theorem pot_zero {l : List Pk} (h : pot l = 0) : l = [] := by
  cases l with
  | nil => rfl
  | cons a l =>
    simp only [pot, List.map_cons, List.sum_cons] at h
    have : 1 ≤ wt a := by unfold wt; split <;> omega
    omega
theorem comes_pot {x : WS} (hl : x.l ≠ []) : pot (x.comes 0).l + 1 = pot x.l := by
  obtain ⟨p, hp⟩ : ∃ p, x.l[0]? = some p := by
    cases e : x.l with
    | nil => exact absurd e hl
    | cons a l => exact ⟨a, rfl⟩
  have he := pot_erase hp
  have hpm := List.mem_of_getElem? hp
  unfold WS.comes
  rw [hp]
  simp only
  by_cases h0 : p.kind = 0
  · rw [if_pos h0]
    have : wt p = 2 := by simp [wt, h0]
    have e1 : ∀ a b c d : Int, pot [(⟨1, a, b, c, d⟩ : Pk)] = 1 := fun a b c d => by simp [pot, wt]
    simp only [WS.got, pot_append, e1]
    omega
  · rw [if_neg h0]
    by_cases h1 : p.kind = 1
    · rw [if_pos h1]
      have : wt p = 1 := by simp [wt, h1]
      simp only [WS.ack]
      omega
    · rw [if_neg h1]
      by_cases h2 : p.kind = 2
      · rw [if_pos h2]
        have : wt p = 2 := by simp [wt, h2]
        have e1 : ∀ a b c d : Int, pot [(⟨3, a, b, c, d⟩ : Pk)] = 1 := fun a b c d => by simp [pot, wt]
        simp only [WS.start, pot_append, e1]
        omega
      · rw [if_neg h2]
        have : wt p = 1 := by simp [wt, h0, h2]
        simp only [WS.rep]
        omega
theorem send_pot (x : WS) (w : Nat) (g : GW) (at_ d : Int) : pot (x.send w g at_ d).l ≤ pot x.l + 2 := by
  unfold WS.send
  split
  · omega
  · simp only [pot_append]
    simp [pot, wt]
theorem sends_pot (w : Nat) (at_ : Int) : ∀ (l : List Int) (x : WS), pot (x.sends w at_ l).l ≤ pot x.l + 2 * l.length
  | [], _ => by simp [WS.sends]
  | d :: l, x => by
    have h1 := sends_pot w at_ l (x.send w (x.w.getD w ⟨0, [], 0⟩) at_ d)
    have h2 := send_pot x w (x.w.getD w ⟨0, [], 0⟩) at_ d
    simp only [WS.sends, List.length_cons]
    omega
theorem starts_pot (no : Int) : ∀ n : Nat, pot (starts n no) = 2 * n
  | 0 => rfl
  | n + 1 => by
    have ih := starts_pot no n
    unfold starts at ih ⊢
    rw [List.range_succ, List.map_append, pot_append, ih]
    simp [pot, wt]
    omega
theorem begin_pot (x : WS) : pot x.begin.l ≤ pot x.l + 2 * x.w.length := by
  unfold WS.begin
  split
  · omega
  · simp only [pot_append, starts_pot]; omega
/-- nothing is on its way: no round runs, nothing waits, all are in the same round -/
theorem WI.rest {n k : Nat} {x : WS} (h : WI n k x) (hl : x.l = []) : x.m.runs = false ∧ (∀ g ∈ x.w, g.l = [] ∧ g.no = x.m.no) := by
  have hr : x.m.runs = false := by
    cases hr : x.m.runs with
    | false => rfl
    | true =>
      exfalso
      obtain ⟨a, ha⟩ := List.mem_iff_getElem?.1 (h.rn hr)
      have hal : a < x.w.length := by have := (List.getElem?_eq_some_iff.1 ha).1; have := h.ms.len; have := h.wl; omega
      have hg := List.getElem?_eq_getElem hal
      rcases h.rd a _ hg with e | ⟨_, e⟩
      · have := h.c3 a _ _ hg ha hr
        rw [hl, if_pos ⟨e, rfl⟩] at this
        simp at this
      · have := h.c2 a _ hg hr
        rw [hl, if_pos e] at this
        simp at this
  refine ⟨hr, fun g hg => ?_⟩
  obtain ⟨a, ha⟩ := List.mem_iff_getElem?.1 hg
  refine ⟨?_, ?_⟩
  · cases e : g.l with
    | nil => rfl
    | cons p l =>
      have := h.ct a g ha p.1
      rw [hl, e] at this
      have hk : keyB (p :: l) p.1 = true := by simp [keyB]
      rw [if_pos hk] at this
      simp at this
  · rcases h.rd a g ha with e | ⟨e, _⟩
    · exact e
    · rw [hr] at e; cases e
/-- a round in which nothing is sent: T is no greater than any open time; L: the lows are gone, too -/
structure Calm (L : Bool) (T : Int) (os : List (List Int)) (x : WS) : Prop where
  o : x.o = os
  pk : ∀ p ∈ x.l, p.kind = 2 ∨ (p.kind = 3 ∧ (L = true → T ≤ p.at_))
  w : ∀ g ∈ x.w, g.l = [] ∧ ((L = true ∨ g.no = x.m.no) → g.low = 1073741825)
  m : L = true → (∀ r ∈ x.m.l, r = -1 ∨ T ≤ r) ∧ (x.m.runs = true ∨ T ≤ x.m.time)
theorem Calm.comes {L : Bool} {T : Int} {os : List (List Int)} {n k : Nat} {x : WS} (h : WI n k x) (c : Calm L T os x) (hT : T ≤ 1073741825) (ho : ∀ l ∈ os, ∀ t ∈ l, T ≤ t) : Calm L T os (x.comes 0) := by
  unfold WS.comes
  cases hp : x.l[0]? with
  | none => exact c
  | some p =>
    simp only
    have hpm := List.mem_of_getElem? hp
    have hsub : ∀ q ∈ x.l.eraseIdx 0, q ∈ x.l := fun q hq => List.mem_of_mem_eraseIdx hq
    have hwl := h.wl
    have hol := h.ol
    rcases c.pk p hpm with h2 | ⟨h3, hat⟩
    · obtain ⟨i, e, hi⟩ := h.to_lt hpm (by omega)
      rw [if_neg (by omega), if_neg (by omega), if_pos h2, e, Int.toNat_natCast]
      have hg : x.w[i]? = some (x.w.getD i ⟨0, [], 0⟩) := getD_some (by omega)
      have hl : x.o[i]? = some (x.o.getD i []) := getD_some (by omega)
      obtain ⟨g, hgd⟩ : ∃ g, x.w.getD i ⟨0, [], 0⟩ = g := ⟨_, rfl⟩
      obtain ⟨l, hld⟩ : ∃ l, x.o.getD i [] = l := ⟨_, rfl⟩
      rw [hgd] at hg ⊢
      rw [hld] at hl ⊢
      have hlm := List.mem_of_getElem? hl
      have hgm := List.mem_of_getElem? hg
      obtain ⟨i', g', e1, e2, eno, er, eg⟩ := h.p2 p hpm h2
      have ei : i' = i := by omega
      subst ei
      rw [hg] at e2
      injection e2 with e2
      subst e2
      unfold WS.start
      rw [start_ok (by omega) (fun t ht => by have := (h.ot l hlm).2 t ht; omega)]
      obtain ⟨w1, w2⟩ := c.w g hgm
      refine ⟨c.o, fun q hq => ?_, fun g' hg' => ?_, c.m⟩
      · rcases List.mem_append.1 hq with hq | hq
        · exact c.pk q (hsub q hq)
        · rw [List.mem_singleton.1 hq]
          refine .inr ⟨rfl, fun hL => ?_⟩
          simp only
          have hlo := w2 (.inl hL)
          rw [w1, hlo]
          have hml : minOf ([] : List (Int × Int)).unzip.2 = 1073741825 := rfl
          rcases (foldl_min_le l (min (minOf (([] : List (Int × Int)).map (·.2))) 1073741825)).2.2 with e | e
          · rw [e]
            simp [minOf]
            omega
          · exact ho l (by rw [← c.o]; exact hlm) _ e
      · rcases List.mem_or_eq_of_mem_set hg' with hg' | rfl
        · exact c.w g' hg'
        · exact ⟨w1, fun _ => rfl⟩
    · rw [if_neg (by omega), if_neg (by omega), if_neg (by omega)]
      obtain ⟨i, g, e1, e2, eno, er, eg, em, ea0, ea1⟩ := h.p3 p hpm h3
      unfold WS.rep
      have hmn : (x.m.report p.fr p.no p.at_).2.2.no = x.m.no := by
        unfold GM.report
        split
        · rfl
        split
        · rfl
        split
        · rfl
        split
        · rfl
        split <;> rfl
      refine ⟨c.o, fun q hq => c.pk q (hsub q hq), fun g' hg' => by simp only; rw [hmn]; exact c.w g' hg', fun hL => ?_⟩
      obtain ⟨m1, m2⟩ := c.m hL
      have hti : p.fr.toNat = i := by omega
      have hset : ∀ r ∈ x.m.l.set i p.at_, r = -1 ∨ T ≤ r := fun r hr => by
        rcases List.mem_or_eq_of_mem_set hr with hr | rfl
        · exact m1 r hr
        · exact .inr (hat hL)
      simp only
      unfold GM.report
      split
      · exact ⟨m1, m2⟩
      split
      · exact ⟨m1, m2⟩
      split
      · exact ⟨m1, m2⟩
      split
      · exact ⟨m1, m2⟩
      rw [hti]
      split
      · exact ⟨hset, .inl er⟩
      · rename_i hc
        refine ⟨hset, .inr ?_⟩
        have hcm : (-1 : Int) ∉ x.m.l.set i p.at_ := by simpa [List.contains_iff_mem] using hc
        have : T ≤ minOf (x.m.l.set i p.at_) := by
          unfold minOf
          rcases (foldl_min_le (x.m.l.set i p.at_) 1073741825).2.2 with e | e
          · rw [e]; exact hT
          · rcases hset _ e with h1 | h1
            · rw [h1] at e; exact absurd e hcm
            · exact h1
        simp only
        omega
/-- a round begins at rest -/
theorem Calm.begin {L : Bool} {T : Int} {n k : Nat} {x : WS} (h : WI n k x) (hl : x.l = []) (hL : L = true → ∀ g ∈ x.w, g.low = 1073741825) : Calm L T x.o x.begin := by
  obtain ⟨hr, hw⟩ := h.rest hl
  unfold WS.begin
  rw [if_neg (by rw [hr]; simp)]
  have hb : x.m.begin.2.2 = ⟨x.m.no + 1, true, x.m.time, List.replicate x.m.l.length (-1)⟩ := by unfold GM.begin; rw [hr]; simp
  rw [hb]
  refine ⟨rfl, fun p hp => ?_, fun g hg => ⟨(hw g hg).1, fun hh => ?_⟩, fun _ => ⟨fun r hr => .inl (List.eq_of_mem_replicate hr), .inl rfl⟩⟩
  · rw [hl] at hp
    simp only [List.nil_append] at hp
    obtain ⟨i, _, rfl⟩ := starts_mem hp
    exact .inl rfl
  · rcases hh with hh | hh
    · exact hL hh g hg
    · have := (hw g hg).2
      simp only at hh
      omega
def WS.drain (x : WS) : Nat → WS
  | 0 => x
  | f + 1 => (x.comes 0).drain f
theorem least_open {x : WS} (hl : x.l = []) : (∀ l ∈ x.o, ∀ t ∈ l, x.least ≤ t) ∧ x.least ≤ 1073741825 := by
  have e1 : ∀ (os : List (List Int)) (a : Int), os.foldl (fun a l => l.foldl min a) a ≤ a ∧ ∀ l ∈ os, ∀ t ∈ l, os.foldl (fun a l => l.foldl min a) a ≤ t := by
    intro os
    induction os with
    | nil => intro a; exact ⟨Int.le_refl _, by simp⟩
    | cons l os ih =>
      intro a
      obtain ⟨h1, h2⟩ := ih (l.foldl min a)
      obtain ⟨f1, f2, _⟩ := foldl_min_le l a
      refine ⟨Int.le_trans h1 f1, fun l' hl' t ht => ?_⟩
      rcases List.mem_cons.1 hl' with rfl | hl'
      · exact Int.le_trans h1 (f2 t ht)
      · exact h2 l' hl' t ht
  unfold WS.least
  rw [hl]
  exact ⟨(e1 x.o 1073741825).2, (e1 x.o 1073741825).1⟩
/-- at rest behind a calm round without lows: the time is the least open one -/
theorem Calm.done {n k : Nat} {x y : WS} (h : WI n k y) (hl : y.l = []) (hx : x.l = []) (c : Calm true x.least x.o y) : y.m.time = y.least := by
  have h1 := h.below
  have h2 : x.least = y.least := by unfold WS.least; rw [hx, hl, c.o]
  rcases (c.m rfl).2 with e | e
  · rw [(h.rest hl).1] at e; cases e
  · omega
end Go.Proofs.Ytegffmnenicldaa
