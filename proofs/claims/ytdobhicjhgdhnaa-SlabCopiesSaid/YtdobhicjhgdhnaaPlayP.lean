/-
  What SlabPlays keeps, call by call: a slab and the document's, with the same slots.
-/
import Derived.Test.YtdobhicjhgdhnaaRTake2
import Derived.Test.YtdobhicjhgdhnaaRFree
import Derived.Test.YtdobhicjhgdhnaaTurnsP
namespace Go.Proofs.Ytdobhicjhgdhnaa
open Go.RowKit

theorem countP_set_ (p : Sl → Bool) : ∀ {l : List Sl} {j : Nat} {x : Sl} (y : Sl), l[j]? = some x → (l.set j y).countP p + (if p x then 1 else 0) = l.countP p + (if p y then 1 else 0)
  | [], j, x, y, h => by simp at h
  | a :: r, 0, x, y, h => by
    simp at h
    subst h
    simp only [List.set_cons_zero, List.countP_cons]
    omega
  | a :: r, j + 1, x, y, h => by
    have := countP_set_ p (l := r) (j := j) y (by simpa using h)
    simp only [List.set_cons_succ, List.countP_cons]
    omega
/-- N slots, k calls so far -/
structure PS (N k : Nat) (r : Int) (s : St) : Prop where
  ts : TS N k r s
  cl : ∀ x ∈ s.l, x.c ≠ 0 → 1 ≤ x.c ∧ x.c ≤ 4
  cn : s.l.countP isLive + s.fr.length = s.fresh
theorem PS.start (N : Nat) (r : Int) : PS N 0 r (St.new N r) := by
  refine ⟨TS.start N r, ?_, ?_⟩
  · intro x hx h
    rw [List.eq_of_mem_replicate hx] at h
    simp at h
  · simp [St.new, isLive, List.countP_replicate]
theorem PS.more {N k : Nat} {r : Int} {s : St} (h : PS N k r s) : PS N (k + 1) r s := ⟨h.ts.more, h.cl, h.cn⟩
theorem PS.small {N k : Nat} {r : Int} {s : St} (h : PS N k r s) (hN : N ≤ 4096) (hk : k ≤ 1000) (hr : 0 ≤ r ∧ r ≤ 4096) : s.Small :=
  ⟨by rw [h.ts.len]; omega, by have := h.ts.fr; omega, by have := h.ts.fresh; omega, by rw [h.ts.res]; omega, fun x hx => by have := h.ts.t x hx; omega⟩
theorem free_live (x : Sl) : isFree x = !isLive x := by
  unfold isFree isLive
  by_cases h : x.c = 0 <;> simp [h]
theorem PS.left {N k : Nat} {r : Int} {s : St} (h : PS N k r s) : (s.l.countP isFree : Int) = s.left := by
  have h1 : s.l.length = s.l.countP isLive + s.l.countP isFree := by
    rw [List.length_eq_countP_add_countP (p := isLive)]
    congr 1
    apply List.countP_congr
    intro x _
    rw [free_live]
    cases isLive x <;> simp
  have h2 := h.cn
  unfold St.left
  omega
theorem PS.full {N k : Nat} {r : Int} {s : St} (h : PS N k r s) (u : Bool) : (s.l.countP isFree = 0 ∨ (u = false ∧ (s.l.countP isFree : Int) ≤ s.res)) ↔ s.full u := by
  have := h.left
  unfold St.full
  constructor
  · rintro (h1 | h1)
    · exact .inl (by omega)
    · exact .inr ⟨h1.1, by omega⟩
  · rintro (h1 | h1)
    · exact .inl (by omega)
    · exact .inr ⟨h1.1, by omega⟩
theorem cl_set' {l : List Sl} (h : ∀ x ∈ l, x.c ≠ 0 → 1 ≤ x.c ∧ x.c ≤ 4) {j : Nat} {y : Sl} (hy : y.c ≠ 0 → 1 ≤ y.c ∧ y.c ≤ 4) : ∀ x ∈ l.set j y, x.c ≠ 0 → 1 ≤ x.c ∧ x.c ≤ 4 := by
  intro x hx
  rcases List.mem_or_eq_of_mem_set hx with hx | rfl
  · exact h x hx
  · exact hy
theorem live_of {x : Sl} (h : x.c ≠ 0) : isLive x = true := by unfold isLive; simp [h]
theorem live_not {x : Sl} (h : x.c = 0) : isLive x = false := by unfold isLive; simp [h]
theorem PS.take_new {N k : Nat} {r : Int} {s : St} (h : PS N k r s) (hl : s.fresh < N) (hfr : s.fr = []) {x : Sl} (hx : s.l[s.fresh]? = some x) {c v : Int} (h1 : 1 ≤ c) (h4 : c ≤ 4) : PS N (k + 1) r ⟨s.l.set s.fresh ⟨c, 1, v⟩, s.fr, s.fresh + 1, s.res⟩ := by
  refine ⟨h.ts.take_new hl hfr (by omega), cl_set' h.cl (fun _ => ⟨h1, h4⟩), ?_⟩
  have h0 : x.c = 0 := (h.ts.cls _ x hx).2 (.inr (Nat.le_refl _))
  have := countP_set_ isLive (⟨c, 1, v⟩ : Sl) hx
  rw [live_not h0, live_of (x := ⟨c, 1, v⟩) (by simp only; omega)] at this
  have := h.cn
  simp at *
  omega
theorem PS.take_freed {N k : Nat} {r : Int} {s : St} (h : PS N k r s) {init : List Int} {j : Nat} {x : Sl} (hfr : s.fr = init ++ [(j : Int)]) (hx : s.l[j]? = some x) {c v : Int} (h1 : 1 ≤ c) (h4 : c ≤ 4) : PS N (k + 1) r ⟨s.l.set j ⟨c, x.t + 1, v⟩, init, s.fresh, s.res⟩ := by
  refine ⟨h.ts.take_freed hfr hx (by omega), cl_set' h.cl (fun _ => ⟨h1, h4⟩), ?_⟩
  have h0 : x.c = 0 := (h.ts.cls _ x hx).2 (.inl (by rw [hfr]; simp))
  have := countP_set_ isLive (⟨c, x.t + 1, v⟩ : Sl) hx
  rw [live_not h0, live_of (x := ⟨c, x.t + 1, v⟩) (by simp only; omega)] at this
  have := h.cn
  rw [hfr] at this
  simp at *
  omega
theorem PS.free {N k : Nat} {r : Int} {s : St} (h : PS N k r s) {j : Nat} {x : Sl} (hx : s.l[j]? = some x) (hc : x.c ≠ 0) : PS N (k + 1) r (s.free j x) := by
  refine ⟨h.ts.free hx hc, cl_set' h.cl (fun h => by simp at h), ?_⟩
  have := countP_set_ isLive (⟨0, x.t, 0⟩ : Sl) hx
  rw [live_of hc, live_not (x := ⟨0, x.t, 0⟩) rfl] at this
  have := h.cn
  simp [St.free] at *
  omega
theorem PS.setv {N k : Nat} {r : Int} {s : St} (h : PS N k r s) {j : Nat} {x : Sl} (hx : s.l[j]? = some x) (v : Int) : PS N (k + 1) r { s with l := s.l.set j { x with v := v } } := by
  have hxt := h.ts.t x (List.mem_of_getElem? hx)
  refine ⟨⟨by simpa using h.ts.len, h.ts.fresh, Nat.le_succ_of_le h.ts.fr, h.ts.res, ?_, ?_, ?_, ?_, h.ts.mem, h.ts.nd⟩, cl_set' h.cl (fun h0 => h.cl x (List.mem_of_getElem? hx) h0), ?_⟩
  · intro y hy
    rcases List.mem_or_eq_of_mem_set hy with hy | rfl
    · have := h.ts.t y hy; omega
    · simp only; omega
  · intro i y hy
    rcases get_set hy with ⟨rfl, rfl⟩ | ⟨_, hy⟩
    · exact h.ts.cls i x hx
    · exact h.ts.cls i y hy
  · intro i y hy hi
    rcases get_set hy with ⟨rfl, rfl⟩ | ⟨_, hy⟩
    · exact h.ts.new i x hx hi
    · exact h.ts.new i y hy hi
  · intro i y hy hi
    rcases get_set hy with ⟨rfl, rfl⟩ | ⟨_, hy⟩
    · exact h.ts.liv i x hx hi
    · exact h.ts.liv i y hy hi
  · have := countP_set_ isLive ({ x with v := v } : Sl) hx
    have e : isLive ({ x with v := v } : Sl) = isLive x := rfl
    rw [e] at this
    have := h.cn
    simp only
    omega
/-- what both answer to a Take: the number of the fault, the slot, its turn, and what the slab holds then -/
structure TakeBoth (N k : Nat) (r : Int) (s : St) (c v : Int) (u : Bool) (er at_ t : Int) (s' : St) : Prop where
  ps : PS N (k + 1) r s'
  bad : er ≠ 0 → s' = s ∧ at_ = 0 ∧ t = 0
  ok : er = 0 → ∃ (i : Nat) (x : Sl), at_ = (i : Int) ∧ s'.l[i]? = some x ∧ x.t = t
  real : ∀ (g : Nat) (vs vf : Value) (W : World), SSlab W g vs vf s → Calls Try.prog 12 #[.pointer (some ⟨g, 0, none⟩), .int .i64 c, .bool u, .int .i64 v] W fun e w' => e = .returned (.tuple #[.agg #[.int .i64 at_, .int .i64 t], .int .i64 er]) ∧ ∃ vf', SSlab w' g vs vf' s' ∧ Keep (foot g vs vf) W w' ∧ Later W g vs vf vs vf'
  doc : ∀ (g : Nat) (vl vf : Value) (W : World), RSlab W g vl vf s.l s.fr s.res → Calls Try.prog 29 #[.pointer (some ⟨g, 0, none⟩), .int .i64 c, .bool u, .int .i64 v] W fun e w' => e = .returned (.tuple #[.int .i64 at_, .int .i64 er]) ∧ ∃ vf', RSlab w' g vl vf' s'.l s'.fr s'.res ∧ Keep (foot g vl vf) W w' ∧ Later W g vl vf vl vf'
theorem fresh_both {W w' : World} {g : Nat} {vs vf : Value} (f : Fresh W w') : Keep (foot g vs vf) W w' ∧ Later W g vs vf vs vf := ⟨f.more (fun _ _ h => h.elim), fun _ h => .inl h⟩
theorem take_both {N k : Nat} {r : Int} {s : St} (h : PS N k r s) (hN : N ≤ 4096) (hk : k ≤ 1000) (hr : 0 ≤ r ∧ r ≤ 4096) (c v : Int) (u : Bool) : ∃ er at_ t s', TakeBoth N k r s c v u er at_ t s' := by
  have hs := h.small hN hk hr
  have hl := hs.l
  by_cases hc : c < 1 ∨ 4 < c
  · refine ⟨1, 0, 0, s, ⟨h.more, fun _ => ⟨rfl, rfl, rfl⟩, fun h => (by cases h), fun g vs vf W hW => (take_arg g c v u W hc).mono fun e w' ⟨e1, f⟩ => ⟨e1, vf, hW.fresh f, fresh_both f⟩, fun g vl vf W hW => (rtake_arg g c v u W hc).mono fun e w' ⟨e1, f⟩ => ⟨e1, vf, hW.fresh f, fresh_both f⟩⟩⟩
  by_cases hf : s.full u
  · refine ⟨11, 0, 0, s, ⟨h.more, fun _ => ⟨rfl, rfl, rfl⟩, fun h => (by cases h), fun g vs vf W hW => (take_full g vs vf s c v u W hW hs (by omega) (by omega) hf).mono fun e w' ⟨e1, f⟩ => ⟨e1, vf, hW.fresh f, fresh_both f⟩, fun g vl vf W hW => (rtake_full g vl vf s.l s.fr s.res c v u W hW hl (by omega) (by omega) ((h.full u).2 hf)).mono fun e w' ⟨e1, f⟩ => ⟨e1, vf, hW.fresh f, fresh_both f⟩⟩⟩
  have hfd := fun hh => hf ((h.full u).1 hh)
  rcases List.eq_nil_or_concat s.fr with hfr | ⟨init, i, hfr⟩
  · have hlt : s.fresh < N := by
      have h0 : s.left ≠ 0 := fun h0 => hf (.inl h0)
      unfold St.left at h0
      rw [hfr, h.ts.len] at h0
      have := h.ts.fresh
      simp at h0
      omega
    obtain ⟨y, hy⟩ : ∃ y, s.l[s.fresh]? = some y := ⟨_, List.getElem?_eq_getElem (by rw [h.ts.len]; exact hlt)⟩
    have ht := h.ts.new _ _ hy (Nat.le_refl _)
    have hlen : s.fresh < s.l.length := by rw [h.ts.len]; exact hlt
    refine ⟨0, (s.fresh : Int), y.t + 1, ⟨s.l.set s.fresh ⟨c, y.t + 1, v⟩, s.fr, s.fresh + 1, s.res⟩, ⟨?_, fun h => absurd rfl h, fun _ => ⟨s.fresh, ⟨c, y.t + 1, v⟩, rfl, by simp only; rw [List.getElem?_set_self hlen], rfl⟩, fun g vs vf W hW => take_new g vs vf s y c v u W hW hs (by omega) (by omega) hf hfr hy, fun g vl vf W hW => ?_⟩⟩
    · rw [ht]
      exact h.take_new hlt hfr hy (by omega) (by omega)
    · rw [hfr] at hW
      have := rtake_new g vl vf s.l s.res s.fresh y c v u W hW hy ht (fun j z hj hz => by have := h.ts.liv j z hz hj; omega) hl (by omega) (by omega) hfd
      refine this.mono fun e w' ⟨e1, r2, k2⟩ => ⟨e1, vf, by rw [hfr]; exact r2, k2.more (fun _ _ h => h.elim .inl (fun h => .inr (.inl h))), fun _ h => .inl h⟩
  · rw [List.concat_eq_append] at hfr
    obtain ⟨j, rfl, j2⟩ := h.ts.mem i (by rw [hfr]; simp)
    have jN : j < N := Nat.lt_of_lt_of_le j2 h.ts.fresh
    obtain ⟨y, hy⟩ : ∃ y, s.l[j]? = some y := ⟨_, List.getElem?_eq_getElem (by rw [h.ts.len]; exact jN)⟩
    have hlen : j < s.l.length := by rw [h.ts.len]; exact jN
    have hyt := h.ts.t y (List.mem_of_getElem? hy)
    have hfl := h.ts.fr
    rw [hfr] at hfl
    refine ⟨0, (j : Int), y.t + 1, ⟨s.l.set j ⟨c, y.t + 1, v⟩, init, s.fresh, s.res⟩, ⟨h.take_freed hfr hy (by omega) (by omega), fun h => absurd rfl h, fun _ => ⟨j, ⟨c, y.t + 1, v⟩, rfl, by simp only; rw [List.getElem?_set_self hlen], rfl⟩, fun g vs vf W hW => take_freed g vs vf s init j y c v u W hW hs (by omega) (by omega) hf hfr hy, fun g vl vf W hW => ?_⟩⟩
    rw [hfr] at hW
    have := rtake_freed g vl vf s.l init s.res j y c v u W hW hy hl (by simp at hfl; omega) (by omega) (by omega) (by omega) hfd
    refine this.mono fun e w' ⟨e1, vf', r2, k2, l2⟩ => ⟨e1, vf', r2, k2.more (fun _ _ h => h.elim .inl (fun h => .inr (.inl h))), fun k hk => .inl ?_⟩
    rcases hk with rfl | hk | hk
    · exact .inl rfl
    · exact .inr (.inl hk)
    · exact .inr (.inr (l2 k hk))
end Go.Proofs.Ytdobhicjhgdhnaa
