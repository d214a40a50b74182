/-
  What SlabTurns keeps, call by call: a slab whose live slots, freed slots and slots that never held a thing are told apart.
-/
import Derived.Test.YtdobhicjhgdhnaaKeepsP
namespace Go.Proofs.Ytdobhicjhgdhnaa
open Go.RowKit

/-- the slab's own order: k calls so far -/
structure TS (N k : Nat) (r : Int) (s : St) : Prop where
  len : s.l.length = N
  fresh : s.fresh ≤ N
  fr : s.fr.length ≤ k
  res : s.res = r
  t : ∀ x ∈ s.l, 0 ≤ x.t ∧ x.t ≤ k
  cls : ∀ (i : Nat) (x : Sl), s.l[i]? = some x → (x.c = 0 ↔ ((i : Int) ∈ s.fr ∨ s.fresh ≤ i))
  new : ∀ (i : Nat) (x : Sl), s.l[i]? = some x → s.fresh ≤ i → x.t = 0
  liv : ∀ (i : Nat) (x : Sl), s.l[i]? = some x → i < s.fresh → 1 ≤ x.t
  mem : ∀ i ∈ s.fr, ∃ j : Nat, i = (j : Int) ∧ j < s.fresh
  nd : s.fr.Nodup
theorem TS.small {N k : Nat} {r : Int} {s : St} (h : TS N k r s) (hN : N ≤ 100) (hk : k ≤ 100) (hr : 0 ≤ r ∧ r ≤ 100) : s.Small :=
  ⟨by rw [h.len]; omega, by have := h.fr; omega, by have := h.fresh; omega, by rw [h.res]; omega, fun x hx => by have := h.t x hx; omega⟩
theorem TS.more {N k : Nat} {r : Int} {s : St} (h : TS N k r s) : TS N (k + 1) r s :=
  ⟨h.len, h.fresh, by have := h.fr; omega, h.res, fun x hx => by have := h.t x hx; omega, h.cls, h.new, h.liv, h.mem, h.nd⟩
theorem TS.start (N : Nat) (r : Int) : TS N 0 r (St.new N r) := by
  refine ⟨by simp [St.new], by simp [St.new], by simp [St.new], rfl, ?_, ?_, ?_, ?_, by simp [St.new], by simp [St.new]⟩
  · intro x hx
    rw [List.eq_of_mem_replicate hx]
    simp
  · intro i x hx
    have := List.mem_of_getElem? hx
    rw [List.eq_of_mem_replicate this]
    simp [St.new]
  · intro i x hx _
    rw [List.eq_of_mem_replicate (List.mem_of_getElem? hx)]
  · intro i x _ hi
    simp [St.new] at hi
theorem get_set {l : List Sl} {i j : Nat} {x y : Sl} (h : (l.set i x)[j]? = some y) : (j = i ∧ y = x) ∨ (j ≠ i ∧ l[j]? = some y) := by
  rw [List.getElem?_set] at h
  split at h
  · rename_i e
    subst e
    split at h
    · injection h with h; exact .inl ⟨rfl, h.symm⟩
    · cases h
  · rename_i e
    exact .inr ⟨fun h => e h.symm, h⟩
/-- Take of a slot that never held a thing -/
theorem TS.take_new {N k : Nat} {r : Int} {s : St} (h : TS N k r s) (hl : s.fresh < N) (hfr : s.fr = []) {c v : Int} (hc : c ≠ 0) : TS N (k + 1) r ⟨s.l.set s.fresh ⟨c, 1, v⟩, s.fr, s.fresh + 1, s.res⟩ := by
  refine ⟨by simpa using h.len, hl, Nat.le_succ_of_le h.fr, h.res, ?_, ?_, ?_, ?_, ?_, h.nd⟩
  · intro x hx
    rcases List.mem_or_eq_of_mem_set hx with hx | rfl
    · have := h.t x hx; omega
    · simp only; omega
  · intro i x hx
    rcases get_set hx with ⟨rfl, rfl⟩ | ⟨hne, hx⟩
    · simp [hfr, hc]
    · have := h.cls i x hx
      rw [this, hfr]
      simp
      omega
  · intro i x hx hi
    rcases get_set hx with ⟨rfl, rfl⟩ | ⟨hne, hx⟩
    · simp only at hi; omega
    · exact h.new i x hx (by simp only at hi; omega)
  · intro i x hx hi
    rcases get_set hx with ⟨rfl, rfl⟩ | ⟨hne, hx⟩
    · simp
    · exact h.liv i x hx (by simp only at hi; omega)
  · intro i hi
    rw [hfr] at hi
    cases hi
/-- Take of the slot that was freed last -/
theorem TS.take_freed {N k : Nat} {r : Int} {s : St} (h : TS N k r s) {init : List Int} {j : Nat} {x : Sl} (hfr : s.fr = init ++ [(j : Int)]) (hx : s.l[j]? = some x) {c v : Int} (hc : c ≠ 0) : TS N (k + 1) r ⟨s.l.set j ⟨c, x.t + 1, v⟩, init, s.fresh, s.res⟩ := by
  have hnd := h.nd
  rw [hfr, List.nodup_append] at hnd
  obtain ⟨n1, _, n3⟩ := hnd
  have hni : (j : Int) ∉ init := fun hh => n3 _ hh _ (by simp) rfl
  obtain ⟨j', hj', hjf⟩ := h.mem j (by rw [hfr]; simp)
  obtain rfl : j' = j := by omega
  have hxt := h.t x (List.mem_of_getElem? hx)
  refine ⟨by simpa using h.len, h.fresh, by have := h.fr; rw [hfr] at this; simp at this; simp only; omega, h.res, ?_, ?_, ?_, ?_, ?_, n1⟩
  · intro y hy
    rcases List.mem_or_eq_of_mem_set hy with hy | rfl
    · have := h.t y hy; omega
    · simp only; omega
  · intro i y hy
    rcases get_set hy with ⟨rfl, rfl⟩ | ⟨hne, hy⟩
    · simp only [hc, false_iff]
      rintro (hh | hh)
      · exact hni hh
      · omega
    · rw [h.cls i y hy, hfr]
      simp only [List.mem_append, List.mem_singleton]
      constructor
      · rintro ((hh | hh) | hh)
        · exact .inl hh
        · exact absurd (by omega) hne
        · exact .inr hh
      · rintro (hh | hh)
        · exact .inl (.inl hh)
        · exact .inr hh
  · intro i y hy hi
    rcases get_set hy with ⟨rfl, rfl⟩ | ⟨hne, hy⟩
    · simp only at hi; omega
    · exact h.new i y hy hi
  · intro i y hy hi
    rcases get_set hy with ⟨rfl, rfl⟩ | ⟨hne, hy⟩
    · simp only; omega
    · exact h.liv i y hy hi
  · intro i hi
    exact h.mem i (by rw [hfr]; simp [hi])
/-- Free of a slot that holds a thing -/
theorem TS.free {N k : Nat} {r : Int} {s : St} (h : TS N k r s) {j : Nat} {x : Sl} (hx : s.l[j]? = some x) (hc : x.c ≠ 0) : TS N (k + 1) r (s.free j x) := by
  have hcl := h.cls j x hx
  have hn : ¬ ((j : Int) ∈ s.fr ∨ s.fresh ≤ j) := fun hh => hc (hcl.2 hh)
  have hjf : j < s.fresh := by
    apply Classical.byContradiction
    intro hh
    exact hn (.inr (by omega))
  have hxt := h.t x (List.mem_of_getElem? hx)
  have hx1 := h.liv j x hx hjf
  refine ⟨by simpa [St.free] using h.len, h.fresh, by have := h.fr; simp [St.free]; omega, h.res, ?_, ?_, ?_, ?_, ?_, ?_⟩
  · intro y hy
    rcases List.mem_or_eq_of_mem_set hy with hy | rfl
    · have := h.t y hy; omega
    · simp only; omega
  · intro i y hy
    rcases get_set hy with ⟨rfl, rfl⟩ | ⟨hne, hy⟩
    · simp [St.free]
    · rw [h.cls i y hy]
      simp only [St.free, List.mem_append, List.mem_singleton]
      constructor
      · rintro (hh | hh)
        · exact .inl (.inl hh)
        · exact .inr hh
      · rintro ((hh | hh) | hh)
        · exact .inl hh
        · exact absurd (by omega) hne
        · exact .inr hh
  · intro i y hy hi
    rcases get_set hy with ⟨rfl, rfl⟩ | ⟨hne, hy⟩
    · simp only [St.free] at hi; omega
    · exact h.new i y hy hi
  · intro i y hy hi
    rcases get_set hy with ⟨rfl, rfl⟩ | ⟨hne, hy⟩
    · exact hx1
    · exact h.liv i y hy hi
  · intro i hi
    rcases List.mem_append.1 hi with hi | hi
    · exact h.mem i hi
    · rw [List.mem_singleton.1 hi]; exact ⟨j, rfl, hjf⟩
  · simp only [St.free]
    rw [List.nodup_append]
    refine ⟨h.nd, by simp, ?_⟩
    intro a ha b hb
    rw [List.mem_singleton.1 hb]
    rintro rfl
    exact hn (.inl ha)

/-- the handles of what lives -/
structure LS (s : St) (live : List (Int × Int)) : Prop where
  tell : ∀ p ∈ live, ∃ i x, s.tells p.1 p.2 i x
  nd : (live.map (·.1)).Nodup
  cnt : s.l.countP isLive = live.length
theorem LS.take {s : St} {live : List (Int × Int)} (h : LS s live) {j : Nat} {x : Sl} (hx : s.l[j]? = some x) (h0 : x.c = 0) {c v : Int} (hc : c ≠ 0) {fr : List Int} {fresh : Nat} {res : Int} : LS ⟨s.l.set j ⟨c, x.t + 1, v⟩, fr, fresh, res⟩ (live ++ [((j : Int), x.t + 1)]) := by
  have hj := (List.getElem?_eq_some_iff.1 hx).1
  have hne : ∀ p ∈ live, p.1 ≠ (j : Int) := by
    intro p hp e
    obtain ⟨i, y, e1, e2, e3, _⟩ := h.tell p hp
    obtain rfl : i = j := by omega
    rw [hx] at e2
    injection e2 with e2
    subst e2
    exact e3 h0
  refine ⟨?_, ?_, ?_⟩
  · intro p hp
    rcases List.mem_append.1 hp with hp | hp
    · obtain ⟨i, y, e1, e2, e3⟩ := h.tell p hp
      have : i ≠ j := fun e => hne p hp (by rw [e1, e])
      exact ⟨i, y, e1, by rw [List.getElem?_set_ne (by omega)]; exact e2, e3⟩
    · rw [List.mem_singleton.1 hp]
      exact ⟨j, ⟨c, x.t + 1, v⟩, rfl, by rw [List.getElem?_set_self hj], hc, rfl⟩
  · rw [List.map_append, List.nodup_append]
    refine ⟨h.nd, by simp, ?_⟩
    intro a ha b hb
    obtain ⟨p, hp, rfl⟩ := List.mem_map.1 ha
    simp at hb
    subst hb
    exact hne p hp
  · have hg : s.l[j] = x := by rw [List.getElem?_eq_getElem hj] at hx; injection hx
    rw [List.countP_set hj, h.cnt, hg]
    simp [isLive, h0, hc]
theorem LS.free {s : St} {live : List (Int × Int)} (h : LS s live) {m : Nat} {p : Int × Int} (hp : live[m]? = some p) {j : Nat} {x : Sl} (ht : s.tells p.1 p.2 j x) : LS (s.free j x) (live.take m ++ live.drop (m + 1)) := by
  obtain ⟨e1, hx, hc, _⟩ := ht
  have hj := (List.getElem?_eq_some_iff.1 hx).1
  have hm := (List.getElem?_eq_some_iff.1 hp).1
  have hsplit : live = live.take m ++ p :: live.drop (m + 1) := by
    have := (List.take_append_drop m live).symm
    rw [List.drop_eq_getElem_cons hm] at this
    rw [List.getElem?_eq_getElem hm] at hp
    injection hp with hp
    rw [hp] at this
    exact this
  have hnd := h.nd
  rw [hsplit, List.map_append, List.map_cons, List.nodup_append, List.nodup_cons] at hnd
  obtain ⟨n1, ⟨n2, n3⟩, n4⟩ := hnd
  refine ⟨?_, ?_, ?_⟩
  · intro q hq
    have hq1 : q ∈ live := by
      rw [hsplit]
      rcases List.mem_append.1 hq with hq | hq
      · simp [hq]
      · simp [hq]
    have hne : q.1 ≠ p.1 := by
      rcases List.mem_append.1 hq with hq | hq
      · exact n4 _ (List.mem_map_of_mem hq) _ (by simp)
      · intro e
        exact n2 (by rw [← e]; exact List.mem_map_of_mem hq)
    obtain ⟨i, y, f1, f2, f3⟩ := h.tell q hq1
    have : i ≠ j := fun e => hne (by rw [f1, e1, e])
    exact ⟨i, y, f1, by simp only [St.free]; rw [List.getElem?_set_ne (by omega)]; exact f2, f3⟩
  · rw [List.map_append, List.nodup_append]
    exact ⟨n1, n3, fun a ha b hb => n4 a ha b (List.mem_cons_of_mem _ hb)⟩
  · have hg : s.l[j] = x := by rw [List.getElem?_eq_getElem hj] at hx; injection hx
    simp only [St.free]
    rw [List.countP_set hj, h.cnt, hg]
    have hlen : live.length = (live.take m ++ live.drop (m + 1)).length + 1 := by
      rw [List.length_append, List.length_take, List.length_drop]; omega
    simp [isLive, hc]
    simp at hlen
    omega

/-- what a Take leaves that gave a slot -/
def TookT (N k : Nat) (r : Int) (g : Nat) (vs vf : Value) (s : St) (live : List (Int × Int)) (j : Nat) (y : Sl) (w w' : World) : Prop :=
  s.l[j]? = some y ∧ ∃ s' vf', TS N (k + 1) r s' ∧ LS s' (live ++ [((j : Int), y.t + 1)]) ∧ s'.l.map (·.t) = (s.l.map (·.t)).set j (y.t + 1) ∧ ((y.t = 0 ∧ s.fr.length = 0 ∧ s'.fr.length = 0) ∨ (1 ≤ y.t ∧ s'.fr.length + 1 = s.fr.length)) ∧
    SSlab w' g vs vf' s' ∧ Keep (foot g vs vf) w w' ∧ Later w g vs vf vs vf'
theorem take_t {N k g : Nat} {r : Int} {vs vf : Value} {s : St} {live : List (Int × Int)} {w : World} (h : TS N k r s) (hL : LS s live) (hN : N ≤ 100) (hk : k ≤ 100) (hr : 0 ≤ r ∧ r ≤ 100) (hs : SSlab w g vs vf s) (cl x : Int) (u : Bool) :
    Calls Try.prog 12 #[.pointer (some ⟨g, 0, none⟩), .int .i64 cl, .bool u, .int .i64 x] w fun e w' =>
      (∃ er, er ≠ 0 ∧ e = .returned (.tuple #[.agg #[.int .i64 0, .int .i64 0], .int .i64 er]) ∧ Fresh w w') ∨
      (∃ j y, e = .returned (.tuple #[.agg #[.int .i64 (j : Nat), .int .i64 (y.t + 1)], .int .i64 0]) ∧ TookT N k r g vs vf s live j y w w') := by
  by_cases hc : cl < 1 ∨ 4 < cl
  · exact (take_arg g cl x u w hc).mono fun e w' ⟨h1, h2⟩ => .inl ⟨1, by decide, h1, h2⟩
  by_cases hf : s.full u
  · exact (take_full g vs vf s cl x u w hs (h.small hN hk hr) (by omega) (by omega) hf).mono fun e w' ⟨h1, h2⟩ => .inl ⟨11, by decide, h1, h2⟩
  rcases List.eq_nil_or_concat s.fr with hfr | ⟨init, i, hfr⟩
  · have hl : s.fresh < N := by
      have h0 : s.left ≠ 0 := fun h0 => hf (.inl h0)
      unfold St.left at h0
      rw [hfr, h.len] at h0
      have := h.fresh
      simp at h0
      omega
    obtain ⟨y, hy⟩ : ∃ y, s.l[s.fresh]? = some y := ⟨_, List.getElem?_eq_getElem (by rw [h.len]; exact hl)⟩
    have h0 := (h.cls _ _ hy).2 (.inr (Nat.le_refl _))
    have ht := h.new _ _ hy (Nat.le_refl _)
    refine (take_new g vs vf s y cl x u w hs (h.small hN hk hr) (by omega) (by omega) hf hfr hy).mono fun e w' ⟨e1, vf', s2, k2, l2⟩ => .inr ⟨_, y, e1, hy, _, vf', ?_, hL.take hy h0 (by omega), ?_, .inl ⟨ht, by rw [hfr]; rfl, by simp [hfr]⟩, s2, k2, l2⟩
    · have := h.take_new hl hfr (c := cl) (v := x) (by omega)
      rw [ht]
      exact this
    · simp [List.map_set]
  · rw [List.concat_eq_append] at hfr
    obtain ⟨j, rfl, j2⟩ := h.mem i (by rw [hfr]; simp)
    have jN : j < N := Nat.lt_of_lt_of_le j2 h.fresh
    obtain ⟨y, hy⟩ : ∃ y, s.l[j]? = some y := ⟨_, List.getElem?_eq_getElem (by rw [h.len]; exact jN)⟩
    have h0 := (h.cls _ _ hy).2 (.inl (by rw [hfr]; simp))
    have ht := h.liv _ _ hy j2
    refine (take_freed g vs vf s init j y cl x u w hs (h.small hN hk hr) (by omega) (by omega) hf hfr hy).mono fun e w' ⟨e1, vf', s2, k2, l2⟩ => .inr ⟨_, y, e1, hy, _, vf', h.take_freed hfr hy (by omega), hL.take hy h0 (by omega), ?_, .inr ⟨ht, by rw [hfr]; simp⟩, s2, k2, l2⟩
    simp [List.map_set]
/-- what a Free leaves -/
def FreedT (N k : Nat) (r : Int) (g : Nat) (vs vf : Value) (s : St) (live : List (Int × Int)) (m : Nat) (w w' : World) : Prop :=
  ∃ s' vf', TS N (k + 1) r s' ∧ LS s' (live.take m ++ live.drop (m + 1)) ∧ s'.l.map (·.t) = s.l.map (·.t) ∧ s'.fr.length = s.fr.length + 1 ∧ SSlab w' g vs vf' s' ∧ Keep (foot g vs vf) w w' ∧ Later w g vs vf vs vf'
theorem free_t {N k g m : Nat} {r : Int} {vs vf : Value} {s : St} {live : List (Int × Int)} {p : Int × Int} {w : World} (h : TS N k r s) (hL : LS s live) (hN : N ≤ 100) (hk : k ≤ 100) (hs : SSlab w g vs vf s) (hp : live[m]? = some p) :
    Calls Try.prog 13 #[.pointer (some ⟨g, 0, none⟩), .agg #[.int .i64 p.1, .int .i64 p.2]] w fun e w' =>
      (∃ x, e = .returned (.tuple #[.int .i64 x, .int .i64 0])) ∧ FreedT N k r g vs vf s live m w w' := by
  have hl := h.fr
  obtain ⟨i0, x0, ht0⟩ := hL.tell p (List.mem_of_getElem? hp)
  refine (free_any g vs vf s p.1 p.2 w hs (by rw [h.len]; omega) (by omega)).mono ?_
  rintro e w' (⟨i, x, vf', ht, rfl, s2, k2, l2⟩ | ⟨hn, rfl, f⟩)
  · refine ⟨⟨_, rfl⟩, _, vf', h.free ht.2.1 ht.2.2.1, hL.free hp ht, ?_, by simp [St.free], s2, k2, l2⟩
    simp only [St.free, List.map_set]
    have hx := ht.2.1
    have hi := (List.getElem?_eq_some_iff.1 hx).1
    apply List.ext_getElem?
    intro q
    rw [List.getElem?_set]
    split
    · rename_i e
      subst e
      rw [if_pos (by simpa using hi), List.getElem?_map, hx]
      rfl
    · rfl
  · exact absurd ht0 (hn i0 x0)
end Go.Proofs.Ytdobhicjhgdhnaa
