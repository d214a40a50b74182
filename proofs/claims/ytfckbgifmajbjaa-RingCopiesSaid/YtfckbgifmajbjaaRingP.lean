/-
  A ring as the list of its things, in order.
-/
import Derived.Test.YtfckbgifmajbjaaPushOk
namespace Go.Proofs.Ytfckbgifmajbjaa
open Go.RowKit

theorem mod_ne {a n i j : Nat} (hi : i < n) (hj : j < n) (h : i ≠ j) : (a + i) % n ≠ (a + j) % n := by
  intro e
  have h1 : (a + i) % n = (a % n + i) % n := by rw [Nat.mod_add_mod]
  have h2 : (a + j) % n = (a % n + j) % n := by rw [Nat.mod_add_mod]
  rw [h1, h2] at e
  have ha : a % n < n := Nat.mod_lt _ (by omega)
  generalize a % n = r at *
  by_cases c1 : r + i < n <;> by_cases c2 : r + j < n
  · rw [Nat.mod_eq_of_lt c1, Nat.mod_eq_of_lt c2] at e; omega
  · rw [Nat.mod_eq_of_lt c1, Nat.mod_eq_sub_mod (by omega), Nat.mod_eq_of_lt (by omega)] at e; omega
  · rw [Nat.mod_eq_of_lt c2, Nat.mod_eq_sub_mod (by omega), Nat.mod_eq_of_lt (by omega)] at e; omega
  · rw [Nat.mod_eq_sub_mod (by omega), Nat.mod_eq_of_lt (show r + i - n < n by omega), Nat.mod_eq_sub_mod (show r + j ≥ n by omega), Nat.mod_eq_of_lt (show r + j - n < n by omega)] at e; omega
/-- the ring's rows hold the list -/
structure RL (c : List (Int × Int)) (first room : Nat) (L : List (Int × Int)) : Prop where
  len : c.length = room
  pos : 1 ≤ room ∧ room ≤ 4096
  fst : first < room
  many : L.length ≤ room
  at_ : ∀ i, i < L.length → nth c first i = L[i]?
theorem RL.start (n : Nat) (h1 : 1 ≤ n) (h2 : n ≤ 4096) : RL (List.replicate n (0, 0)) 0 n [] := ⟨by simp, ⟨h1, h2⟩, by omega, by simp, by simp⟩
theorem RL.push {c : List (Int × Int)} {first room : Nat} {L : List (Int × Int)} (h : RL c first room L) (hm : L.length < room) (x : Int × Int) : RL (c.set ((first + L.length) % c.length) x) first room (L ++ [x]) := by
  refine ⟨by rw [List.length_set]; exact h.len, h.pos, h.fst, by simp; omega, fun i hi => ?_⟩
  have hl := h.len
  have hlt : (first + L.length) % c.length < c.length := Nat.mod_lt _ (by omega)
  simp only [nth, List.length_set]
  by_cases e : i = L.length
  · subst e
    rw [List.getElem?_set_self hlt]
    simp
  · have hi' : i < L.length := by simp at hi; omega
    rw [List.getElem?_set_ne (mod_ne (by omega) (by omega) (by omega)), List.getElem?_append_left hi']
    exact h.at_ i hi'
theorem RL.pop {c : List (Int × Int)} {first room : Nat} {L : List (Int × Int)} {x : Int × Int} (h : RL c first room (L ++ [x])) : nth c first L.length = some x ∧ RL (c.set ((first + L.length) % c.length) (0, 0)) first room L := by
  have hl := h.len
  have hm := h.many
  simp at hm
  refine ⟨?_, by rw [List.length_set]; exact h.len, h.pos, h.fst, by omega, fun i hi => ?_⟩
  · have := h.at_ L.length (by simp)
    rw [this]
    simp
  · simp only [nth, List.length_set]
    rw [List.getElem?_set_ne (mod_ne (by omega) (by omega) (by omega))]
    have := h.at_ i (by simp; omega)
    unfold nth at this
    rw [this, List.getElem?_append_left hi]
theorem RL.shift {c : List (Int × Int)} {first room : Nat} {L : List (Int × Int)} {x : Int × Int} (h : RL c first room (x :: L)) : nth c first 0 = some x ∧ RL (c.set ((first + 0) % c.length) (0, 0)) ((first + 1) % c.length) room L := by
  have hl := h.len
  have hm := h.many
  simp at hm
  have hp := h.pos
  refine ⟨?_, by rw [List.length_set]; exact h.len, h.pos, by rw [hl]; exact Nat.mod_lt _ (by omega), by omega, fun i hi => ?_⟩
  · have := h.at_ 0 (by simp)
    rw [this]
    rfl
  · simp only [nth, List.length_set]
    have e : ((first + 1) % c.length + i) % c.length = (first + (i + 1)) % c.length := by rw [Nat.mod_add_mod]; congr 1; omega
    rw [e, List.getElem?_set_ne (mod_ne (by omega) (by omega) (by omega))]
    have := h.at_ (i + 1) (by simp; omega)
    unfold nth at this
    rw [this]
    rfl
/-- times do not fall -/
def Asc (L : List (Int × Int)) : Prop := L.Pairwise fun a b => a.1 ≤ b.1
theorem Asc.le {L : List (Int × Int)} (h : Asc L) {i j : Nat} {a b : Int × Int} (hi : L[i]? = some a) (hj : L[j]? = some b) (hij : i ≤ j) : a.1 ≤ b.1 := by
  by_cases e : i = j
  · subst e
    rw [hi] at hj
    injection hj with hj
    rw [hj]
    exact Int.le_refl _
  · obtain ⟨h1, rfl⟩ := List.getElem?_eq_some_iff.1 hi
    obtain ⟨h2, rfl⟩ := List.getElem?_eq_some_iff.1 hj
    exact List.pairwise_iff_getElem.1 h i j h1 h2 (by omega)
theorem Asc.push {L : List (Int × Int)} (h : Asc L) {x : Int × Int} (hx : ∀ y, L.getLast? = some y → y.1 ≤ x.1) : Asc (L ++ [x]) := by
  unfold Asc
  rw [List.pairwise_append]
  refine ⟨h, by simp, ?_⟩
  intro a ha b hb
  rw [List.mem_singleton.1 hb]
  obtain ⟨i, hi, rfl⟩ := List.mem_iff_getElem.1 ha
  have hne : L ≠ [] := by rintro rfl; simp at hi
  have hl := List.getLast?_eq_getElem? (l := L)
  obtain ⟨y, hy⟩ : ∃ y, L.getLast? = some y := by
    rw [hl]
    exact ⟨_, List.getElem?_eq_getElem (by omega)⟩
  have := h.le (List.getElem?_eq_getElem hi) (hl.symm.trans hy) (by omega)
  have := hx y hy
  omega
/-- how many are earlier than a time; how many no later -/
def lows (L : List (Int × Int)) (t : Int) : Nat := L.countP fun s => decide (s.1 < t)
def ups (L : List (Int × Int)) (t : Int) : Nat := L.countP fun s => decide (s.1 ≤ t)
/-- of an ascending list those of which a beginning's property holds are a beginning -/
theorem countP_asc {L : List (Int × Int)} {p : Int → Bool} (hp : ∀ a b, a ≤ b → p b = true → p a = true) (h : Asc L) : L.filter (fun s => p s.1) = L.take (L.countP fun s => p s.1) ∧ L.filter (fun s => !p s.1) = L.drop (L.countP fun s => p s.1) := by
  induction L with
  | nil => exact ⟨rfl, rfl⟩
  | cons a L ih =>
    unfold Asc at h
    rw [List.pairwise_cons] at h
    obtain ⟨h1, h2⟩ := ih h.2
    by_cases ha : p a.1 = true
    · refine ⟨?_, ?_⟩
      · simp only [List.countP_cons, List.filter_cons, ha, if_true, List.take_succ_cons, h1]
      · simp only [List.countP_cons, List.filter_cons, ha, Bool.not_true, Bool.false_eq_true, if_false, if_true, List.drop_succ_cons, h2]
    · have ha' : p a.1 = false := by simpa using ha
      have hnone : ∀ s ∈ L, p s.1 = false := fun s hs => by
        cases hps : p s.1
        · rfl
        · have := hp _ _ (h.1 s hs) hps
          rw [ha'] at this
          cases this
      have h0 : L.countP (fun s => p s.1) = 0 := by rw [List.countP_eq_zero]; intro s hs; rw [hnone s hs]; simp
      have f1 : L.filter (fun s => p s.1) = [] := by
        rw [List.filter_eq_nil_iff]
        intro s hs
        rw [hnone s hs]
        simp
      have f2 : L.filter (fun s => !p s.1) = L := by
        rw [List.filter_eq_self]
        intro s hs
        rw [hnone s hs]
        rfl
      refine ⟨?_, ?_⟩
      · simp only [List.countP_cons, List.filter_cons, ha', h0, f1, Bool.false_eq_true, if_false]
        rfl
      · simp only [List.countP_cons, List.filter_cons, ha', h0, f2, Bool.false_eq_true, if_false, Bool.not_false, if_true]
        rfl
/-- the count over numbers -/
theorem countP_range (L : List (Int × Int)) (q : Int × Int → Bool) (p : Nat → Bool) (h : ∀ i s, L[i]? = some s → p i = q s) : (List.range L.length).countP (fun i => !p i) = L.countP fun s => !q s := by
  induction L generalizing p with
  | nil => rfl
  | cons a L ih =>
    rw [List.length_cons, List.range_succ_eq_map, List.countP_cons, List.countP_cons, List.countP_map]
    have := ih (fun i => p (i + 1)) (fun i s hs => h (i + 1) s (by simpa using hs))
    have e0 := h 0 a rfl
    simp only [Function.comp_def]
    rw [e0]
    exact congrArg (· + _) this

/-- A ring that holds a list. -/
structure Ring (w : World) (g gs off cap room : Nat) (c : List (Int × Int)) (first : Nat) (L : List (Int × Int)) : Prop where
  s : SRing w g (.slice (some ⟨gs, off, none⟩) room cap) c first L.length
  r : RL c first room L
  asc : Asc L
theorem Ring.fresh {w w' : World} {g gs off cap room : Nat} {c : List (Int × Int)} {first : Nat} {L : List (Int × Int)} (h : Ring w g gs off cap room c first L) (f : Fresh w w') : Ring w' g gs off cap room c first L := ⟨h.s.fresh f, h.r, h.asc⟩
theorem SRing.kept {w w' : World} {g : Nat} {v : Value} {c : List (Int × Int)} {first many : Nat} {S : Nat → Prop} (h : SRing w g v c first many) (k : Keep S w w') (h1 : ¬ S g) (h2 : ∀ i, v.ownBlock = some i → ¬ S i) : SRing w' g v c first many := ⟨h.blk.keep k h1, h.own.kept k h2⟩
theorem Ring.kept {w w' : World} {g gs off cap room : Nat} {c : List (Int × Int)} {first : Nat} {L : List (Int × Int)} {S : Nat → Prop} (h : Ring w g gs off cap room c first L) (k : Keep S w w') (h1 : ¬ S g) (h2 : ¬ S gs) : Ring w' g gs off cap room c first L :=
  ⟨h.s.kept k h1 (fun i hi e => by simp [Value.ownBlock] at hi; subst hi; exact h2 e), h.r, h.asc⟩
theorem Ring.ne {w : World} {g gs off cap room : Nat} {c : List (Int × Int)} {first : Nat} {L : List (Int × Int)} (h : Ring w g gs off cap room c first L) : gs ≠ g := by
  have := h.s.own.ne_blk h.s.blk (by decide)
  simpa [Value.ownBlock] using this
theorem Ring.lt {w : World} {g gs off cap room : Nat} {c : List (Int × Int)} {first : Nat} {L : List (Int × Int)} (h : Ring w g gs off cap room c first L) : g < w.heap.size ∧ gs < w.heap.size := ⟨h.s.blk.lt, h.s.own.lt (k := gs) rfl⟩
end Go.Proofs.Ytfckbgifmajbjaa
