/-
  A worker in plain words: its round, the messages that wait with their times, its low.
-/
import Derived.Test.YtegffmnenicldaaRows
import Derived.Test.YtegffmnenicldaaOwnMore
import Derived.Maps.OwnSet
import Derived.Maps.RangeWalk
namespace Go.Proofs.Ytegffmnenicldaa
open Go.RowKit Go.Maps

structure GW where
  no : Int
  l : List (Int × Int)
  low : Int
def timeB (x : Int) : Bool := decide (0 ≤ x) && decide (x ≤ 1073741825)
def keyB (l : List (Int × Int)) (x : Int) : Bool := l.any fun p => p.1 == x
def minOf (l : List Int) : Int := l.foldl min 1073741825
def valOf (l : List (Int × Int)) (x : Int) : Int := ((l.find? fun p => p.1 == x).map (·.2)).getD 0
def dropKey (l : List (Int × Int)) (x : Int) : List (Int × Int) := l.filter fun p => !(p.1 == x)
def GW.sent (s : GW) (no at_ : Int) : Int × GW := if no < 0 then (1, s) else if timeB at_ = false then (10, s) else if keyB s.l no = true then (13, s) else (0, ⟨s.no, s.l ++ [(no, at_)], s.low⟩)
def GW.acked (s : GW) (no mark : Int) : Int × GW := if keyB s.l no = false then (14, s) else if mark < 0 ∨ s.no + 1 < mark then (10, s) else (0, ⟨s.no, dropKey s.l no, if s.no < mark then min s.low (valOf s.l no) else s.low⟩)
def GW.start (s : GW) (round : Int) (l : List Int) : Int × Int × GW := if round ≠ s.no + 1 then (0, 19, s) else if l.all timeB = false then (0, 10, s) else (l.foldl min (min (minOf (s.l.map (·.2))) s.low), 0, ⟨round, s.l, 1073741825⟩)

/-- a worker behind k calls -/
structure GW.Ok (s : GW) (k : Nat) : Prop where
  no : 0 ≤ s.no ∧ s.no ≤ k
  low : 0 ≤ s.low ∧ s.low ≤ 1073741825
  nd : (s.l.map (·.1)).Nodup
  len : s.l.length ≤ k
  at_ : ∀ p ∈ s.l, 0 ≤ p.1 ∧ (Lit.int .i64 p.1).wf = true ∧ 0 ≤ p.2 ∧ p.2 ≤ 1073741825
theorem timeB_iff {x : Int} : timeB x = true ↔ 0 ≤ x ∧ x ≤ 1073741825 := by simp [timeB]
theorem keyB_iff {l : List (Int × Int)} {x : Int} : keyB l x = true ↔ x ∈ l.map (·.1) := by
  simp [keyB, List.any_eq_true, List.mem_map]
theorem keyB_false {l : List (Int × Int)} {x : Int} : keyB l x = false ↔ x ∉ l.map (·.1) := by
  rw [← keyB_iff]; simp
theorem valOf_mem {l : List (Int × Int)} (hn : (l.map (·.1)).Nodup) {p : Int × Int} (hp : p ∈ l) : valOf l p.1 = p.2 := by
  induction l with
  | nil => cases hp
  | cons q l ih =>
    simp only [List.map_cons, List.nodup_cons] at hn
    unfold valOf
    rcases List.mem_cons.1 hp with rfl | hp
    · simp
    · have : (q.1 == p.1) = false := by
        rw [beq_eq_false_iff_ne]
        intro e
        exact hn.1 (by rw [e]; exact List.mem_map_of_mem hp)
      rw [List.find?_cons, this]
      exact ih hn.2 hp
theorem keyB_mem {l : List (Int × Int)} {x : Int} (h : keyB l x = true) (hn : (l.map (·.1)).Nodup) : (x, valOf l x) ∈ l := by
  rw [keyB_iff, List.mem_map] at h
  obtain ⟨p, hp, rfl⟩ := h
  rw [valOf_mem hn hp]
  exact hp
theorem foldl_min_le : ∀ (l : List Int) (a : Int), l.foldl min a ≤ a ∧ (∀ x ∈ l, l.foldl min a ≤ x) ∧ (l.foldl min a = a ∨ l.foldl min a ∈ l)
  | [], a => ⟨Int.le_refl _, by simp, .inl rfl⟩
  | x :: l, a => by
    obtain ⟨h1, h2, h3⟩ := foldl_min_le l (min a x)
    refine ⟨by simp only [List.foldl_cons]; omega, ?_, ?_⟩
    · intro y hy
      rcases List.mem_cons.1 hy with rfl | hy
      · simp only [List.foldl_cons]; omega
      · exact h2 y hy
    · simp only [List.foldl_cons]
      rcases h3 with h3 | h3
      · rw [h3]
        by_cases h : a ≤ x
        · exact .inl (by omega)
        · exact .inr (by rw [show min a x = x by omega]; simp)
      · exact .inr (List.mem_cons_of_mem _ h3)
theorem min_unique {l : List Int} {a m : Int} (h1 : m ≤ a) (h2 : ∀ x ∈ l, m ≤ x) (h3 : m = a ∨ m ∈ l) : m = l.foldl min a := by
  obtain ⟨k1, k2, k3⟩ := foldl_min_le l a
  have : l.foldl min a ≤ m := by
    rcases h3 with rfl | h3
    · exact k1
    · exact k2 _ h3
  have : m ≤ l.foldl min a := by
    rcases k3 with k3 | k3
    · omega
    · exact h2 _ k3
  omega
theorem foldl_min_low {l : List Int} {a : Int} (h : ∀ x ∈ l, 0 ≤ x) (ha : 0 ≤ a) : 0 ≤ l.foldl min a := by
  rcases (foldl_min_le l a).2.2 with e | e
  · omega
  · exact h _ e
theorem GW.Ok.more {s : GW} {k : Nat} (h : s.Ok k) : s.Ok (k + 1) := ⟨by have := h.no; omega, h.low, h.nd, by have := h.len; omega, h.at_⟩
theorem GW.Ok.start0 : (⟨0, [], 1073741825⟩ : GW).Ok 0 := ⟨by simp, by simp, by simp, by simp, by simp⟩
theorem GW.Ok.sent {s : GW} {k : Nat} (h : s.Ok k) {no at_ : Int} (hw : (Lit.int .i64 no).wf = true) : (s.sent no at_).2.Ok (k + 1) := by
  unfold GW.sent
  by_cases h1 : no < 0
  · rw [if_pos h1]; exact h.more
  rw [if_neg h1]
  by_cases h2 : timeB at_ = false
  · rw [if_pos h2]; exact h.more
  rw [if_neg h2]
  by_cases h3 : keyB s.l no = true
  · rw [if_pos h3]; exact h.more
  rw [if_neg h3]
  have h4 : no ∉ s.l.map (·.1) := fun hm => h3 (keyB_iff.2 hm)
  have h5 := timeB_iff.1 (by simpa using h2)
  refine ⟨by have := h.no; simp only; omega, h.low, ?_, by have := h.len; simp; omega, ?_⟩
  · rw [List.map_append, List.nodup_append]
    refine ⟨h.nd, by simp, ?_⟩
    intro a ha b hb
    simp at hb
    subst hb
    rintro rfl
    exact h4 ha
  · intro p hp
    rcases List.mem_append.1 hp with hp | hp
    · exact h.at_ p hp
    · rw [List.mem_singleton.1 hp]; exact ⟨by simp only; omega, hw, h5⟩
theorem GW.Ok.val {s : GW} {k : Nat} (h : s.Ok k) {no : Int} (hk : keyB s.l no = true) : 0 ≤ valOf s.l no ∧ valOf s.l no ≤ 1073741825 := (h.at_ _ (keyB_mem hk h.nd)).2.2
theorem GW.Ok.acked {s : GW} {k : Nat} (h : s.Ok k) {no mark : Int} : (s.acked no mark).2.Ok (k + 1) := by
  unfold GW.acked
  by_cases h1 : keyB s.l no = false
  · rw [if_pos h1]; exact h.more
  rw [if_neg h1]
  by_cases h2 : mark < 0 ∨ s.no + 1 < mark
  · rw [if_pos h2]; exact h.more
  rw [if_neg h2]
  have hv := h.val (no := no) (by simpa using h1)
  refine ⟨by have := h.no; simp only; omega, ?_, ?_, ?_, ?_⟩
  · have := h.low
    simp only
    split <;> omega
  · exact h.nd.sublist ((List.filter_sublist).map _)
  · have := h.len
    have := List.length_filter_le (fun p : Int × Int => !(p.1 == no)) s.l
    simp only [dropKey]
    omega
  · intro p hp
    exact h.at_ p (List.mem_filter.1 hp).1
theorem GW.Ok.start {s : GW} {k : Nat} (h : s.Ok k) {round : Int} {l : List Int} : (s.start round l).2.2.Ok (k + 1) := by
  unfold GW.start
  by_cases h1 : round ≠ s.no + 1
  · rw [if_pos h1]; exact h.more
  rw [if_neg h1]
  by_cases h2 : l.all timeB = false
  · rw [if_pos h2]; exact h.more
  rw [if_neg h2]
  have : round = s.no + 1 := by omega
  exact ⟨by have := h.no; simp only; omega, by simp, h.nd, by have := h.len; simp only; omega, h.at_⟩

/-! ### the map -/
/-- the map reads as the list -/
structure Rd (D : DataW Unit) (l : List (Int × Int)) : Prop where
  has : ∀ x, Maps.has D (.int .i64 x) = keyB l x
  val : ∀ p ∈ l, ∀ z, D.atKey (.int .i64 p.1) z = .lit (.int .i64 p.2)
  size : Maps.size D = l.length
def MapIs (w : World) (b K : Nat) (l : List (Int × Int)) : Prop := ∃ n D, n ≤ K ∧ w.ownsMap (H := Unit) Try.prog 3 (plainElem Try.prog 3) b n D ∧ Rd D l
theorem MapIs.at_ {w w' : World} {b K : Nat} {l : List (Int × Int)} (h : MapIs w b K l) (hb : w'.heap[b]? = w.heap[b]?) : MapIs w' b K l := by
  obtain ⟨n, D, hn, ⟨es, clock, he, r⟩, hr⟩ := h
  exact ⟨n, D, hn, ⟨es, clock, hb.trans he, r⟩, hr⟩
theorem MapIs.more {w : World} {b K : Nat} {l : List (Int × Int)} (h : MapIs w b K l) : MapIs w b (K + 1) l := by
  obtain ⟨n, D, hn, r⟩ := h
  exact ⟨n, D, by omega, r⟩
theorem MapIs.lt {w : World} {b K : Nat} {l : List (Int × Int)} (h : MapIs w b K l) : b < w.heap.size := by
  obtain ⟨n, D, hn, ⟨es, clock, he, r⟩, hr⟩ := h
  exact (Array.getElem?_eq_some_iff.1 he).1
theorem MapIs.keep {w w' : World} {b K : Nat} {l : List (Int × Int)} {S : Nat → Prop} (h : MapIs w b K l) (k : Keep S w w') (hn : ¬ S b) : MapIs w' b K l := h.at_ (k.block b h.lt hn)
theorem MapIs.fresh {w w' : World} {b K : Nat} {l : List (Int × Int)} (h : MapIs w b K l) (k : Fresh w w') : MapIs w' b K l := h.keep k (fun h => h)
/-- a block of cells is no map -/
theorem MapIs.ne_blk {w : World} {b K g : Nat} {l : List (Int × Int)} (h : MapIs w b K l) {t : TypeId} {cs : Array Value} (hb : Blk w g t cs) : g ≠ b := by
  rintro rfl
  obtain ⟨n, D, hn, ⟨es, clock, he, r⟩, hr⟩ := h
  unfold Blk at hb
  rw [hb] at he
  cases he
theorem MapIs.ne_own {w : World} {b K : Nat} {l : List (Int × Int)} (h : MapIs w b K l) {e : TypeId} {size m : Nat} {v : Value} {xs : List Value} (ho : OwnS w e size v m xs) : v.ownBlock ≠ some b := by
  obtain ⟨n, D, hn, ⟨es, clock, he, r⟩, hr⟩ := h
  rcases ho.2 with ⟨rfl, _⟩ | ⟨g, off, cap, cur, rfl, hg, _⟩
  · simp [Value.ownBlock]
  · intro e
    simp [Value.ownBlock] at e
    subst e
    rw [hg] at he
    cases he
theorem keep_turned {w w' : World} {b : Nat} (h : w.mapTurned w' b) : Keep (fun k => k = b) w w' := Keep.of_grown h.grown (fun k hk _ => by injection hk with hk; exact hk.symm)
theorem keyI_ne {x y : Int} (h : x ≠ y) : (Lit.int .i64 x) ≠ .int .i64 y := fun e => h (by injection e)
theorem Rd.nil : Rd (.map []) [] := ⟨fun x => rfl, by simp, rfl⟩
theorem Rd.put {D : DataW Unit} {l : List (Int × Int)} (h : Rd D l) (ht : Tidy D) {no at_ : Int} (hk : keyB l no = false) : Rd (D.put (.int .i64 no) (.lit (.int .i64 at_))) (l ++ [(no, at_)]) := by
  have hkey : WideAt.IsKeyLit (.int .i64 no) := trivial
  refine ⟨fun x => ?_, ?_, ?_⟩
  · by_cases hx : x = no
    · subst hx
      rw [has_put_same ht.isMap hkey]
      simp [keyB]
    · rw [has_put_other (keyI_ne hx), h.has x]
      have : (no == x) = false := by rw [beq_eq_false_iff_ne]; exact fun e => hx e.symm
      simp [keyB, this]
  · intro p hp z
    rcases List.mem_append.1 hp with hp | hp
    · have hne : p.1 ≠ no := by
        intro e
        rw [keyB_false] at hk
        exact hk (by rw [← e]; exact List.mem_map_of_mem hp)
      rw [atKey_put_other (keyI_ne hne)]
      exact h.val p hp z
    · rw [List.mem_singleton.1 hp]
      exact atKey_put_same ht.isMap hkey _ _
  · rw [size_put ht, h.has no, hk, h.size]
    simp
theorem length_dropKey : ∀ (l : List (Int × Int)), (l.map (·.1)).Nodup → ∀ {x : Int}, keyB l x = true → (dropKey l x).length + 1 = l.length
  | [], _, x, h => by simp [keyB] at h
  | p :: l, hn, x, h => by
    simp only [List.map_cons, List.nodup_cons] at hn
    by_cases e : p.1 = x
    · subst e
      have : dropKey l p.1 = l := by
        unfold dropKey
        rw [List.filter_eq_self]
        intro q hq
        have : q.1 ≠ p.1 := fun e => hn.1 (by rw [← e]; exact List.mem_map_of_mem hq)
        simpa using this
      have e2 : dropKey (p :: l) p.1 = dropKey l p.1 := by simp [dropKey]
      rw [e2, this]
      rfl
    · have e1 : (p.1 == x) = false := by simpa using e
      have h' : keyB l x = true := by simpa [keyB, e1, e] using h
      have ih := length_dropKey l hn.2 h'
      have e2 : dropKey (p :: l) x = p :: dropKey l x := by simp [dropKey, e1, e]
      rw [e2]
      simp
      omega
theorem Rd.del {D : DataW Unit} {l : List (Int × Int)} (h : Rd D l) (ht : Tidy D) (hn : (l.map (·.1)).Nodup) {no : Int} (hk : keyB l no = true) : Rd (D.del (.int .i64 no)) (dropKey l no) := by
  refine ⟨fun x => ?_, ?_, ?_⟩
  · by_cases hx : x = no
    · subst hx
      rw [has_del_same]
      symm
      rw [keyB_false, List.mem_map]
      rintro ⟨p, hp, e⟩
      have := (List.mem_filter.1 hp).2
      simp [e] at this
    · rw [has_del_other (keyI_ne hx), h.has x]
      rw [Bool.eq_iff_iff, keyB_iff, keyB_iff, List.mem_map, List.mem_map]
      constructor
      · rintro ⟨p, hp, rfl⟩
        exact ⟨p, List.mem_filter.2 ⟨hp, by simpa using hx⟩, rfl⟩
      · rintro ⟨p, hp, rfl⟩
        exact ⟨p, (List.mem_filter.1 hp).1, rfl⟩
  · intro p hp z
    obtain ⟨hp, h2⟩ := List.mem_filter.1 hp
    have hne : p.1 ≠ no := by simpa using h2
    rw [atKey_del_other (keyI_ne hne)]
    exact h.val p hp z
  · have h1 := size_del ht (k := .int .i64 no)
    rw [h.has no, hk, h.size] at h1
    have h2 := length_dropKey l hn hk
    simp at h1
    omega
end Go.Proofs.Ytegffmnenicldaa
