/-
  What SlabCounts keeps, call by call: live and freed slots are as many as were ever taken; what was freed tells nothing.
-/
import Derived.Test.YtdobhicjhgdhnaaTurnsP
import Derived.Test.YtdobhicjhgdhnaaLive2
import Derived.Test.YtdobhicjhgdhnaaKeeps
namespace Go.Proofs.Ytdobhicjhgdhnaa
open Go.RowKit

/-- a handle that tells nothing any more -/
def Gone (s : St) (p : Int × Int) : Prop := ∃ (j : Nat) (x : Sl), p.1 = (j : Int) ∧ s.l[j]? = some x ∧ p.2 ≤ x.t ∧ (p.2 = x.t → x.c = 0)
theorem Gone.not {s : St} {p : Int × Int} (h : Gone s p) (i : Nat) (x : Sl) : ¬ s.tells p.1 p.2 i x := by
  rintro ⟨h1, h2, h3, h4⟩
  obtain ⟨j, y, e1, e2, _, e4⟩ := h
  obtain rfl : i = j := by omega
  rw [h2] at e2
  injection e2 with e2
  subst e2
  exact h3 (e4 h4.symm)
structure CS (N k : Nat) (r : Int) (s : St) (live dead : List (Int × Int)) : Prop where
  ts : TS N k r s
  ls : LS s live
  sum : live.length + s.fr.length = s.fresh
  cl : ∀ x ∈ s.l, x.c ≠ 0 → 1 ≤ x.c ∧ x.c ≤ 4
  dd : ∀ p ∈ dead, Gone s p
theorem CS.more {N k : Nat} {r : Int} {s : St} {live dead : List (Int × Int)} (h : CS N k r s live dead) : CS N (k + 1) r s live dead := ⟨h.ts.more, h.ls, h.sum, h.cl, h.dd⟩
theorem CS.left {N k : Nat} {r : Int} {s : St} {live dead : List (Int × Int)} (h : CS N k r s live dead) : s.left = (N : Int) - live.length := by
  unfold St.left
  have := h.sum
  have := h.ts.len
  omega
theorem CS.lle {N k : Nat} {r : Int} {s : St} {live dead : List (Int × Int)} (h : CS N k r s live dead) : live.length ≤ N := by
  have := h.sum
  have := h.ts.fresh
  omega
theorem CS.start (N : Nat) (r : Int) : CS N 0 r (St.new N r) [] [] := by
  refine ⟨TS.start N r, ⟨by simp, by simp, ?_⟩, by simp [St.new], ?_, by simp⟩
  · simp [St.new, isLive, List.countP_replicate]
  · intro x hx h
    rw [List.eq_of_mem_replicate hx] at h
    simp at h
/-- a store into a slot that holds nothing, with a turn one greater -/
theorem gone_take {s : St} {j : Nat} {y : Sl} (hy : s.l[j]? = some y) {p : Int × Int} (h : Gone s p) {c v : Int} {fr : List Int} {fresh : Nat} {res : Int} : Gone ⟨s.l.set j ⟨c, y.t + 1, v⟩, fr, fresh, res⟩ p ∧ p ≠ ((j : Int), y.t + 1) := by
  obtain ⟨i, x, e1, e2, e3, e4⟩ := h
  have hj := (List.getElem?_eq_some_iff.1 hy).1
  by_cases hij : i = j
  · subst hij
    rw [hy] at e2
    injection e2 with e2
    subst e2
    refine ⟨⟨i, ⟨c, y.t + 1, v⟩, e1, by rw [List.getElem?_set_self hj], by simp only; omega, fun h => by simp only at h; omega⟩, ?_⟩
    rintro rfl
    simp only at e3
    omega
  · refine ⟨⟨i, x, e1, by rw [List.getElem?_set_ne (by omega)]; exact e2, e3, e4⟩, ?_⟩
    rintro rfl
    simp only at e1
    omega
theorem gone_free {s : St} {j : Nat} {x : Sl} (hx : s.l[j]? = some x) {p : Int × Int} (h : Gone s p) : Gone (s.free j x) p := by
  obtain ⟨i, y, e1, e2, e3, e4⟩ := h
  have hj := (List.getElem?_eq_some_iff.1 hx).1
  by_cases hij : i = j
  · subst hij
    rw [hx] at e2
    injection e2 with e2
    subst e2
    exact ⟨i, ⟨0, x.t, 0⟩, e1, by simp only [St.free]; rw [List.getElem?_set_self hj], e3, fun _ => rfl⟩
  · exact ⟨i, y, e1, by simp only [St.free]; rw [List.getElem?_set_ne (by omega)]; exact e2, e3, e4⟩
theorem gone_self {s : St} {j : Nat} {x : Sl} {p : Int × Int} (h : s.tells p.1 p.2 j x) : Gone (s.free j x) p := by
  obtain ⟨h1, h2, h3, h4⟩ := h
  have hj := (List.getElem?_eq_some_iff.1 h2).1
  exact ⟨j, ⟨0, x.t, 0⟩, h1, by simp only [St.free]; rw [List.getElem?_set_self hj], by simp only; omega, fun _ => rfl⟩
theorem cl_set {l : List Sl} (h : ∀ x ∈ l, x.c ≠ 0 → 1 ≤ x.c ∧ x.c ≤ 4) {j : Nat} {y : Sl} (hy : y.c ≠ 0 → 1 ≤ y.c ∧ y.c ≤ 4) : ∀ x ∈ l.set j y, x.c ≠ 0 → 1 ≤ x.c ∧ x.c ≤ 4 := by
  intro x hx
  rcases List.mem_or_eq_of_mem_set hx with hx | rfl
  · exact h x hx
  · exact hy
/-- no live handle tells a slot that holds nothing -/
theorem LS.off {s : St} {live : List (Int × Int)} (h : LS s live) {j : Nat} {x : Sl} (hx : s.l[j]? = some x) (h0 : x.c = 0) : ∀ p ∈ live, p.1 ≠ (j : Int) := by
  intro p hp e
  obtain ⟨i, y, e1, e2, e3, _⟩ := h.tell p hp
  obtain rfl : i = j := by omega
  rw [hx] at e2
  injection e2 with e2
  subst e2
  exact e3 h0

/-- what a Take leaves that gave a slot -/
structure TookC (N k : Nat) (r : Int) (u : Bool) (g : Nat) (vs vf : Value) (s : St) (live dead : List (Int × Int)) (j : Nat) (t : Int) (w w' : World) : Prop where
  off : ∀ p ∈ live, p.1 ≠ (j : Int)
  new : ∀ p ∈ dead, p ≠ ((j : Int), t)
  left : 1 ≤ s.left ∧ (u = false → r + 1 ≤ s.left)
  ex : ∃ s' vf', CS N (k + 1) r s' (live ++ [((j : Int), t)]) dead ∧ SSlab w' g vs vf' s' ∧ Keep (foot g vs vf) w w' ∧ Later w g vs vf vs vf'
theorem take_c {N k g : Nat} {r : Int} {vs vf : Value} {s : St} {live dead : List (Int × Int)} {w : World} (h : CS N k r s live dead) (hN : N ≤ 100) (hk : k ≤ 100) (hr : 0 ≤ r ∧ r ≤ 100) (hs : SSlab w g vs vf s) (cl x : Int) (u : Bool) :
    Calls Try.prog 12 #[.pointer (some ⟨g, 0, none⟩), .int .i64 cl, .bool u, .int .i64 x] w fun e w' =>
      (∃ er, er ≠ 0 ∧ e = .returned (.tuple #[.agg #[.int .i64 0, .int .i64 0], .int .i64 er]) ∧ Fresh w w') ∨
      (∃ (j : Nat) (t : Int), e = .returned (.tuple #[.agg #[.int .i64 (j : Nat), .int .i64 t], .int .i64 0]) ∧ TookC N k r u g vs vf s live dead j t w w') := by
  by_cases hc : cl < 1 ∨ 4 < cl
  · exact (take_arg g cl x u w hc).mono fun e w' ⟨h1, h2⟩ => .inl ⟨1, by decide, h1, h2⟩
  by_cases hf : s.full u
  · exact (take_full g vs vf s cl x u w hs (h.ts.small hN hk hr) (by omega) (by omega) hf).mono fun e w' ⟨h1, h2⟩ => .inl ⟨11, by decide, h1, h2⟩
  have hleft : 1 ≤ s.left ∧ (u = false → r + 1 ≤ s.left) := by
    have hl := h.left
    have := h.lle
    have h0 : s.left ≠ 0 := fun h0 => hf (.inl h0)
    refine ⟨by omega, fun hu => ?_⟩
    have : ¬ s.left ≤ s.res := fun hh => hf (.inr ⟨hu, hh⟩)
    rw [h.ts.res] at this
    omega
  rcases List.eq_nil_or_concat s.fr with hfr | ⟨init, i, hfr⟩
  · have hl : s.fresh < N := by
      have h0 : s.left ≠ 0 := fun h0 => hf (.inl h0)
      unfold St.left at h0
      rw [hfr, h.ts.len] at h0
      have := h.ts.fresh
      simp at h0
      omega
    obtain ⟨y, hy⟩ : ∃ y, s.l[s.fresh]? = some y := ⟨_, List.getElem?_eq_getElem (by rw [h.ts.len]; exact hl)⟩
    have h0 := (h.ts.cls _ _ hy).2 (.inr (Nat.le_refl _))
    have ht := h.ts.new _ _ hy (Nat.le_refl _)
    refine (take_new g vs vf s y cl x u w hs (h.ts.small hN hk hr) (by omega) (by omega) hf hfr hy).mono fun e w' ⟨e1, vf', s2, k2, l2⟩ => .inr ⟨_, y.t + 1, e1, h.ls.off hy h0, fun p hp => (gone_take hy (h.dd p hp) (c := cl) (v := x) (fr := []) (fresh := 0) (res := 0)).2, hleft, _, vf', ⟨?_, h.ls.take hy h0 (by omega), ?_, cl_set h.cl (fun _ => ⟨by simp only; omega, by simp only; omega⟩), fun p hp => (gone_take hy (h.dd p hp)).1⟩, s2, k2, l2⟩
    · have := h.ts.take_new hl hfr (c := cl) (v := x) (by omega)
      rw [ht]
      exact this
    · have := h.sum
      simp
      omega
  · rw [List.concat_eq_append] at hfr
    obtain ⟨j, rfl, j2⟩ := h.ts.mem i (by rw [hfr]; simp)
    have jN : j < N := Nat.lt_of_lt_of_le j2 h.ts.fresh
    obtain ⟨y, hy⟩ : ∃ y, s.l[j]? = some y := ⟨_, List.getElem?_eq_getElem (by rw [h.ts.len]; exact jN)⟩
    have h0 := (h.ts.cls _ _ hy).2 (.inl (by rw [hfr]; simp))
    refine (take_freed g vs vf s init j y cl x u w hs (h.ts.small hN hk hr) (by omega) (by omega) hf hfr hy).mono fun e w' ⟨e1, vf', s2, k2, l2⟩ => .inr ⟨_, y.t + 1, e1, h.ls.off hy h0, fun p hp => (gone_take hy (h.dd p hp) (c := cl) (v := x) (fr := []) (fresh := 0) (res := 0)).2, hleft, _, vf', ⟨h.ts.take_freed hfr hy (by omega), h.ls.take hy h0 (by omega), ?_, cl_set h.cl (fun _ => ⟨by simp only; omega, by simp only; omega⟩), fun p hp => (gone_take hy (h.dd p hp)).1⟩, s2, k2, l2⟩
    have := h.sum
    rw [hfr] at this
    simp at this ⊢
    omega
/-- what a Free leaves -/
def FreedC (N k : Nat) (r : Int) (g : Nat) (vs vf : Value) (live dead : List (Int × Int)) (m : Nat) (p : Int × Int) (w w' : World) : Prop :=
  ∃ s' vf', CS N (k + 1) r s' (live.take m ++ live.drop (m + 1)) (dead ++ [p]) ∧ SSlab w' g vs vf' s' ∧ Keep (foot g vs vf) w w' ∧ Later w g vs vf vs vf'
theorem free_c {N k g m : Nat} {r : Int} {vs vf : Value} {s : St} {live dead : List (Int × Int)} {p : Int × Int} {w : World} (h : CS N k r s live dead) (hN : N ≤ 100) (hk : k ≤ 100) (hs : SSlab w g vs vf s) (hp : live[m]? = some p) :
    Calls Try.prog 13 #[.pointer (some ⟨g, 0, none⟩), .agg #[.int .i64 p.1, .int .i64 p.2]] w fun e w' =>
      (∃ x, e = .returned (.tuple #[.int .i64 x, .int .i64 0])) ∧ FreedC N k r g vs vf live dead m p w w' := by
  have hl := h.ts.fr
  have hm := (List.getElem?_eq_some_iff.1 hp).1
  obtain ⟨i0, x0, ht0⟩ := h.ls.tell p (List.mem_of_getElem? hp)
  refine (free_any g vs vf s p.1 p.2 w hs (by rw [h.ts.len]; omega) (by omega)).mono ?_
  rintro e w' (⟨i, x, vf', ht, rfl, s2, k2, l2⟩ | ⟨hn, rfl, f⟩)
  · refine ⟨⟨_, rfl⟩, _, vf', ⟨h.ts.free ht.2.1 ht.2.2.1, h.ls.free hp ht, ?_, cl_set h.cl (fun h => by simp at h), ?_⟩, s2, k2, l2⟩
    · have := h.sum
      rw [List.length_append, List.length_take, List.length_drop]
      simp only [St.free, List.length_append, List.length_singleton]
      omega
    · intro q hq
      rcases List.mem_append.1 hq with hq | hq
      · exact gone_free ht.2.1 (h.dd q hq)
      · rw [List.mem_singleton.1 hq]
        exact gone_self ht
  · exact absurd ht0 (hn i0 x0)
/-- a dead handle's calls -/
theorem gone_get {N k g : Nat} {r : Int} {vs vf : Value} {s : St} {live dead : List (Int × Int)} {p : Int × Int} {w : World} (h : CS N k r s live dead) (hN : N ≤ 100) (hs : SSlab w g vs vf s) (hp : p ∈ dead) :
    Calls Try.prog 16 #[.pointer (some ⟨g, 0, none⟩), .agg #[.int .i64 p.1, .int .i64 p.2]] w fun e w' => e = .returned (.tuple #[.int .i64 0, .int .i64 12]) ∧ Fresh w w' := by
  refine (get_any g vs vf s p.1 p.2 w hs (by rw [h.ts.len]; omega)).mono ?_
  rintro e w' ⟨f, ⟨i, x, ht, rfl⟩ | ⟨hn, rfl⟩⟩
  · exact absurd ht ((h.dd p hp).not i x)
  · exact ⟨rfl, f⟩
theorem gone_frees {N k g : Nat} {r : Int} {vs vf : Value} {s : St} {live dead : List (Int × Int)} {p : Int × Int} {w : World} (h : CS N k r s live dead) (hN : N ≤ 100) (hk : k ≤ 100) (hs : SSlab w g vs vf s) (hp : p ∈ dead) :
    Calls Try.prog 13 #[.pointer (some ⟨g, 0, none⟩), .agg #[.int .i64 p.1, .int .i64 p.2]] w fun e w' => e = .returned (.tuple #[.int .i64 0, .int .i64 12]) ∧ Fresh w w' := by
  have hl := h.ts.fr
  refine (free_any g vs vf s p.1 p.2 w hs (by rw [h.ts.len]; omega) (by omega)).mono ?_
  rintro e w' (⟨i, x, vf', ht, rfl, s2, k2, l2⟩ | ⟨hn, rfl, f⟩)
  · exact absurd ht ((h.dd p hp).not i x)
  · exact ⟨rfl, f⟩
theorem gone_set {N k g : Nat} {r : Int} {vs vf : Value} {s : St} {live dead : List (Int × Int)} {p : Int × Int} {w : World} (h : CS N k r s live dead) (hN : N ≤ 100) (hs : SSlab w g vs vf s) (hp : p ∈ dead) (v : Int) :
    Calls Try.prog 17 #[.pointer (some ⟨g, 0, none⟩), .agg #[.int .i64 p.1, .int .i64 p.2], .int .i64 v] w fun e w' => e = .returned (.int .i64 12) ∧ Fresh w w' := by
  refine (set_any g vs vf s p.1 p.2 v w hs (by rw [h.ts.len]; omega)).mono ?_
  rintro e w' (⟨i, x, ht, rfl, s2, k2⟩ | ⟨hn, rfl, f⟩)
  · exact absurd ht ((h.dd p hp).not i x)
  · exact ⟨rfl, f⟩
theorem live_get {N k g : Nat} {r : Int} {vs vf : Value} {s : St} {live dead : List (Int × Int)} {p : Int × Int} {w : World} (h : CS N k r s live dead) (hN : N ≤ 100) (hs : SSlab w g vs vf s) (hp : p ∈ live) :
    Calls Try.prog 16 #[.pointer (some ⟨g, 0, none⟩), .agg #[.int .i64 p.1, .int .i64 p.2]] w fun e w' => (∃ x, e = .returned (.tuple #[.int .i64 x, .int .i64 0])) ∧ Fresh w w' := by
  obtain ⟨i0, x0, ht0⟩ := h.ls.tell p hp
  refine (get_any g vs vf s p.1 p.2 w hs (by rw [h.ts.len]; omega)).mono ?_
  rintro e w' ⟨f, ⟨i, x, ht, rfl⟩ | ⟨hn, rfl⟩⟩
  · exact ⟨⟨_, rfl⟩, f⟩
  · exact absurd ht0 (hn i0 x0)
theorem left_q (g : Nat) (vs vf : Value) (s : St) (w : World) (h : SSlab w g vs vf s) (hs : s.Small) : Calls Try.prog 15 #[.pointer (some ⟨g, 0, none⟩)] w fun e w' => e = .returned (.int .i64 s.left) ∧ ∃ m, w' = w.drewN m := by
  have hb := h.blk.cell
  obtain ⟨A, cap, rfl, _, _⟩ := h.os.shape
  obtain ⟨A', cap', rfl, _, _⟩ := h.of.shape
  have a1 := hs.l
  have a2 := hs.fr
  have a3 := hs.fresh
  unfold St.left
  clear h hs
  go_enter Try.func15, Try.ntmps15
  go_wp2_with fail
  go_quiet (fail)
  go_wp2
  go_ret
  exact ⟨rfl, _, rfl⟩
theorem left_cq {N k g : Nat} {r : Int} {vs vf : Value} {s : St} {live dead : List (Int × Int)} {w : World} (h : CS N k r s live dead) (hN : N ≤ 100) (hk : k ≤ 100) (hr : 0 ≤ r ∧ r ≤ 100) (hs : SSlab w g vs vf s) :
    Calls Try.prog 15 #[.pointer (some ⟨g, 0, none⟩)] w fun e w' => e = .returned (.int .i64 ((N : Int) - live.length)) ∧ ∃ m, w' = w.drewN m := by
  rw [← h.left]
  exact left_q g vs vf s w hs (h.ts.small hN hk hr)
theorem hcells_take' : ∀ (L : List (Int × Int)) (j : Nat), (hcells L).take (j * 2) = hcells (L.take j)
  | L, 0 => by simp [hcells]
  | [], j + 1 => by simp [hcells]
  | a :: L, j + 1 => by
    have e : ∀ a L, hcells (a :: L) = .int .i64 a.1 :: .int .i64 a.2 :: hcells L := fun _ _ => rfl
    rw [show (j + 1) * 2 = j * 2 + 2 by omega, e, List.take_succ_cons, List.take_succ_cons, hcells_take' L j, List.take_succ_cons, e]
theorem hcells_drop' : ∀ (L : List (Int × Int)) (j : Nat), (hcells L).drop (j * 2) = hcells (L.drop j)
  | L, 0 => by simp
  | [], j + 1 => by simp [hcells]
  | a :: L, j + 1 => by
    have e : ∀ a L, hcells (a :: L) = .int .i64 a.1 :: .int .i64 a.2 :: hcells L := fun _ _ => rfl
    rw [show (j + 1) * 2 = j * 2 + 2 by omega, e, List.drop_succ_cons, List.drop_succ_cons, hcells_drop' L j, List.drop_succ_cons]
theorem src_cap' {w : World} {size n c c' m : Nat} {A : Option Addr} {news : List Value} (h : Src w size (.slice A n c) m news) : Src w size (.slice A n c') m news := by
  obtain ⟨h1, h2⟩ := h
  refine ⟨h1, ?_⟩
  rcases h2 with ⟨c0, e, e2⟩ | ⟨a, c0, e, e2⟩
  · injection e with e3 e4 _
    subst e3 e4
    exact .inl ⟨_, rfl, e2⟩
  · injection e with e3 e4 _
    subst e3 e4
    exact .inr ⟨_, _, rfl, e2⟩

/-- the slab, what lives and what is dead behind k calls -/
structure CInv (w : World) (N k g : Nat) (r : Int) (vs vf lv dv : Value) (s : St) (live dead : List (Int × Int)) (wr : World) : Prop where
  ss : SSlab wr g vs vf s
  cs : CS N k r s live dead
  ol : OwnS wr 32 2 lv live.length (hcells live)
  od : OwnS wr 32 2 dv dead.length (hcells dead)
  nt : ∀ i, lv.ownBlock = some i → dv.ownBlock ≠ some i
  ll : live.length ≤ k
  dl : dead.length ≤ k
  xblk : Blk wr w.heap.size 41 #[.int .i64 (N : Nat), .int .i64 r]
  fr : Fresh w wr
  nw : New w g vs vf
  ln : ∀ k, lv.ownBlock = some k → w.heap.size ≤ k
  dn : ∀ k, dv.ownBlock = some k → w.heap.size ≤ k
section
variable {w wr w1 w3 w4 w5 X : World} {N k g : Nat} {r : Int} {vs vf lv lv' dv dv' : Value} {s : St} {live dead : List (Int × Int)}
theorem CInv.fresh (h : CInv w N k g r vs vf lv dv s live dead wr) (f : Fresh wr w1) : CInv w N k g r vs vf lv dv s live dead w1 :=
  ⟨h.ss.fresh f, h.cs, h.ol.fresh f, h.od.fresh f, h.nt, h.ll, h.dl, f.blk_ h.xblk, h.fr.step f (fun _ _ h => h), h.nw, h.ln, h.dn⟩
theorem CInv.more (h : CInv w N k g r vs vf lv dv s live dead wr) : CInv w N (k + 1) g r vs vf lv dv s live dead wr :=
  ⟨h.ss, h.cs.more, h.ol, h.od, h.nt, by have := h.ll; omega, by have := h.dl; omega, h.xblk, h.fr, h.nw, h.ln, h.dn⟩
theorem CInv.off (h : CInv w N k g r vs vf lv dv s live dead wr) : (∀ i, lv.ownBlock = some i → ¬ foot g vs vf i) ∧ (∀ i, dv.ownBlock = some i → ¬ foot g vs vf i) := by
  constructor
  · rintro i hi (rfl | hk | hk)
    · exact h.ol.ne_blk h.ss.blk (by decide) hi
    · exact h.ol.ne_own h.ss.os (by decide) i hi hk
    · exact h.ol.ne_own h.ss.of (by decide) i hi hk
  · rintro i hi (rfl | hk | hk)
    · exact h.od.ne_blk h.ss.blk (by decide) hi
    · exact h.od.ne_own h.ss.os (by decide) i hi hk
    · exact h.od.ne_own h.ss.of (by decide) i hi hk
/-- what a call of the slab leaves of the rest -/
theorem CInv.rest {vf' : Value} (h : CInv w N k g r vs vf lv dv s live dead wr) (kk : Keep (foot g vs vf) wr w1) (l1 : Later wr g vs vf vs vf') :
    OwnS w1 32 2 lv live.length (hcells live) ∧ OwnS w1 32 2 dv dead.length (hcells dead) ∧ Blk w1 w.heap.size 41 #[.int .i64 (N : Nat), .int .i64 r] ∧ Fresh w w1 ∧ New w g vs vf' :=
  ⟨h.ol.kept kk h.off.1, h.od.kept kk h.off.2, h.xblk.keep kk (h.ss.off h.xblk (by decide) (by decide) (by decide)), Fresh.slab h.fr kk h.nw, h.nw.step h.fr l1⟩
theorem CInv.took {j : Nat} {t : Int} {u : Bool} (h : CInv w N k g r vs vf lv dv s live dead wr) (tk : TookC N k r u g vs vf s live dead j t wr w3) (fX : Fresh w3 X)
    (o4 : OwnS w4 32 2 lv' (live.length + 1) (hcells live ++ hcells [((j : Int), t)])) (k4 : Keep (fun i => lv.ownBlock = some i) X w4) (n4 : ∀ i, lv'.ownBlock = some i → lv.ownBlock = some i ∨ X.heap.size ≤ i) :
    ∃ vf' s', CInv w N (k + 1) g r vs vf' lv' dv s' (live ++ [((j : Int), t)]) dead w4 := by
  obtain ⟨s', vf', c1, ss1, k1, la1⟩ := tk.ex
  obtain ⟨r1, r2, r3, r4, r5⟩ := h.rest k1 la1
  have hoff : ∀ i, lv.ownBlock = some i → ¬ foot g vs vf' i := by
    rintro i hi (rfl | hk | hk)
    · exact r1.ne_blk ss1.blk (by decide) hi
    · exact r1.ne_own ss1.os (by decide) i hi hk
    · exact r1.ne_own ss1.of (by decide) i hi hk
  have fw := r4.step fX (fun _ _ h => h)
  refine ⟨vf', s', (ss1.fresh fX).kept k4 (fun i hi hh => hoff i hh hi), c1, by rw [hcells_append, List.length_append, List.length_singleton]; exact o4, (r2.fresh fX).kept k4 (fun i hi hh => h.nt i hh hi), ?_, by have := h.ll; simp; omega, by have := h.dl; omega,
    (fX.blk_ r3).keep k4 (fun hh => r1.ne_blk r3 (by decide) hh), fw.step k4 (fun i hi hh => by have := h.ln i hh; omega), r5, ?_, h.dn⟩
  · intro i hi
    rcases n4 i hi with hh | hh
    · exact h.nt i hh
    · intro hd
      have := (r2.fresh fX).lt hd
      omega
  · intro i hi
    rcases n4 i hi with hh | hh
    · exact h.ln i hh
    · have := fw.size; omega
theorem CInv.freed {m : Nat} {p : Int × Int} (h : CInv w N k g r vs vf lv dv s live dead wr) (fd : FreedC N k r g vs vf live dead m p wr w3) (fX : Fresh w3 X)
    (o4 : OwnS w4 32 2 dv' (dead.length + 1) (hcells dead ++ hcells [p])) (k4 : Keep (fun i => dv.ownBlock = some i) X w4) (n4 : ∀ i, dv'.ownBlock = some i → dv.ownBlock = some i ∨ X.heap.size ≤ i)
    (f5 : Fresh w4 w5) (o5 : OwnS w5 32 2 lv' (live.take m ++ live.drop (m + 1)).length (hcells (live.take m ++ live.drop (m + 1)))) (n5 : ∀ i, lv'.ownBlock = some i → w4.heap.size ≤ i) (hm : m < live.length) :
    ∃ vf' s', CInv w N (k + 1) g r vs vf' lv' dv' s' (live.take m ++ live.drop (m + 1)) (dead ++ [p]) w5 := by
  obtain ⟨s', vf', c1, ss1, k1, la1⟩ := fd
  obtain ⟨r1, r2, r3, r4, r5⟩ := h.rest k1 la1
  have hoff : ∀ i, dv.ownBlock = some i → ¬ foot g vs vf' i := by
    rintro i hi (rfl | hk | hk)
    · exact r2.ne_blk ss1.blk (by decide) hi
    · exact r2.ne_own ss1.os (by decide) i hi hk
    · exact r2.ne_own ss1.of (by decide) i hi hk
  have fw := r4.step fX (fun _ _ h => h)
  have fw4 : Fresh w w4 := fw.step k4 (fun i hi hh => by have := h.dn i hh; omega)
  refine ⟨vf', s', ((ss1.fresh fX).kept k4 (fun i hi hh => hoff i hh hi)).fresh f5, c1, o5, ?_, ?_, ?_, by have := h.dl; simp; omega,
    f5.blk_ ((fX.blk_ r3).keep k4 (fun hh => r2.ne_blk r3 (by decide) hh)), fw4.step f5 (fun _ _ h => h), r5, ?_, ?_⟩
  · rw [hcells_append, List.length_append, List.length_singleton]
    exact o4.fresh f5
  · intro i hi hd
    have := n5 i hi
    have := o4.lt hd
    omega
  · have := h.ll
    rw [List.length_append, List.length_take, List.length_drop]
    omega
  · intro i hi
    have := n5 i hi
    have := fw4.size
    omega
  · intro i hi
    rcases n4 i hi with hh | hh
    · exact h.dn i hh
    · have := fw.size; omega
end
theorem count_all {N k : Nat} {r : Int} {s : St} {live dead : List (Int × Int)} (h : CS N k r s live dead) : s.l.countP (isOf [1, 2, 3, 4]) = live.length := by
  rw [← h.ls.cnt]
  apply List.countP_congr
  intro x hx
  unfold isOf isLive
  simp only [Bool.and_eq_true, decide_eq_true_eq]
  constructor
  · exact fun h => h.1
  · intro h0
    refine ⟨h0, ?_⟩
    have := h.cl x hx h0
    rw [List.contains_iff_mem]
    have : x.c = 1 ∨ x.c = 2 ∨ x.c = 3 ∨ x.c = 4 := by omega
    rcases this with e | e | e | e <;> rw [e] <;> simp
theorem left_c {N k g : Nat} {r : Int} {vs vf : Value} {s : St} {live dead : List (Int × Int)} {w : World} (h : CS N k r s live dead) (hN : N ≤ 100) (hk : k ≤ 100) (hr : 0 ≤ r ∧ r ≤ 100) (hs : SSlab w g vs vf s) :
    Calls Try.prog 15 #[.pointer (some ⟨g, 0, none⟩)] w fun e w' => e = .returned (.int .i64 ((N : Int) - live.length)) ∧ Fresh w w' := by
  rw [← h.left]
  exact left_any g vs vf s w hs (h.ts.small hN hk hr)
end Go.Proofs.Ytdobhicjhgdhnaa
