/- Chapter 13: LqT, LqH. -/
import Derived.Test.YthbcdkeammhakaaGreatP36
import Derived.Test.YthbcdkeammhakaaGreatP37
set_option maxRecDepth 100000
set_option maxHeartbeats 16000000
namespace Go.Proofs.YthbcdkeammhakaaGreat
open Go.RowKit
open Go.ChangeShapes Go.WideShapes Go.ChangeAt
theorem evs_arg {H : Type} {enc : TypeId × Value → H} {W : World} {A : Option Addr} {rows : List (List Value)} (h : ∀ r ∈ rows, All2 (Leaf enc Tryz.prog W) [3, 3, 3, 3, 3, 3, 3] r) (ha : SliceAt W A 7 rows) :
  ∃ es : List Ev, es.length = rows.length ∧ ∀ (i : Nat) (x : Ev), es[i]? = some x → ∃ b off, A = some ⟨b, off, none⟩ ∧ b < W.heap.size ∧ ∀ j u, x.enc[j]? = some u → W.cell? ⟨b, off + i * 7 + j, none⟩ = some u := by
 obtain ⟨os, hl, _⟩ := decode (fun o : Ev => o.enc) (fun _ => True) (fun r h => by
  obtain ⟨a, l0, e0, _, h0⟩ := all2_int Tryz.underlying3 h
  obtain ⟨s, l1, e1, _, h1⟩ := all2_int Tryz.underlying3 h0
  obtain ⟨t, l2, e2, _, h2⟩ := all2_int Tryz.underlying3 h1
  obtain ⟨n, l3, e3, _, h3⟩ := all2_int Tryz.underlying3 h2
  obtain ⟨d, l4, e4, _, h4⟩ := all2_int Tryz.underlying3 h3
  obtain ⟨k, l5, e5, _, h5⟩ := all2_int Tryz.underlying3 h4
  obtain ⟨x, l6, e6, _, h6⟩ := all2_int Tryz.underlying3 h5
  have := all2_nil h6
  subst this e6 e5 e4 e3 e2 e1 e0
  exact ⟨⟨a, s, t, n, d, k, x⟩, rfl, trivial⟩) rows h
 subst hl
 refine ⟨os, by simp, fun i o ho => ?_⟩
 obtain ⟨b, off, rfl, lt, hc⟩ := ha i (by simpa using (List.getElem?_eq_some_iff.1 ho).1)
 refine ⟨b, off, rfl, lt, fun j u hu => hc j u ?_⟩
 rw [List.getD_eq_getElem?_getD, List.getElem?_map, ho]
 exact hu
end Go.Proofs.YthbcdkeammhakaaGreat
namespace Go.Proofs.YthbcdkeammhakaaGreat
open Go.RowKit
attribute [local go_sem ↓] Go.wp_at_zero Go.wp_at_succ
theorem madeE_zero {id every : Int} {l : List Ev} (h : madeE id every l = 0) : 0 ≤ id ∧ id ≤ 31 ∧ 1 ≤ every ∧ newE id l = 0 := by
 unfold madeE at h
 split at h
 ·cases h
 ·rename_i hb
  exact ⟨by omega, by omega, by omega, h⟩
theorem newE_zero : ∀ {l : List Ev} {id : Int}, newE id l = 0 → ∀ e ∈ l, e.d = id ∧ 0 ≤ e.a ∧ e.a ≤ 1073741824
 | [], _, _, _, he => by cases he
 | x :: r, id, h, e, he => by
  unfold newE at h
  split at h
  ·cases h
  ·rename_i h1
   split at h
   ·cases h
   ·rename_i h2
    rcases List.mem_cons.1 he with rfl | he
    ·exact ⟨by omega, by omega, by omega⟩
    ·exact newE_zero h e he
theorem insAll_perm (l : List Ev) : (insAll l).Perm l := by
 have key : ∀ (l a : List Ev), (l.foldl ins a).Perm (a ++ l) := by
  intro l
  induction l with
  | nil => intro a; simp
  | cons x l ih =>
   intro a
   rw [List.foldl_cons]
   refine (ih _).trans ?_
   refine ((ins_perm a x).append_right l).trans ?_
   rw [List.cons_append]
   exact List.perm_middle.symm
 simpa [insAll] using key l []
theorem insAll_srt (l : List Ev) : Srt (insAll l) := by
 have key : ∀ (l a : List Ev), Srt a → Srt (l.foldl ins a) := by
  intro l
  induction l with
  | nil => intro a h; exact h
  | cons x l ih => intro a h; exact ih _ (h.ins_ x)
 exact key l [] List.Pairwise.nil
theorem made_ref {c : LC} {first : St} {l : List Ev} (hf : fewB c first l = true) (he : madeE c.id c.every l = 0) : RefP c first (newLp first (insAll l)) (newA (insAll l)) 0 := by
 obtain ⟨f1, f2, f3, f4⟩ := few_facts hf
 obtain ⟨e1, e2, e3, e4⟩ := madeE_zero he
 have hn := newE_zero e4
 refine new_ref (insAll_srt l) (fun e he => ?_) (by rw [insAll_len]; exact f3) ⟨e1, e2⟩ f4 f2
 have hm := (insAll_perm l).mem_iff.1 he
 exact ⟨f1 e hm, (hn e hm).2⟩
theorem lop_cells {w : World} {B : Option Addr} {os : List LOp} (h : LOps w B os) {i : Nat} {o : LOp} (ho : os[i]? = some o) : ∃ b off, B = some ⟨b, off, none⟩ ∧ ∀ W, Fresh w W → W.cell? ⟨b, off + i * 10, none⟩ = some (.int .i64 o.k) ∧ W.cell? ⟨b, off + i * 10 + 1, none⟩ = some (.int .i64 o.b) ∧ W.cell? ⟨b, off + i * 10 + 2, none⟩ = some (.int .i64 o.x.a) ∧ W.cell? ⟨b, off + i * 10 + 3, none⟩ = some (.int .i64 o.x.s) ∧ W.cell? ⟨b, off + i * 10 + 4, none⟩ = some (.int .i64 o.x.t) ∧ W.cell? ⟨b, off + i * 10 + 5, none⟩ = some (.int .i64 o.x.n) ∧ W.cell? ⟨b, off + i * 10 + 6, none⟩ = some (.int .i64 o.x.d) ∧ W.cell? ⟨b, off + i * 10 + 7, none⟩ = some (.int .i64 o.x.k) ∧ W.cell? ⟨b, off + i * 10 + 8, none⟩ = some (.int .i64 o.x.x) ∧ W.cell? ⟨b, off + i * 10 + 9, none⟩ = some (.bool o.an) := by
 obtain ⟨b, off, rfl, _, hc⟩ := h i o ho
 refine ⟨b, off, rfl, fun W f => ?_⟩
 have h := fun j u hu => f.cell_ (hc j u hu)
 exact ⟨h 0 _ rfl, h 1 _ rfl, h 2 _ rfl, h 3 _ rfl, h 4 _ rfl, h 5 _ rfl, h 6 _ rfl, h 7 _ rfl, h 8 _ rfl, h 9 _ rfl⟩
end Go.Proofs.YthbcdkeammhakaaGreat
