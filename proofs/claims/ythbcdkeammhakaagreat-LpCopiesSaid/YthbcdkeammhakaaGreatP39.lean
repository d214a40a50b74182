/- Chapter 13: LsB. -/
import Derived.Test.YthbcdkeammhakaaGreatP38
set_option maxRecDepth 100000
set_option maxHeartbeats 16000000
namespace Go.Proofs.YthbcdkeammhakaaGreat
open Go.RowKit
attribute [local go_sem ↓] Go.wp_at_zero Go.wp_at_succ
def rlarr (c : LC) (first : St) (gi go : Nat) (now fr steps : Int) : Array Value := #[.int .i64 c.md, .int .i64 c.id, .int .i64 first.s0, .int .i64 first.s1, .int .i64 first.s2, .int .i64 first.s3, .bool c.lz, .pointer (some ⟨gi, 0, none⟩), .pointer (some ⟨go, 0, none⟩), .int .i64 now, .int .i64 fr, .int .i64 steps]
structure RLp (w : World) (c : LC) (first : St) (g gi go : Nat) (v1 v2 : Value) (L B : List Ev) (now fr steps : Int) : Prop where
 blk : Blk w g 60 (rlarr c first gi go now fr steps)
 q : RQ w gi v1 v2 L B
section
variable {w w' : World} {c : LC} {first : St} {g gi go : Nat} {v1 v2 : Value} {L B : List Ev} {now fr steps : Int} {S : Nat → Prop}
def rlfoot (g gi : Nat) (v1 v2 : Value) (k : Nat) : Prop := k = g ∨ foot gi v1 v2 k
theorem RLp.kept (h : RLp w c first g gi go v1 v2 L B now fr steps) (k : Keep S w w') (hS : ∀ i, rlfoot g gi v1 v2 i → ¬ S i) : RLp w' c first g gi go v1 v2 L B now fr steps := ⟨h.blk.keep k (hS g (.inl rfl)), h.q.kept k (fun i hi => hS i (.inr hi))⟩
theorem RLp.fresh (h : RLp w c first g gi go v1 v2 L B now fr steps) (k : Fresh w w') : RLp w' c first g gi go v1 v2 L B now fr steps := h.kept k (fun _ _ h => h)
end
def nxv (l : List Ev) (a : Int) : Int := match nx l a with | some c => c | none => -1
theorem rnext_is {g : Nat} {v1 v2 : Value} {L B l : List Ev} {a : Int} {w : World} (h : RQ w g v1 v2 L B) (pl : L.Perm l) (sl : Srt l) (hl : L.length ≤ 100000) (hp : ∀ z ∈ l, 0 ≤ z.a) :
  Calls Tryz.prog 47 #[.pointer (some ⟨g, 0, none⟩), .int .i64 a] w fun e w' => e = .returned (.int .i64 (nxv l a)) ∧ Fresh w w' := by
 refine (rnext_any g v1 v2 L B a w h hl (fun z hz => hp z (pl.mem_iff.1 hz))).mono ?_
 rintro e w' ⟨r, rfl, h1, h2⟩
 have h3 := h1.of pl sl
 refine ⟨?_, h2⟩
 unfold nxv nx
 rw [h3]
 cases nextE l a <;> rfl
theorem rbatch_is {g : Nat} {v1 v2 : Value} {L B l : List Ev} {a : Int} {w : World} (h : RQ w g v1 v2 L B) (pl : L.Perm l) (sl : Srt l) (hl : L.length ≤ 100000) :
  Calls Tryz.prog 49 #[.pointer (some ⟨g, 0, none⟩), .int .i64 a] w fun e w' => ∃ v, e = .returned v ∧ OwnS w' 41 7 v (bat l a).length (cells (bat l a)) ∧ Fresh w w' ∧ ∀ k, v.ownBlock = some k → w.heap.size ≤ k := by
 refine (rbatch_any g v1 v2 L B a w h hl).mono ?_
 rintro e w' ⟨v, out, rfl, h1, h2, h3, h4, h5⟩
 have he : out = bat l a := srt_ext h1 (sl.filter_ _) (fun z => by
  rw [cnt_count, cnt_count]
  exact (h2.trans (List.Perm.filter _ pl)).count_eq z)
 subst he
 exact ⟨v, rfl, h3, h4, h5⟩
theorem insAll_snoc (l : List Ev) (e : Ev) : insAll (l ++ [e]) = ins (insAll l) e := by unfold insAll; rw [List.foldl_append]; rfl
structure RnI (w : World) (c : LC) (first : St) (g gi go : Nat) (l : List Ev) (i : Nat) (v1 v2 : Value) (L : List Ev) (wr : World) : Prop where
 f : Fresh w wr
 r : RLp wr c first g gi go v1 v2 L [] (-1) 0 0
 p : L.Perm (insAll (l.take i))
 x : ∀ k, rlfoot g gi v1 v2 k → w.heap.size ≤ k
theorem RnI.next {w wr w' : World} {c : LC} {first : St} {g gi go : Nat} {l : List Ev} {i : Nat} {v1 v2 v1' v2' : Value} {L L' B' : List Ev} {e : Ev} (h : RnI w c first g gi go l i v1 v2 L wr) (he : l[i]? = some e) (hg : ¬ foot gi v1 v2 g) (r : RQ w' gi v1' v2' L' B') (pl : L'.Perm (putL (insAll (l.take i)) [] e false)) (pm : B'.Perm (putB (insAll (l.take i)) [] e false)) (t : Turn wr w' gi v1 v2 v1' v2') : RnI w c first g gi go l (i + 1) v1' v2' L' w' ∧ B' = [] ∧ ¬ foot gi v1' v2' g := by
 have hhas : has ([] : List Ev) e = false := by
  cases hh : has ([] : List Ev) e
  ·rfl
  ·have := (has_mem (List.Pairwise.nil : Srt []) e).1 hh; cases this
 have e1 : putL (insAll (l.take i)) [] e false = ins (insAll (l.take i)) e := by unfold putL; simp [hhas]
 have e2 : putB (insAll (l.take i)) [] e false = [] := by unfold putB; simp [hhas]
 rw [e2] at pm
 rw [e1] at pl
 have hB := List.Perm.eq_nil pm
 subst hB
 refine ⟨⟨h.f.step t.keep (fun k hk hf => by have := h.x k (.inr hf); omega), ⟨h.r.blk.keep t.keep hg, r⟩, ?_, fun k hk => ?_⟩, rfl, fun hf => ?_⟩
 ·rw [List.take_add_one, he, Option.toList_some, insAll_snoc]
  exact pl
 ·rcases hk with rfl | hk
  ·exact h.x _ (.inl rfl)
  ·rcases t.later k hk with h1 | h1
   ·exact h.x k (.inr h1)
   ·have := h.f.size; omega
 ·rcases t.later g hf with h1 | h1
  ·exact hg h1
  ·have := h.r.blk.lt; omega
def RNewP (c : LC) (first : St) (l : List Ev) (w : World) (e : Ending) (w' : World) : Prop := ∃ g gi go v1 v2 L, e = .returned (.tuple #[.pointer (some ⟨g, 0, none⟩), .int .i64 0]) ∧ RLp w' c first g gi go v1 v2 L [] (-1) 0 0 ∧ L.Perm (insAll l) ∧ Fresh w w' ∧ (∀ k, rlfoot g gi v1 v2 k → w.heap.size ≤ k) ∧ ¬ foot gi v1 v2 g ∧ w.heap.size ≤ go ∧ Blk w' go 108 #[.slice none 0 0, .slice none 0 0]
end Go.Proofs.YthbcdkeammhakaaGreat
