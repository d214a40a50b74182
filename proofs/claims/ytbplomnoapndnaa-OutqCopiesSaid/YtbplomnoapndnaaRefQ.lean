/-
  The document's queue where it lies; antis.
-/
import Derived.Test.YtbplomnoapndnaaLessP
import Derived.Test.YtbplomnoapndnaaAtE
import Derived.Test.YtbplomnoapndnaaDSortR11
import Derived.Test.YtbplomnoapndnaaDSortR10
namespace Go.Proofs.Ytbplomnoapndnaa
open Go.RowKit
attribute [local go_sem ↓] Go.wp_at_zero Go.wp_at_succ

def bools (l : List Rec) : List Value := l.map (fun r => .bool r.2)
def boolsP (p : Rec → Bool) (l : List Rec) : List Value := l.map (fun r => .bool (p r))
theorem bools_one (l : List Rec) : ∀ u ∈ bools l, u.oneCell' = true := by
  intro u hu
  unfold bools at hu
  obtain ⟨r, _, rfl⟩ := List.mem_map.1 hu
  rfl
theorem bools_append (l m : List Rec) : bools (l ++ m) = bools l ++ bools m := by simp [bools]
theorem bools_at {l : List Rec} {i : Nat} {r : Rec} (h : l[i]? = some r) : (bools l)[i]? = some (.bool r.2) := by unfold bools; rw [List.getElem?_map, h]; rfl
theorem boolsP_at {p : Rec → Bool} {l : List Rec} {i : Nat} {r : Rec} (h : l[i]? = some r) : (boolsP p l)[i]? = some (.bool (p r)) := by unfold boolsP; rw [List.getElem?_map, h]; rfl
theorem evs_append (l m : List Rec) : evs (l ++ m) = evs l ++ evs m := by simp [evs]
theorem info_bool : (Try.prog.info? 4).map (fun i => (i.zero, i.size, i.bytes)) = some (some (.bool false), 1, 1) := by kernel_rfl
structure RQ (w : World) (g : Nat) (v1 v2 : Value) (R : List Rec) : Prop where
  blk : Blk w g 59 #[v1, v2]
  o1 : OwnS w 44 7 v1 R.length (cells (evs R))
  o2 : OwnS w 4 1 v2 R.length (bools R)
def rfoot (g : Nat) (v1 v2 : Value) (k : Nat) : Prop := k = g ∨ v1.ownBlock = some k ∨ v2.ownBlock = some k
structure RTurn (w w' : World) (g : Nat) (v1 v2 v1' v2' : Value) : Prop where
  keep : Keep (rfoot g v1 v2) w w'
  later : ∀ k, rfoot g v1' v2' k → rfoot g v1 v2 k ∨ w.heap.size ≤ k
section
variable {w w' w3 W : World} {g : Nat} {v1 v2 v1' v2' v1'' v2'' v' : Value} {R R' : List Rec} {S : Nat → Prop}
theorem RQ.n1 (h : RQ w g v1 v2 R) : v1.ownBlock ≠ some g := h.o1.ne_blk h.blk (by decide)
theorem RQ.n2 (h : RQ w g v1 v2 R) : v2.ownBlock ≠ some g := h.o2.ne_blk h.blk (by decide)
theorem RQ.n12 (h : RQ w g v1 v2 R) : ∀ k, v1.ownBlock = some k → v2.ownBlock ≠ some k := h.o1.ne_own h.o2 (by decide)
theorem RQ.kept (h : RQ w g v1 v2 R) (k : Keep S w w') (hS : ∀ i, rfoot g v1 v2 i → ¬ S i) : RQ w' g v1 v2 R :=
  ⟨h.blk.keep k (hS g (.inl rfl)), h.o1.kept k (fun i hi => hS i (.inr (.inl hi))), h.o2.kept k (fun i hi => hS i (.inr (.inr hi)))⟩
theorem RQ.fresh (h : RQ w g v1 v2 R) (k : Fresh w w') : RQ w' g v1 v2 R := h.kept k (fun _ _ h => h)
theorem RQ.lt (h : RQ w g v1 v2 R) (k : Nat) (hk : rfoot g v1 v2 k) : k < w.heap.size := by
  rcases hk with rfl | hk | hk
  · exact h.blk.lt
  · exact h.o1.lt hk
  · exact h.o2.lt hk
theorem RTurn.fresh (f : Fresh w w') : RTurn w w' g v1 v2 v1 v2 := ⟨f.more (fun _ _ h => h.elim), fun _ h => .inl h⟩
theorem RTurn.after (f : Fresh w W) (t : RTurn W w' g v1 v2 v1' v2') : RTurn w w' g v1 v2 v1' v2' :=
  ⟨(f.more (fun _ _ h => h.elim)).trans t.keep, fun k hk => (t.later k hk).imp id (fun h => Nat.le_trans f.size h)⟩
theorem RTurn.two (t : RTurn w W g v1 v2 v1' v2') (u : RTurn W w' g v1' v2' v1'' v2'') : RTurn w w' g v1 v2 v1'' v2'' := by
  refine ⟨t.keep.step u.keep (fun i hi hf => (t.later i hf).elim id (fun h => absurd hi (by omega))), fun k hk => ?_⟩
  rcases u.later k hk with h | h
  · exact t.later k h
  · exact .inr (Nat.le_trans t.keep.size h)
/-- both lists stored anew -/
theorem RQ.put (h : RQ w g v1 v2 R) (f : Fresh w w3) (o1 : OwnS w3 44 7 v1' R'.length (cells (evs R'))) (o2 : OwnS w3 4 1 v2' R'.length (bools R')) (n1 : ∀ k, v1'.ownBlock = some k → w.heap.size ≤ k) (n2 : ∀ k, v2'.ownBlock = some k → w.heap.size ≤ k) :
    RQ ((w3.setCell ⟨g, 0, none⟩ v1').setCell ⟨g, 1, none⟩ v2') g v1' v2' R' ∧ RTurn w ((w3.setCell ⟨g, 0, none⟩ v1').setCell ⟨g, 1, none⟩ v2') g v1 v2 v1' v2' := by
  have b3 := f.blk_ h.blk
  have b4 := b3.set_ 0 v1'
  have b5 := b4.set_ 1 v2'
  have hlt := h.blk.lt
  have m1 : v1'.ownBlock ≠ some g := fun he => by have := n1 g he; omega
  have m2 : v2'.ownBlock ≠ some g := fun he => by have := n2 g he; omega
  refine ⟨⟨by simpa using b5, (o1.far (p := ⟨g, 0, none⟩) m1 v1').far (p := ⟨g, 1, none⟩) m1 v2', (o2.far (p := ⟨g, 0, none⟩) m2 v1').far (p := ⟨g, 1, none⟩) m2 v2'⟩, ⟨?_, fun k hk => ?_⟩⟩
  · exact ((f.more (fun _ _ h => h.elim)).setCell (p := ⟨g, 0, none⟩) (fun _ => .inl rfl) v1').setCell (p := ⟨g, 1, none⟩) (fun _ => .inl rfl) v2'
  · rcases hk with rfl | hk | hk
    · exact .inl (.inl rfl)
    · exact .inr (n1 k hk)
    · exact .inr (n2 k hk)
end
/-- what antis answers -/
def RAntisP (l : List Ev) (w : World) (e : Ending) (w' : World) : Prop :=
  ∃ v s, e = .returned v ∧ SrtS s ∧ s.Perm l ∧ OwnS w' 46 8 v s.length (rcells (s.map (fun e => (e, true)))) ∧ Fresh w w' ∧ ∀ k, v.ownBlock = some k → w.heap.size ≤ k
structure AntI (w : World) (s : List Ev) (i : Nat) (v : Value) (wr : World) : Prop where
  f : Fresh w wr
  o : OwnS wr 46 8 v i (rcells ((s.take i).map (fun e => (e, true))))
  n : ∀ k, v.ownBlock = some k → w.heap.size ≤ k
set_option maxHeartbeats 4000000 in
set_option maxRecDepth 100000 in
theorem rantis_any (v : Value) (l : List Ev) (w : World) (hv : EvAt w v l) (hl : l.length ≤ 100000) :
    Calls Try.prog 64 #[v] w (RAntisP l w) := by
  have HS := Lib.hid (sLtsort_any v l w hv hl)
  obtain ⟨A, c, rfl, hv⟩ := hv
  clear hv
  obtain ⟨i1, hi1, hy0, hy1, hy2⟩ := info_parts info_msg
  have h08 : Hid (0 < 8) := Lib.hid (by omega)
  go_enter Try.func64, Try.ntmps64
  go_wp2_with fail
  refine HS.out.mono ?_
  rintro e w1 ⟨v1, s, rfl, hs1, hp1, o1, f1, n1⟩
  obtain ⟨A1, c1, rfl, hc1, hm1⟩ := o1.shape
  have hm1 : c1 ≤ 9223372036854775807 := by unfold maxLen at hm1; omega
  have O1 := Lib.hid o1
  have F1 := Lib.hid f1
  have SP := Lib.hid (And.intro hs1 hp1)
  have hsl : s.length ≤ 100000 := by rw [hp1.length_eq]; exact hl
  clear o1 f1 n1 hs1 hp1 HS
  go_wp2_with fail
  go_loopg [3, 5] s.length (fun gk u3 u5 wr => ∃ (i : Nat) (v : Value), i ≤ s.length ∧ gk = s.length - i ∧ u3 = v ∧ u5 = .int .i64 i ∧ AntI w1 s i v wr)
  case atStart => exact ⟨0, _, by omega, rfl, rfl, rfl, ⟨Keep.refl _ _, by rw [List.take_zero]; exact OwnS.nil _ _ _, by simp [Value.ownBlock]⟩⟩
  case round =>
    obtain ⟨i, v, hi, rfl, rfl, rfl, hI⟩ := hrel
    have HI := Lib.hid hI
    obtain ⟨A3, c3, rfl, hc3, hm3⟩ := hI.o.shape
    clear hI
    by_cases hlt : i < s.length
    · obtain ⟨y, hy⟩ : ∃ y, s[i]? = some y := ⟨_, List.getElem?_eq_getElem hlt⟩
      obtain ⟨g3, off3, _, hv3, hg3, _, _, hcc⟩ := (O1.out.fresh HI.out.f).form (by omega)
      injection hv3 with e1 e2 e3
      subst e1 e3
      obtain ⟨y0, y1, y2, y3, y4, y5, y6⟩ := cells_at s i y hy
      have y0 := hcc _ _ y0
      have y1 := hcc _ _ y1
      have y2 := hcc _ _ y2
      have y3 := hcc _ _ y3
      have y4 := hcc _ _ y4
      have y5 := hcc _ _ y5
      have y6 := hcc _ _ y6
      rw [← Nat.add_assoc] at y1 y2 y3 y4 y5 y6
      have HT : Hid ((s.take (i + 1)).map (fun e => (e, true)) = (s.take i).map (fun e => (e, true)) ++ [(y, true)]) := Lib.hid (by rw [List.take_add_one, hy]; simp)
      have S2 : Hid (Src (wr.alloc (.cells #[.int .i64 y.a, .int .i64 y.s, .int .i64 y.t, .int .i64 y.n, .int .i64 y.d, .int .i64 y.k, .int .i64 y.x, .bool true] 46)) 8 (.slice (some ⟨wr.heap.size, 0, none⟩) 1 1) 1 (rcells [(y, true)])) := Lib.hid (Src.one_new wr 46 8 #[.int .i64 y.a, .int .i64 y.s, .int .i64 y.t, .int .i64 y.n, .int .i64 y.d, .int .i64 y.k, .int .i64 y.x, .bool true] rfl)
      have g1 : i + 1 ≤ maxLen := one_le_maxLen (by omega)
      have g2 : (i + 1) * 64 ≤ 140737488355328 := by omega
      clear hcc hy e2
      go_wp2_with (at_builtin; refine wpList_append_OwnS _ rfl (.tmp 14) (.tmp 20) 27 rfl 46 i1 (.agg #[.int .i64 0, .int .i64 0, .int .i64 0, .int .i64 0, .int .i64 0, .int .i64 0, .int .i64 0, .bool false]) 8 64 Try.underlying27 hi1 hy0 hy1 hy2 rfl h08.out (.slice A3 i c3) i (rcells ((s.take i).map (fun e => (e, true)))) rfl (HI.out.o.alloc _) (.slice (some ⟨wr.heap.size, 0, none⟩) 1 1) 1 (rcells [(y, true)]) rfl S2.out (rcells_one _) g1 g2 ?_; intro v4 w4 o4 k4 n4; rw [← rcells_append] at o4; obtain ⟨A4, cap4, rfl, hc4, hm4⟩ := o4.shape; have f4 := (HI.out.f.alloc (.cells #[.int .i64 y.a, .int .i64 y.s, .int .i64 y.t, .int .i64 y.n, .int .i64 y.d, .int .i64 y.k, .int .i64 y.x, .bool true] 46)).step k4 (fun q hq e => by have := HI.out.n q e; omega); have N4 : Hid (∀ q, (Value.slice A4 (i + 1) cap4).ownBlock = some q → w1.heap.size ≤ q) := Lib.hid (fun q hq => by have h1 := n4 q hq; have h2 := HI.out.f.size; exact h1.elim (fun h => HI.out.n q h) (fun h => by simp at h; omega)); have O4 := Lib.hid o4; have F4 := Lib.hid f4; clear o4 k4 n4 f4)
      go_roundg (s.length - (i + 1))
      case measure => omega
      case rel => exact ⟨i + 1, _, by omega, rfl, rfl, by go_num, ⟨F4.out, by rw [HT.out]; exact O4.out, N4.out⟩⟩
    · obtain rfl : i = s.length := by omega
      have o := HI.out.o
      rw [List.take_length] at o
      have HO := Lib.hid o
      clear o
      go_wp2_with fail
      go_ret
      exact ⟨_, s, rfl, SP.out.1, SP.out.2, HO.out, F1.out.step HI.out.f (fun _ _ h => h), fun k hk => by have := HI.out.n k hk; have := F1.out.size; omega⟩
end Go.Proofs.Ytbplomnoapndnaa
