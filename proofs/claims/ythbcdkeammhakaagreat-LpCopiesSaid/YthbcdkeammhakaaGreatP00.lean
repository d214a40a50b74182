/- Chapter 13: Kit. -/
import Derived.WalkKit
import Derived.WalkSpells
import Derived.ProofKit
import Derived.OpenShut
import Derived.ChangeOld
import Derived.Below
import Derived.Carry
import Derived.Deep.Slices
import Derived.Deep.Draws
import Derived.Lib.Hide
import Derived.SizedLaws
import Derived.ChangeCalls
set_option maxRecDepth 100000
set_option maxHeartbeats 16000000
namespace Go.Proofs.YthbcdkeammhakaaGreat
open Go.ChangeShapes Go.WideShapes Go.ChangeAt Go.RowKit Go.Deep
def All2 {α β : Type} (R : α → β → Prop) : List α → List β → Prop
 | [], [] => True
 | a :: as, b :: bs => R a b ∧ All2 R as bs
 | _, _ => False
theorem All2.append {α β : Type} {R : α → β → Prop} : ∀ {a : List α} {x : List β} {b : List α} {y : List β}, All2 R a x → All2 R b y → All2 R (a ++ b) (x ++ y)
 | [], [], _, _, _, h => h
 | _ :: _, _ :: _, _, _, h, h' => ⟨h.1, All2.append h.2 h'⟩
 | [], _ :: _, _, _, h, _ => h.elim
 | _ :: _, [], _, _, h, _ => h.elim
section
variable (P : Program)
def flat : Nat → TypeId → List TypeId
 | 0, t => [t]
 | n + 1, t => match P.underlying t with
  | some (.struct fs) => fs.toList.flatMap fun f => flat n f.type
  | some (.array k e) => (List.replicate k (flat n e)).flatten
  | _ => [t]
def fieldsOk (ok : TypeId → Bool) : Nat → List Field → Bool
 | _, [] => true
 | off, f :: fs => f.offset == off && ok f.type && fieldsOk ok (off + P.cellsOf f.type) fs
def flatOk : Nat → TypeId → Bool
 | 0, t => match P.underlying t with
  | some (.struct _) => false
  | some (.array _ _) => false
  | _ => true
 | n + 1, t => match P.underlying t with
  | some (.struct fs) => fieldsOk P (fun t => flatOk n t && P.cellsOf t == (flat P n t).length) 0 fs.toList && P.cellsOf t == (fs.toList.map fun f => P.cellsOf f.type).sum
  | some (.array k e) => flatOk n e && P.cellsOf e == (flat P n e).length && P.cellsOf t == k * P.cellsOf e
  | _ => true
end
def Leaf {H : Type} (enc : TypeId × Value → H) (P : Program) (w : World) (t : TypeId) (v : Value) : Prop :=
 ∃ (m : Nat) (y : DataW H × List MemPlace), DataW.trod enc P w 0 (fun _ => true) true m t [v] = some y
section
variable {H : Type} {enc : TypeId × Value → H} {P : Program} {w : World}
theorem leaf_of {t : TypeId} {fuel : Nat} {cs : List Value} {x : DataW H × List MemPlace} (hs : ∀ fs, P.underlying t ≠ some (.struct fs)) (ha : ∀ n e, P.underlying t ≠ some (.array n e))
  (h : DataW.trod enc P w 0 (fun _ => true) true fuel t cs = some x) : ∃ v, cs = [v] := by
 cases fuel with
 | zero => simp [DataW.trod] at h
 | succ n =>
  unfold DataW.trod at h
  split at h <;> first | exact ⟨_, rfl⟩ | (exfalso; exact hs _ ‹_›) | (exfalso; exact ha _ _ ‹_›) | (simp at h)
theorem take_add' {α : Type} (l : List α) (a b o : Nat) : (l.drop o).take (a + b) = (l.drop o).take a ++ (l.drop (o + a)).take b := by
 rw [List.take_add, List.drop_drop]
theorem fields_flat {n : Nat} {ok : TypeId → Bool} {R : TypeId → Value → Prop} (cs : List Value) : ∀ (fs : List Field) (off : Nat), fieldsOk P ok off fs = true →
  (∀ f ∈ fs, All2 R (flat P n f.type) ((cs.drop f.offset).take (P.cellsOf f.type))) →
  All2 R (fs.flatMap fun f => flat P n f.type) ((cs.drop off).take ((fs.map fun f => P.cellsOf f.type).sum))
 | [], off, _, _ => by simp [All2]
 | f :: fs, off, hk, hf => by
  simp only [fieldsOk, Bool.and_eq_true, beq_iff_eq] at hk
  obtain ⟨⟨ho, _⟩, hr⟩ := hk
  have h1 := hf f (by simp)
  rw [ho] at h1
  have h2 := fields_flat cs fs _ hr (fun g hg => hf g (by simp [hg]))
  simp only [List.flatMap_cons, List.map_cons, List.sum_cons]
  rw [take_add']
  exact h1.append h2
theorem array_flat {R : TypeId → Value → Prop} (l : List TypeId) (c : Nat) (cs : List Value) : ∀ (k off : Nat),
  (∀ i, i < k → All2 R l ((cs.drop ((off + i) * c)).take c)) → All2 R (List.replicate k l).flatten ((cs.drop (off * c)).take (k * c))
 | 0, off, _ => by simp [All2]
 | k + 1, off, h => by
  have h1 := h 0 (by omega)
  have h2 := array_flat l c cs k (off + 1) (fun i hi => by have := h (i + 1) (by omega); rwa [show off + 1 + i = off + (i + 1) by omega])
  rw [List.replicate_succ, List.flatten_cons, show (k + 1) * c = c + k * c by rw [Nat.add_mul]; omega, take_add']
  rw [show off * c + c = (off + 1) * c by rw [Nat.add_mul]; omega]
  exact h1.append h2
theorem fieldsOk_mem {ok : TypeId → Bool} : ∀ (fs : List Field) (off : Nat), fieldsOk P ok off fs = true → ∀ f ∈ fs, ok f.type = true
 | [], _, _, f, hf => by simp at hf
 | g :: fs, off, hk, f, hf => by
  simp only [fieldsOk, Bool.and_eq_true, beq_iff_eq] at hk
  rcases List.mem_cons.1 hf with rfl | hf
  ·exact hk.1.2
  ·exact fieldsOk_mem fs _ hk.2 f hf
theorem trod_flat : ∀ (n : Nat) (t : TypeId), flatOk P n t = true → ∀ (fuel : Nat) (cs : List Value) (x : DataW H × List MemPlace),
  DataW.trod enc P w 0 (fun _ => true) true fuel t cs = some x → All2 (Leaf enc P w) (flat P n t) cs := by
 intro n
 induction n with
 | zero =>
  intro t hk fuel cs x h
  unfold flatOk at hk
  have hs : ∀ fs, P.underlying t ≠ some (.struct fs) := by intro fs e; rw [e] at hk; simp at hk
  have ha : ∀ n e, P.underlying t ≠ some (.array n e) := by intro n e e'; rw [e'] at hk; simp at hk
  obtain ⟨v, rfl⟩ := leaf_of hs ha h
  exact ⟨⟨fuel, x, h⟩, trivial⟩
 | succ n ih =>
  intro t hk fuel cs x h
  unfold flatOk at hk
  unfold flat
  split at hk
  ·next fs hfs =>
   try rw [hfs]
   simp only [Bool.and_eq_true, beq_iff_eq] at hk
   obtain ⟨hk1, hk2⟩ := hk
   obtain ⟨xs, m, _, _, hlen, hxs, hf⟩ := DataW.trod_struct hfs h
   have hall : ∀ f ∈ fs.toList, All2 (Leaf enc P w) (flat P n f.type) ((cs.drop f.offset).take (P.cellsOf f.type)) := by
    intro f hfm
    obtain ⟨i, hi, rfl⟩ := List.mem_iff_getElem.1 hfm
    have hi' : i < fs.size := by simpa using hi
    have h1 := hf i fs[i] (by simp [hi'])
    have h2 : xs[i]? = some (xs[i]'(by omega)) := List.getElem?_eq_getElem (by omega)
    have hokf := fieldsOk_mem _ _ hk1 _ hfm
    simp only [Bool.and_eq_true] at hokf
    exact ih _ hokf.1 m _ _ (by simpa using h1.trans h2)
   have := fields_flat (R := Leaf enc P w) (n := n) cs fs.toList 0 hk1 hall
   simp only [List.drop_zero] at this
   rw [← hk2, List.take_of_length_le (by omega)] at this
   exact this
  ·next k e hfs =>
   try rw [hfs]
   simp only [Bool.and_eq_true, beq_iff_eq] at hk
   obtain ⟨⟨hk1, hk2⟩, hk3⟩ := hk
   obtain ⟨xs, m, _, _, hlen, hxs, hf⟩ := DataW.trod_array hfs h
   have := array_flat (R := Leaf enc P w) (flat P n e) (P.cellsOf e) cs k 0 (fun i hi => by
    have h1 := hf i hi
    have h2 : xs[i]? = some (xs[i]'(by omega)) := List.getElem?_eq_getElem (by omega)
    rw [Nat.zero_add]
    exact ih _ hk1 m _ _ (h1.trans h2))
   simp only [Nat.zero_mul, List.drop_zero] at this
   rw [← hk3, List.take_of_length_le (by omega)] at this
   exact this
  ·next h1 h2 =>
   obtain ⟨v, rfl⟩ := leaf_of (fun fs e => h1 fs e) (fun k e e' => h2 k e e') h
   exact ⟨⟨fuel, x, h⟩, trivial⟩
theorem Leaf.int {t : TypeId} {v : Value} {k : IntKind} (ht : P.underlying t = some (.int k)) (h : Leaf enc P w t v) : ∃ n, v = .int k n ∧ (Lit.int k n).wf = true := by
 obtain ⟨m, y, h⟩ := h
 obtain ⟨n, hc, _, hw⟩ := DataW.trod_int ht h
 simp only [List.cons.injEq, and_true] at hc
 exact ⟨n, hc, hw⟩
theorem Leaf.bool {t : TypeId} {v : Value} (ht : P.underlying t = some .bool) (h : Leaf enc P w t v) : ∃ b, v = .bool b := by
 obtain ⟨m, y, h⟩ := h
 obtain ⟨n, hc, _⟩ := DataW.trod_bool ht h
 simp only [List.cons.injEq, and_true] at hc
 exact ⟨n, hc⟩
def SliceAt (w : World) (A : Option Addr) (size : Nat) (rows : List (List Value)) : Prop :=
 ∀ i, i < rows.length → ∃ b off, A = some ⟨b, off, none⟩ ∧ b < w.heap.size ∧ ∀ j u, (rows.getD i [])[j]? = some u → w.cell? ⟨b, off + i * size + j, none⟩ = some u
theorem leaf_slice {n : Nat} {t e : TypeId} {v : Value} (ht : P.underlying t = some (.slice e)) (hk : flatOk P n e = true) (hC : P.cellsOf e = (flat P n e).length) (hpos : 0 < P.cellsOf e) (h : Leaf enc P w t v) :
  ∃ (A : Option Addr) (len cap : Nat) (rows : List (List Value)), v = .slice A len cap ∧ rows.length = len ∧ len ≤ cap ∧ cap ≤ maxLen ∧ (∀ r ∈ rows, All2 (Leaf enc P w) (flat P n e) r) ∧ SliceAt w A (P.cellsOf e) rows := by
 obtain ⟨m, y, h⟩ := h
 rcases open_slice ht h with ⟨hcs, _⟩ | ⟨a, len, cap, m', k, D, Pl, hcs, _, hl, hm, hmm, _, hi⟩
 ·simp only [List.cons.injEq, and_true] at hcs
  exact ⟨none, 0, 0, [], hcs, rfl, Nat.le_refl _, Nat.zero_le _, by simp, fun i hi => by simp at hi⟩
 ·simp only [List.cons.injEq, and_true] at hcs
  have hm' : len ≤ m' := by rw [hmm]; simpa using hl
  have hrow : ∀ i, i < len → ∃ cs', w.cells? 0 (a.add (i * P.cellsOf e)) (P.cellsOf e) = some cs' ∧ All2 (Leaf enc P w) (flat P n e) cs' := fun i hlt => by
   obtain ⟨cs', h1, h2⟩ := hi i (by omega)
   exact ⟨cs', h1, trod_flat n e hk _ _ _ h2⟩
  let rows : List (List Value) := (List.range len).map fun i => (w.cells? 0 (a.add (i * P.cellsOf e)) (P.cellsOf e)).getD []
  refine ⟨some a, len, cap, rows, hcs, by simp [rows], hl, hm, ?_, ?_⟩
  ·intro r hr
   simp only [rows, List.mem_map, List.mem_range] at hr
   obtain ⟨i, hlt, rfl⟩ := hr
   obtain ⟨cs', h1, h2⟩ := hrow i hlt
   rw [h1]; exact h2
  ·intro i hlt
   have hlt' : i < len := by simpa [rows] using hlt
   obtain ⟨cs', h1, h2⟩ := hrow i hlt'
   have hget : rows.getD i [] = cs' := by
    simp [rows, List.getD_eq_getElem?_getD, hlt', h1]
   rw [hget]
   obtain ⟨_, hcl, hat⟩ := World.cells?_some h1
   have hone : ∀ j u, cs'[j]? = some u → w.cell? ((a.add (i * P.cellsOf e)).add j) = some u := by
    intro j u hu
    have hj : j < P.cellsOf e := by
     have := (List.getElem?_eq_some_iff.1 hu).1
     omega
    rw [hat j hj, hu]
   have hspot : a.spot = none := by
    obtain ⟨cs0, h10, _⟩ := hrow 0 (by omega)
    obtain ⟨_, hcl0, hat0⟩ := World.cells?_some h10
    have hne : cs0[0]? = some (cs0[0]'(by omega)) := List.getElem?_eq_getElem (by omega)
    have := (hat0 0 hpos).trans hne
    simpa [Addr.add] using World.cell?_spot this
   obtain ⟨b, off, spot⟩ := a
   simp only at hspot
   subst hspot
   refine ⟨b, off, rfl, ?_, ?_⟩
   ·have hne : cs'[0]? = some (cs'[0]'(by omega)) := List.getElem?_eq_getElem (by omega)
    have := World.block_lt_of_cell? w _ (hone 0 _ hne)
    unfold Addr.add at this
    split at this <;> split at this <;> exact this
   ·intro j u hu
    have := hone j u hu
    unfold Addr.add at this
    by_cases h0 : i * P.cellsOf e = 0
    ·by_cases hj0 : j = 0
     ·simpa [h0, hj0] using this
     ·simpa [h0, hj0] using this
    ·by_cases hj0 : j = 0
     ·simpa [h0, hj0] using this
     ·simpa [h0, hj0] using this
theorem decode {α : Type} (f : α → List Value) (good : α → Prop) {ts : List TypeId} (dec : ∀ r, All2 (Leaf enc P w) ts r → ∃ a, r = f a ∧ good a) :
  ∀ rows : List (List Value), (∀ r ∈ rows, All2 (Leaf enc P w) ts r) → ∃ l : List α, rows = l.map f ∧ ∀ a ∈ l, good a
 | [], _ => ⟨[], rfl, by simp⟩
 | r :: rows, h => by
  obtain ⟨a, rfl, ha⟩ := dec r (h r (by simp))
  obtain ⟨l, rfl, hl⟩ := decode f good dec rows (fun r hr => h r (by simp [hr]))
  exact ⟨a :: l, rfl, by simpa using ⟨ha, hl⟩⟩
theorem arg_flat {n : Nat} {t : TypeId} {v : Value} {d : DataW H} {p : List MemPlace} (hk : flatOk P n t = true) (h : DataW.Trod enc P w 0 (fun _ => true) true t v d p) : All2 (Leaf enc P w) (flat P n t) v.cells.toList := by
 obtain ⟨fuel, hf⟩ := h
 exact trod_flat n t hk fuel _ _ hf
end
theorem trodAll_below {H : Type} {enc : TypeId × Value → H} {P : Program} (hl : laidOutB P = true) {W W' : World} (hb : Below W.heap.size W W') : ∀ {ts : List TypeId} {vs : List Value} {ds : List (DataW H)} {ps : List MemPlace},
  ts.all (fun t => P.readableRec t && decide (t < P.types.size)) = true → DataW.TrodAll enc P W 0 (fun _ => true) true ts vs ds ps → (∀ x ∈ ps, x.block < W.heap.size) →
  DataW.TrodAll enc P W' 0 (fun b => decide (b < W.heap.size)) true ts vs ds ps
 | [], vs, ds, ps, _, h, _ => by
  obtain ⟨rfl, rfl, rfl⟩ := trodAll_nil h
  exact trodAll_mk0
 | t :: ts, vs, ds, ps, hr, h, hlt => by
  obtain ⟨v, vs', d, ds', p, q, rfl, rfl, rfl, h0, r0⟩ := trodAll_cons h
  simp only [List.all_cons, Bool.and_eq_true, decide_eq_true_eq] at hr
  refine trodAll_cons_mk (Below.trod hl hr.1.1 hr.1.2 h0 hb (fun x hx => hlt x (by simp [hx]))) (trodAll_below hl hb (by simpa using hr.2) r0 (fun x hx => hlt x (by simp [hx])))
def Law (P : Program) (f : FuncId) (args : Array Value) (W : World) : Prop :=
 Calls P f args W fun e w' => e = .returned (.bool true) ∧ Below W.heap.size W w'
theorem law_lifted {C : Checked} {f : FuncId} {fn : Func} {s : ChangeSpec} {tb : TypeId} {apart : Bool} {os : Os} {H : Type} {enc : TypeId × Value → H}
  (own : ownKnob C.prog.godebug = none) (laid : laidOutB C.prog = true) (started : os.Started) (noInit : C.prog.inits.idxOf? f = none) (hfn : C.prog.funcs[f]? = some fn)
  (hvars : s.vars = []) (hspec : ∀ ds : List (DataW H), ds.length = fn.params.size → s.fn H ds = { results := [.lit (.bool true)], args := ds })
  (hres : fn.resultTypes = #[tb]) (htb : C.prog.underlying tb = some .bool)
  (hpar : fn.params.toList.all (fun t => C.prog.readableRec t && decide (t < C.prog.types.size)) = true)
  (witness : ∃ (w : World) (tape : Tape) (i : Input), w.os = os ∧ (w.forCall tape i).Shaped C.prog ∧ i.vars = [] ∧ Input.okWide C.prog (w.forCall tape i) .any w.heap.size f i ∧
   s.pre6 enc C.prog fn [] apart (w.forCall tape i).memory i.args ∧ ({} : Assume).holds C.prog (lone (Frame.enter C.prog f i.args .normal) [] (w.forCall tape i)))
  (walk : ∀ (W : World) (base : Nat) (args : Array Value) (ds : List (DataW H)) (ps : List MemPlace),
   (∀ (j : Nat) t v, fn.params[j]? = some t → args[j]? = some v → Value.okWide C.prog W .any base t v) →
   DataW.TrodAll enc C.prog W 0 (fun _ => true) true fn.params.toList args.toList ds ps →
   (DataW.weightsEach C.prog fn.params.toList ds).all (· ≤ reachBytes) = true → Law C.prog f args W) :
  ReturnsInHanded {} C os f .any (s.pre6 enc C.prog fn [] apart) (s.post enc C.prog fn apart true false false) := by
 refine returnsInHanded_of_change_sized own started noInit hfn witness ?_
 intro W base args ds gs before hval hW _ hsz _
 have hW' := hW
 obtain ⟨p, q, hA, hV, rfl, hfz, hnd⟩ := hW
 rw [hvars] at hV
 obtain ⟨rfl, rfl⟩ := trodVars_none hV
 have hlt : ∀ x ∈ p, x.block < W.heap.size := fun x hx => hA.lt x hx
 have hsz' : (DataW.weightsEach C.prog fn.params.toList ds).all (· ≤ reachBytes) = true := by
  simpa [ChangeSpec.plain, DataSpec.varTypes, hvars] using hsz
 refine (walk W base args ds p hval hA hsz').mono fun e W' ⟨he, bel⟩ => ?_
 have hlen : ds.length = fn.params.size := by
  have := (trodAll_length hA).2
  simpa using this
 have hsp := hspec ds hlen
 refine ⟨.bool true, he, ds, [], p ++ [], [], p, [], hW', ?_, ?_, ?_, bel.frame _, fun h => by cases h⟩
 ·rw [List.append_nil, hsp, hres]
  exact trodAll_mk1 (shut_bool htb true)
 ·rw [List.append_nil, hsp]
  exact trodAll_below laid bel hpar hA hlt
 ·rw [hvars, List.append_nil, hsp]
  exact rfl
def Blk (w : World) (g : Nat) (t : TypeId) (cs : Array Value) : Prop := w.heap[g]? = some (.cells cs t (0, 0))
structure Keep (S : Nat → Prop) (w w' : World) : Prop where
 os : w'.os = w.os
 tape : w'.tape = w.tape
 output : w'.output = w.output
 size : w.heap.size ≤ w'.heap.size
 block : ∀ k, k < w.heap.size → ¬ S k → w'.heap[k]? = w.heap[k]?
section
variable {w w' w'' : World} {g : Nat} {t : TypeId} {cs : Array Value} {S S' : Nat → Prop}
theorem Blk.lt (h : Blk w g t cs) : g < w.heap.size := (Array.getElem?_eq_some_iff.1 h).1
theorem Blk.cell (h : Blk w g t cs) (i : Nat) : w.cell? ⟨g, i, none⟩ = cs[i]? := cell_of_row w g i cs t (0, 0) h
theorem Blk.cell_ (h : Blk w g t cs) (i : Nat) {v : Value} (hv : cs[i]? = some v) : w.cell? ⟨g, i, none⟩ = some v := (h.cell i).trans hv
theorem Blk.frozen (h : Blk w g t cs) (i : Nat) : w.frozen? ⟨g, i, none⟩ = false := by
 unfold Blk at h
 simp [World.frozen?, h]
theorem Blk.new (w : World) (t : TypeId) (cs : Array Value) : Blk (w.alloc (.cells cs t)) w.heap.size t cs := heap_alloc_new w _
theorem Blk.at_new {n : Nat} (hn : n = w.heap.size) (t : TypeId) (cs : Array Value) : Blk (w.alloc (.cells cs t)) n t cs := by subst hn; exact heap_alloc_new w _
theorem Blk.drew (h : Blk w g t cs) : Blk w.drew g t cs := h
theorem Blk.drewN (h : Blk w g t cs) (n : Nat) : Blk (w.drewN n) g t cs := h
theorem Blk.alloc (h : Blk w g t cs) (o : Obj) : Blk (w.alloc o) g t cs := (Below.heap_alloc w o g h.lt).trans h
theorem Blk.set_ (h : Blk w g t cs) (i : Nat) (u : Value) : Blk (w.setCell ⟨g, i, none⟩ u) g t (cs.setIfInBounds i u) := by
 unfold Blk at h ⊢
 simp [World.setCell, Array.getElem?_modify, h]
theorem Blk.far (h : Blk w g t cs) {p : Addr} (hp : g ≠ p.block) (u : Value) : Blk (w.setCell p u) g t cs := (Below.heap_setCell w p u g hp).trans h
theorem Blk.keep (h : Blk w g t cs) (hk : Keep S w w') (hg : ¬ S g) : Blk w' g t cs := (hk.block g h.lt hg).trans h
theorem Blk.below {B : Nat} (h : Blk w g t cs) (hb : Below B w w') (hg : g < B) : Blk w' g t cs := (hb.block g hg).trans h
theorem Keep.refl (S : Nat → Prop) (w : World) : Keep S w w := ⟨rfl, rfl, rfl, Nat.le_refl _, fun _ _ _ => rfl⟩
theorem Keep.trans (h : Keep S w w') (k : Keep S w' w'') : Keep S w w'' :=
 ⟨k.os.trans h.os, k.tape.trans h.tape, k.output.trans h.output, Nat.le_trans h.size k.size, fun i hi hn => (k.block i (Nat.lt_of_lt_of_le hi h.size) hn).trans (h.block i hi hn)⟩
theorem Keep.more (h : Keep S w w') (hS : ∀ k, k < w.heap.size → S k → S' k) : Keep S' w w' := ⟨h.os, h.tape, h.output, h.size, fun i hi hn => h.block i hi (fun hs => hn (hS i hi hs))⟩
theorem Keep.step (h : Keep S w w') (k : Keep S' w' w'') (hS : ∀ i, i < w.heap.size → S' i → S i) : Keep S w w'' :=
 ⟨k.os.trans h.os, k.tape.trans h.tape, k.output.trans h.output, Nat.le_trans h.size k.size, fun i hi hn => (k.block i (Nat.lt_of_lt_of_le hi h.size) (fun hs => hn (hS i hi hs))).trans (h.block i hi hn)⟩
theorem Keep.drew (h : Keep S w w') : Keep S w w'.drew := ⟨h.os, h.tape, h.output, h.size, h.block⟩
theorem Keep.drewN (h : Keep S w w') (n : Nat) : Keep S w (w'.drewN n) := ⟨h.os, h.tape, h.output, h.size, h.block⟩
theorem Keep.alloc (h : Keep S w w') (o : Obj) : Keep S w (w'.alloc o) :=
 ⟨h.os, h.tape, h.output, Nat.le_trans h.size (by simp), fun i hi hn => (Below.heap_alloc w' o i (Nat.lt_of_lt_of_le hi h.size)).trans (h.block i hi hn)⟩
theorem Keep.setCell (h : Keep S w w') {p : Addr} (hp : p.block < w.heap.size → S p.block) (u : Value) : Keep S w (w'.setCell p u) :=
 ⟨h.os, h.tape, h.output, by simpa [World.setCell] using h.size, fun i hi hn => (Below.heap_setCell w' p u i (by rintro rfl; exact hn (hp hi))).trans (h.block i hi hn)⟩
theorem Keep.of_below {B : Nat} (h : Below B w w') (hB : ∀ k, k < w.heap.size → B ≤ k → S k) : Keep S w w' := ⟨h.os, h.tape, h.output, h.size, fun i hi hn => h.block i (by
 rcases Nat.lt_or_ge i B with h1 | h1
 ·exact h1
 ·exact absurd (hB i hi h1) hn)⟩
theorem Keep.of_grown {row : Option Nat} (h : w.grownBy w' row) (hr : ∀ k, row = some k → k < w.heap.size → S k) : Keep S w w' := ⟨h.os, h.tape, h.output, h.size, fun i hi hn => h.block i hi (fun e => hn (hr i e.symm hi))⟩
theorem Keep.below {B : Nat} (h : Keep S w w') (hB : B ≤ w.heap.size) (hS : ∀ k, k < B → ¬ S k) : Below B w w' := ⟨h.os, h.tape, h.output, h.size, fun i hi => h.block i (Nat.lt_of_lt_of_le hi hB) (hS i hi)⟩
theorem Keep.cell (h : Keep S w w') {p : Addr} (hp : p.block < w.heap.size) (hn : ¬ S p.block) : w'.cell? p = w.cell? p := World.cell?_of_block (h.block p.block hp hn)
abbrev Fresh (w w' : World) : Prop := Keep (fun _ => False) w w'
theorem Fresh.below_ {B : Nat} (h : Fresh w w') (hB : B ≤ w.heap.size) : Below B w w' := Keep.below h hB (fun _ _ h => h)
theorem Fresh.cell_ (h : Fresh w w') {p : Addr} {v : Value} (hc : w.cell? p = some v) : w'.cell? p = some v := (Keep.cell h (World.block_lt_of_cell? w p hc) (fun h => h)).trans hc
theorem Fresh.blk_ (h : Fresh w w') (hb : Blk w g t cs) : Blk w' g t cs := hb.keep h (fun h => h)
end
section
variable {H : Type} {enc : TypeId × Value → H} {P : Program} {w : World}
theorem all2_nil {l : List Value} (h : All2 (Leaf enc P w) [] l) : l = [] := by
 cases l with
 | nil => rfl
 | cons v vs => exact h.elim
theorem all2_cons {t : TypeId} {ts : List TypeId} {l : List Value} (h : All2 (Leaf enc P w) (t :: ts) l) : ∃ v vs, l = v :: vs ∧ Leaf enc P w t v ∧ All2 (Leaf enc P w) ts vs := by
 cases l with
 | nil => exact h.elim
 | cons v vs => exact ⟨v, vs, rfl, h.1, h.2⟩
theorem all2_int {t : TypeId} {k : IntKind} (ht : P.underlying t = some (.int k)) {ts : List TypeId} {l : List Value} (h : All2 (Leaf enc P w) (t :: ts) l) :
  ∃ n vs, l = .int k n :: vs ∧ (Lit.int k n).wf = true ∧ All2 (Leaf enc P w) ts vs := by
 obtain ⟨v, vs, rfl, h1, h2⟩ := all2_cons h
 obtain ⟨n, rfl, hw⟩ := h1.int ht
 exact ⟨n, vs, rfl, hw, h2⟩
theorem all2_bool {t : TypeId} (ht : P.underlying t = some .bool) {ts : List TypeId} {l : List Value} (h : All2 (Leaf enc P w) (t :: ts) l) :
  ∃ b vs, l = .bool b :: vs ∧ All2 (Leaf enc P w) ts vs := by
 obtain ⟨v, vs, rfl, h1, h2⟩ := all2_cons h
 obtain ⟨n, rfl⟩ := h1.bool ht
 exact ⟨n, vs, rfl, h2⟩
theorem arg_struct {n : Nat} {t : TypeId} {fs : Array Field} {v : Value} {d : DataW H} {p : List MemPlace} {r : Reach} {b : Nat} (ht : P.underlying t = some (.struct fs)) (hk : flatOk P n t = true) (hv : Value.okWide P w r b t v)
  (h : DataW.Trod enc P w 0 (fun _ => true) true t v d p) : ∃ l : List Value, v = .agg l.toArray ∧ All2 (Leaf enc P w) (flat P n t) l := by
 obtain ⟨cs, rfl, _⟩ := okWide_struct ht hv
 exact ⟨cs.toList, by simp, by simpa [Value.cells] using arg_flat hk h⟩
theorem arg_slice {n : Nat} {t e : TypeId} {v : Value} {d : DataW H} {p : List MemPlace} {r : Reach} {b : Nat} (ht : P.underlying t = some (.slice e)) (hk : flatOk P n e = true) (hC : P.cellsOf e = (flat P n e).length) (hpos : 0 < P.cellsOf e) (hv : Value.okWide P w r b t v)
  (h : DataW.Trod enc P w 0 (fun _ => true) true t v d p) :
  ∃ (A : Option Addr) (len cap : Nat) (rows : List (List Value)), v = .slice A len cap ∧ rows.length = len ∧ len ≤ cap ∧ cap ≤ maxLen ∧ (∀ r ∈ rows, All2 (Leaf enc P w) (flat P n e) r) ∧ SliceAt w A (P.cellsOf e) rows := by
 obtain ⟨a0, len0, cap0, rfl⟩ := okWide_slice ht hv
 obtain ⟨fuel, hf⟩ := h
 exact leaf_slice ht hk hC hpos ⟨fuel, _, by simpa [Value.cells] using hf⟩
end
end Go.Proofs.YthbcdkeammhakaaGreat
