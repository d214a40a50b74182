/-
  slab.Slab's All: the handles and the things as they were.
-/
import Derived.Test.YtdobhicjhgdhnaaNilIter
import Derived.Test.YtdobhicjhgdhnaaKeeps
import Derived.Deep.DeepCutAuto
namespace Go.Proofs.Ytdobhicjhgdhnaa
open Go.RowKit Go.Shelf

/-- what is live in the first k slots: the slot, its turn, the thing -/
def lv (l : List Sl) : Nat → List (Int × Int × Int)
  | 0 => []
  | k + 1 => lv l k ++ (match l[k]? with
    | some x => if x.c = 0 then [] else [((k : Int), x.t, x.v)]
    | none => [])
def lhs (L : List (Int × Int × Int)) : List (Int × Int) := L.map fun p => (p.1, p.2.1)
def lts (L : List (Int × Int × Int)) : List Int := L.map fun p => p.2.2
theorem lhs_len (L : List (Int × Int × Int)) : (lhs L).length = L.length := by simp [lhs]
theorem lts_len (L : List (Int × Int × Int)) : (lts L).length = L.length := by simp [lts]
theorem lv_skip {l : List Sl} {k : Nat} {x : Sl} (h : l[k]? = some x) (hc : x.c = 0) : lv l (k + 1) = lv l k := by
  simp only [lv, h, if_pos hc, List.append_nil]
theorem lv_take {l : List Sl} {k : Nat} {x : Sl} (h : l[k]? = some x) (hc : x.c ≠ 0) : lv l (k + 1) = lv l k ++ [((k : Int), x.t, x.v)] := by
  simp only [lv, h, if_neg hc]
theorem lv_len (l : List Sl) : ∀ k, (lv l k).length ≤ k
  | 0 => Nat.le_refl _
  | k + 1 => by
    have ih := lv_len l k
    cases h : l[k]? with
    | none => simp only [lv, h, List.append_nil]; omega
    | some x =>
      by_cases hc : x.c = 0
      · rw [lv_skip h hc]; omega
      · rw [lv_take h hc, List.length_append, List.length_singleton]; omega
theorem lv_pre (l : List Sl) (k : Nat) : ∀ j, lv l k <+: lv l (k + j)
  | 0 => List.prefix_refl _
  | j + 1 => (lv_pre l k j).trans ⟨_, rfl⟩
theorem lv_at {l : List Sl} {k n : Nat} {x : Sl} (h : l[k]? = some x) (hc : x.c ≠ 0) (hn : k < n) : (lv l n)[(lv l k).length]? = some ((k : Int), x.t, x.v) := by
  obtain ⟨m, hm⟩ := lv_pre l (k + 1) (n - (k + 1))
  rw [show k + 1 + (n - (k + 1)) = n by omega] at hm
  rw [← hm, lv_take h hc, List.append_assoc, List.getElem?_append_right (Nat.le_refl _), Nat.sub_self]
  rfl
theorem lv_count (l : List Sl) : ∀ k, k ≤ l.length → (lv l k).length = (l.take k).countP isLive
  | 0, _ => by simp [lv]
  | k + 1, hk => by
    have ih := lv_count l k (by omega)
    obtain ⟨x, hx⟩ : ∃ x, l[k]? = some x := ⟨_, List.getElem?_eq_getElem (by omega)⟩
    rw [List.take_add_one, hx, List.countP_append, ← ih]
    by_cases hc : x.c = 0
    · rw [lv_skip hx hc]
      simp [isLive, hc]
    · rw [lv_take hx hc]
      simp [isLive, hc]
theorem hcells_one' (L : List (Int × Int × Int)) (p : Int × Int × Int) : hcells (lhs (L ++ [p])) = hcells (lhs L) ++ hcells [(p.1, p.2.1)] := by
  rw [← hcells_append]
  simp [lhs]
theorem ints_one' (L : List (Int × Int × Int)) (p : Int × Int × Int) : ints (lts (L ++ [p])) = ints (lts L) ++ ints [p.2.2] := by
  simp [lts, ints]
/-- what All gathers -/
structure AInv (w : World) (hv tv : Value) (L1 L2 : List (Int × Int × Int)) (W : World) : Prop where
  f : Fresh w W
  b1 : Blk W w.heap.size 30 #[hv]
  b2 : Blk W (w.heap.size + 1) 29 #[tv]
  o1 : OwnS W 32 2 hv L1.length (hcells (lhs L1))
  o2 : OwnS W 3 1 tv L2.length (ints (lts L2))
  n1 : ∀ k, hv.ownBlock = some k → w.heap.size ≤ k
  n2 : ∀ k, tv.ownBlock = some k → w.heap.size ≤ k
section
variable {w W W' : World} {hv tv v' : Value} {L1 L2 : List (Int × Int × Int)} {p : Int × Int × Int}
theorem AInv.fresh (h : AInv w hv tv L1 L2 W) (f : Fresh W W') : AInv w hv tv L1 L2 W' := ⟨h.f.step f (fun _ _ h => h), f.blk_ h.b1, f.blk_ h.b2, h.o1.fresh f, h.o2.fresh f, h.n1, h.n2⟩
theorem AInv.app1 (h : AInv w hv tv L1 L2 W) (o : OwnS W' 32 2 v' (L1.length + 1) (hcells (lhs L1) ++ hcells [(p.1, p.2.1)])) (k : Keep (fun k => hv.ownBlock = some k) W W') (n : ∀ i, v'.ownBlock = some i → hv.ownBlock = some i ∨ W.heap.size ≤ i) : AInv w v' tv (L1 ++ [p]) L2 (W'.setCell ⟨w.heap.size, 0, none⟩ v') := by
  have b1 := h.b1.keep k (h.o1.ne_blk h.b1 (by decide))
  have b2 := h.b2.keep k (h.o1.ne_blk h.b2 (by decide))
  have o2 := h.o2.kept k (fun i hi he => h.o2.ne_own h.o1 (by decide) i hi he)
  refine ⟨Keep.setCell (p := ⟨w.heap.size, 0, none⟩) (h.f.step k (fun i hi he => by have := h.n1 i he; omega)) (fun he => by simp at he) _, by simpa using b1.set_ 0 v', b2.far (p := ⟨w.heap.size, 0, none⟩) (by simp) v', ?_, ?_, fun i hi => ?_, h.n2⟩
  · rw [hcells_one', List.length_append, List.length_singleton]
    exact o.far (p := ⟨w.heap.size, 0, none⟩) (o.ne_blk b1 (by decide)) v'
  · exact o2.far (p := ⟨w.heap.size, 0, none⟩) (o2.ne_blk b1 (by decide)) v'
  · rcases n i hi with h1 | h1
    · exact h.n1 i h1
    · have := h.f.size; omega
theorem AInv.app2 (h : AInv w hv tv L1 L2 W) (o : OwnS W' 3 1 v' (L2.length + 1) (ints (lts L2) ++ ints [p.2.2])) (k : Keep (fun k => tv.ownBlock = some k) W W') (n : ∀ i, v'.ownBlock = some i → tv.ownBlock = some i ∨ W.heap.size ≤ i) : AInv w hv v' L1 (L2 ++ [p]) (W'.setCell ⟨w.heap.size + 1, 0, none⟩ v') := by
  have b1 := h.b1.keep k (h.o2.ne_blk h.b1 (by decide))
  have b2 := h.b2.keep k (h.o2.ne_blk h.b2 (by decide))
  have o1 := h.o1.kept k (fun i hi he => h.o1.ne_own h.o2 (by decide) i hi he)
  refine ⟨Keep.setCell (p := ⟨w.heap.size + 1, 0, none⟩) (h.f.step k (fun i hi he => by have := h.n2 i he; omega)) (fun he => by simp at he; omega) _, b1.far (p := ⟨w.heap.size + 1, 0, none⟩) (by simp) v', by simpa using b2.set_ 0 v', ?_, ?_, h.n1, fun i hi => ?_⟩
  · exact o1.far (p := ⟨w.heap.size + 1, 0, none⟩) (o1.ne_blk b2 (by decide)) v'
  · rw [ints_one', List.length_append, List.length_singleton]
    exact o.far (p := ⟨w.heap.size + 1, 0, none⟩) (o.ne_blk b2 (by decide)) v'
  · rcases n i hi with h1 | h1
    · exact h.n2 i h1
    · have := h.f.size; omega
end
theorem src_new' (w : World) (b : Nat) (hb : b = w.heap.size) (e : TypeId) (size : Nat) (cs : Array Value) (h : cs.size = size) : Src (w.alloc (.cells cs e)) size (.slice (some ⟨b, 0, none⟩) 1 1) 1 cs.toList :=
  (OwnS.new_ (Blk.at_new hb e cs) (by omega) (by unfold maxLen; omega)).src
/-- what All answers -/
def AllP (l : List Sl) (w : World) (e : Ending) (w' : World) : Prop :=
  ∃ hv tv, e = .returned (.func (.func 34) #[] #[.pointer (some ⟨w.heap.size, 0, none⟩), .pointer (some ⟨w.heap.size + 1, 0, none⟩)]) ∧ AInv w hv tv (lv l l.length) (lv l l.length) w'
set_option maxRecDepth 100000 in
set_option maxHeartbeats 4000000 in
theorem all_any (g : Nat) (vs vf : Value) (s : St) (w : World) (h : SSlab w g vs vf s) (hl : s.l.length ≤ 100000) :
    Calls Try.prog 23 #[.pointer (some ⟨g, 0, none⟩)] w (AllP s.l w) := by
  obtain ⟨i0, hi, hz0, hz1, hz2⟩ := info_parts info_handle
  obtain ⟨i1, hi1, hy0, hy1, hy2⟩ := info_parts info_int
  have I0 : Hid (AInv w (.slice none 0 0) (.slice none 0 0) [] [] ((w.alloc (.cells #[.slice none 0 0] 30)).alloc (.cells #[.slice none 0 0] 29))) := Lib.hid ⟨((Keep.refl _ w).alloc _).alloc _, (Blk.new w _ _).alloc _, by simpa using Blk.new (w.alloc (.cells #[.slice none 0 0] 30)) 29 #[.slice none 0 0], OwnS.nil _ _ _, OwnS.nil _ _ _, by simp [Value.ownBlock], by simp [Value.ownBlock]⟩
  have HS := Lib.hid h
  obtain ⟨As, cs, rfl, hcs, hms⟩ := h.os.shape
  have hms : cs ≤ 9223372036854775807 := by unfold maxLen at hms; omega
  have cg := (h.fresh I0.out.f).blk.cell
  have lg := h.blk.lt
  clear h
  go_enter Try.func23, Try.ntmps23
  go_wp2_with fail
  obtain ⟨W0, hW0⟩ : ∃ W0, ((w.alloc (.cells #[.slice none 0 0] 30)).alloc (.cells #[.slice none 0 0] 29)) = W0 := ⟨_, rfl⟩
  rw [hW0] at I0 cg ⊢
  clear hW0
  go_loopg [14] s.l.length (fun gk u wr => ∃ (k : Nat) (hv tv : Value), k ≤ s.l.length ∧ gk = s.l.length - k ∧ u = .int .i64 k ∧ AInv w hv tv (lv s.l k) (lv s.l k) wr)
  case atStart => exact ⟨0, _, _, by omega, rfl, rfl, I0.out⟩
  case round =>
    obtain ⟨k, hv, tv, hk, rfl, rfl, hI⟩ := hrel
    have HI := Lib.hid hI
    have HSr := Lib.hid (HS.out.fresh hI.f)
    have cb1 := hI.b1.cell
    have lb1 := hI.b1.lt
    have fb1 := hI.b1.frozen
    have cb2 := hI.b2.cell
    have lb2 := hI.b2.lt
    have fb2 := hI.b2.frozen
    clear hI cg
    by_cases hlt : k < s.l.length
    · obtain ⟨x, hx⟩ : ∃ x, s.l[k]? = some x := ⟨_, List.getElem?_eq_getElem hlt⟩
      obtain ⟨g1, off, _, hv1, lg1, _, _, hcc⟩ := HSr.out.os.form (by omega)
      injection hv1 with e1 e2 e3
      subst e1 e3
      obtain ⟨q0, q1, q2⟩ := slots_at _ _ _ hx
      have q0 := hcc _ _ q0
      have q1 := hcc _ _ q1
      have q2 := hcc _ _ q2
      rw [← Nat.add_assoc] at q1 q2
      have HX := Lib.hid hx
      clear hcc hx e2
      by_cases hc : x.c = 0
      · have ec : (x.c == 0) = true := by simp [hc]
        have HC := Lib.hid hc
        clear hc
        go_wp2_with fail
        go_roundg (s.l.length - (k + 1))
        case measure => omega
        case rel =>
          refine ⟨k + 1, hv, tv, by omega, rfl, by go_num, ?_⟩
          rw [lv_skip HX.out HC.out]
          exact HI.out.fresh (by (repeat (first | (with_reducible exact Keep.refl _ _) | (with_reducible assumption) | (with_reducible refine Keep.drew ?_) | (with_reducible refine Keep.drewN ?_ _) | (with_reducible refine Keep.alloc ?_ _) | (with_reducible refine Keep.setCell ?_ ?_ _) | (with_reducible refine fun _ => rfl))))
      · have ec : (x.c == 0) = false := by simp [hc]
        have HC := Lib.hid hc
        clear hc
        obtain ⟨L, hL⟩ : ∃ L, lv s.l k = L := ⟨_, rfl⟩
        obtain ⟨m, hm⟩ : ∃ m, L.length = m := ⟨_, rfl⟩
        have hmk : m ≤ k := by rw [← hm, ← hL]; exact lv_len _ _
        have HL := Lib.hid hL
        have HM := Lib.hid hm
        rw [hL] at HI
        obtain ⟨A1, c1, rfl, hc1, hm1⟩ := HI.out.o1.shape
        obtain ⟨A2, c2, rfl, hc2, hm2⟩ := HI.out.o2.shape
        rw [hm] at cb1 cb2 HI hc1 hc2
        have O1 : Hid (OwnS wr 32 2 (.slice A1 m c1) m (hcells (lhs L))) := Lib.hid (by have := HI.out.o1; rw [hm] at this; exact this)
        have M1 : m + 1 ≤ maxLen := one_le_maxLen (by omega)
        have M2 : (m + 1) * 16 ≤ 140737488355328 := by omega
        have M3 : (m + 1) * 8 ≤ 140737488355328 := by omega
        have h02 : Hid (0 < 2) := Lib.hid (by omega)
        have h01 : Hid (0 < 1) := Lib.hid (by omega)
        have HA : Hid (AInv w (.slice A1 m c1) (.slice A2 m c2) L L ((wr.alloc (.cells #[.int .i64 x.c, .int .i64 x.t, .int .i64 x.v] 73)).alloc (.cells #[.int .i64 k, .int .i64 x.t] 32))) := Lib.hid (HI.out.fresh (((Keep.refl _ wr).alloc _).alloc _))
        have BX : Hid (Blk ((wr.alloc (.cells #[.int .i64 x.c, .int .i64 x.t, .int .i64 x.v] 73)).alloc (.cells #[.int .i64 k, .int .i64 x.t] 32)) wr.heap.size 73 #[.int .i64 x.c, .int .i64 x.t, .int .i64 x.v]) := Lib.hid ((Blk.new wr _ _).alloc _)
        have NX : Hid ((Value.slice A1 m c1).ownBlock ≠ some wr.heap.size) := Lib.hid (fun he => by have := O1.out.lt he; omega)
        have NE : Hid ((Value.slice A1 m c1).ownBlock ≠ some w.heap.size) := Lib.hid (HI.out.o1.ne_blk HI.out.b1 (by decide))
        clear hL hm
        go_upto_region 9 with (at_builtin; go_loud (refine wpList_append_OwnS _ rfl _ _ 30 rfl 32 i0 (.agg #[.int .i64 0, .int .i64 0]) 2 16 Try.underlying30 hi hz0 hz1 hz2 rfl h02.out (.slice A1 m c1) m (hcells (lhs L)) rfl ((O1.out.alloc _).alloc _) (.slice (some ⟨wr.heap.size + 1, 0, none⟩) 1 1) 1 (hcells [((k : Int), x.t)]) rfl (src_new' (wr.alloc (.cells #[.int .i64 x.c, .int .i64 x.t, .int .i64 x.v] 73)) (wr.heap.size + 1) (by simp) 32 2 #[.int .i64 k, .int .i64 x.t] rfl) (hcells_one _) M1 M2 ?_); intro v3 w3 o3 k3 n3; have b3 := HA.out.b1.keep k3 NE.out; have c3' := b3.cell; have f3' := b3.frozen; have l3' := b3.lt; have bx3 := BX.out.keep k3 NX.out; have cx3 := bx3.cell; have lx3 := bx3.lt; have O3 := Lib.hid o3; have K3 := Lib.hid k3; have N3 := Lib.hid n3; obtain ⟨A3, c3, rfl, _, _⟩ := o3.shape; clear o3 k3 n3 b3)
        have J1 := Lib.hid (HA.out.app1 (p := ((k : Int), x.t, x.v)) (by rw [HM.out]; exact O3.out) K3.out N3.out)
        have BX3 : Hid (Blk (w3.setCell ⟨w.heap.size, 0, none⟩ (.slice A3 (m + 1) c3)) wr.heap.size 73 #[.int .i64 x.c, .int .i64 x.t, .int .i64 x.v]) := Lib.hid ((BX.out.keep K3.out NX.out).far (p := ⟨w.heap.size, 0, none⟩) (by simp; omega) _)
        obtain ⟨W3, hW3⟩ : ∃ W3, w3.setCell ⟨w.heap.size, 0, none⟩ (.slice A3 (m + 1) c3) = W3 := ⟨_, rfl⟩
        rw [hW3] at J1 BX3 ⊢
        clear hW3 c3' f3' l3' cx3 lx3 cb1 lb1 fb1 cb2 lb2 fb2
        have cb2 := J1.out.b2.cell
        have lb2 := J1.out.b2.lt
        have fb2 := J1.out.b2.frozen
        have cx := BX3.out.cell
        have lx := BX3.out.lt
        have NE2 : Hid ((Value.slice A2 m c2).ownBlock ≠ some (w.heap.size + 1)) := Lib.hid (J1.out.o2.ne_blk J1.out.b2 (by decide))
        have O2 : Hid (OwnS W3 3 1 (.slice A2 m c2) m (ints (lts L))) := Lib.hid (by have := J1.out.o2; rw [HM.out] at this; exact this)
        have HA2 := Lib.hid (J1.out.fresh ((Keep.refl _ W3).alloc (.cells #[.int .i64 x.v] 3)))
        go_wp2_with (at_builtin; go_loud (refine wpList_append_OwnS _ rfl _ _ 29 rfl 3 i1 (.int .i64 0) 1 8 Try.underlying29 hi1 hy0 hy1 hy2 rfl h01.out (.slice A2 m c2) m (ints (lts L)) rfl (O2.out.alloc _) (.slice (some ⟨W3.heap.size, 0, none⟩) 1 1) 1 (ints [x.v]) rfl (Src.one_new W3 3 1 #[.int .i64 x.v] rfl) (ints_one _) M1 M3 ?_); intro v4 w4 o4 k4 n4; have b4 := HA2.out.b2.keep k4 NE2.out; have c4' := b4.cell; have f4' := b4.frozen; have l4' := b4.lt; have O4 := Lib.hid o4; have K4 := Lib.hid k4; have N4 := Lib.hid n4; obtain ⟨A4, c4, rfl, _, _⟩ := o4.shape; clear o4 k4 n4 b4)
        have J2 := HA2.out.app2 (p := ((k : Int), x.t, x.v)) (by rw [HM.out]; exact O4.out) K4.out N4.out
        go_roundg (s.l.length - (k + 1))
        case measure => omega
        case rel =>
          refine ⟨k + 1, .slice A3 (m + 1) c3, .slice A4 (m + 1) c4, by omega, rfl, by go_num, ?_⟩
          rw [lv_take HX.out HC.out, HL.out]
          exact J2
    · obtain rfl : k = s.l.length := by omega
      go_wp2_with fail
      go_ret
      exact ⟨_, _, rfl, HI.out⟩
/-- the things, their box and the handles lie as they lay -/
structure KpS (by_ gh gt : Nat) (A B : World) : Prop where
  b : KeepsB by_ 29 A B
  h : KeepsB gh 32 A B
  t : KeepsB gt 3 A B
theorem KpS.refl (by_ gh gt : Nat) (A : World) : KpS by_ gh gt A A := ⟨KeepsB.refl _ _ _, KeepsB.refl _ _ _, KeepsB.refl _ _ _⟩
theorem kpS_t {by_ gh gt : Nat} {A B C : World} (h : KpS by_ gh gt A B) (k : KpS by_ gh gt B C) : KpS by_ gh gt A C := ⟨h.b.trans k.b, h.h.trans k.h, h.t.trans k.t⟩
theorem kpS_b {by_ gh gt B : Nat} : ∀ (W : World) (l : Nat) (o o' : Obj), B ≤ l → W.heap[l]? = some o → o.isCells = false → o.isWalk = false → KpS by_ gh gt W (W.putObj l o') := fun W l o o' h1 h2 h3 h4 => ⟨keepsB_b W l o o' h1 h2 h3 h4, keepsB_b W l o o' h1 h2 h3 h4, keepsB_b W l o o' h1 h2 h3 h4⟩
theorem KpS.fresh {by_ gh gt : Nat} {A B C : World} (h : KpS by_ gh gt A B) (f : Fresh B C) : KpS by_ gh gt A C := kpS_t h ⟨KeepsB.of_keep f (fun h => h), KeepsB.of_keep f (fun h => h), KeepsB.of_keep f (fun h => h)⟩
/-- the block of a slice, if any -/
def bk (v : Value) : Nat := v.ownBlock.getD 0
theorem OwnS.keepsV {A B : World} {e : TypeId} {size n : Nat} {v : Value} {xs : List Value} (h : OwnS A e size v n xs) (hk : KeepsB (bk v) e A B) : OwnS B e size v n xs := by
  rcases h.2 with ⟨rfl, rfl⟩ | ⟨g, off, cap, cur, rfl, _⟩
  · exact ⟨h.1, .inl ⟨rfl, rfl⟩⟩
  · exact OwnS.keepsB h hk
theorem Blk.keepsB {A B : World} {b : Nat} {t : TypeId} {cs : Array Value} (h : Blk A b t cs) (k : KeepsB b t A B) : Blk B b t cs := k.2 cs h
/-- what a round takes -/
def enc (p : Int × Int × Int) : Array Value := #[.agg #[.int .i64 p.1, .int .i64 p.2.1], .int .i64 p.2.2]
theorem lhs_at {L : List (Int × Int × Int)} {k : Nat} {p : Int × Int × Int} (h : L[k]? = some p) : (hcells (lhs L))[k * 2]? = some (.int .i64 p.1) ∧ (hcells (lhs L))[k * 2 + 1]? = some (.int .i64 p.2.1) :=
  hcells_at (lhs L) k (p.1, p.2.1) (by rw [lhs, List.getElem?_map, h]; rfl)
theorem lts_at {L : List (Int × Int × Int)} {k : Nat} {p : Int × Int × Int} (h : L[k]? = some p) : (ints (lts L))[k]? = some (.int .i64 p.2.2) := by
  rw [ints, lts, List.getElem?_map, List.getElem?_map, h]; rfl
attribute [local go_sem] Oper.semAt_some
set_option maxRecDepth 100000 in
set_option maxHeartbeats 400000 in
theorem all1_in (n : Nat) (hn : 1 ≤ n) (lp bx by_ : Nat) (hv tv : Value) (L : List (Int × Int × Int)) (hlen : L.length ≤ 100000) (J Jx : List (Int × Int × Int) → World → Prop)
    (hJ : ∀ pre W (o : Obj), J pre W → J pre (W.alloc o).drew)
    (hY : ∀ pre x W, J pre W → pre.length < L.length → YieldAt Fence.wide (n - 1) Try.prog lp (enc x) W fun e W' =>
      (e = .returned (.bool true) ∧ J (pre ++ [x]) W' ∧ KpS by_ (bk hv) (bk tv) W W') ∨ (e = .returned (.bool false) ∧ Jx (pre ++ [x]) W'))
    (W : World) (hb : W.cell? ⟨bx, 0, none⟩ = some hv) (hb2 : Blk W by_ 29 #[tv]) (ho : OwnS W 32 2 hv L.length (hcells (lhs L))) (ht : OwnS W 3 1 tv L.length (ints (lts L))) (h0 : J [] W) :
    CallsIn Fence.wide n Try.prog 34 #[.func (.yield lp) #[] #[], .pointer (some ⟨bx, 0, none⟩), .pointer (some ⟨by_, 0, none⟩)] W fun e W' => (∃ v, e = .returned v) ∧
      ((∃ ys, ys = L ∧ J ys W') ∨ (∃ pre, pre <+: L ∧ Jx pre W')) := by
  have hmx : Try.prog.follows .mixedOrders = true := by kernel_rfl
  obtain ⟨A, cap, rfl, hnc, hmc⟩ := ho.shape
  have hmc : cap ≤ 9223372036854775807 := by unfold maxLen at hmc; omega
  obtain ⟨At, capt, rfl, hnt, hmt⟩ := ht.shape
  have hmt : capt ≤ 9223372036854775807 := by unfold maxLen at hmt; omega
  obtain ⟨g', hg'⟩ : ∃ g', bk (.slice A L.length cap) = g' := ⟨_, rfl⟩
  obtain ⟨g2, hg2⟩ : ∃ g2, bk (.slice At L.length capt) = g2 := ⟨_, rfl⟩
  rw [hg', hg2] at hY
  have HG := Lib.hid hg'
  have HG2 := Lib.hid hg2
  clear hg' hg2
  refine callsIn_of_wp Try.func34 rfl trivial ?_ rfl
  simp only [Try.ntmps34, List.size_toArray, List.length_cons, List.length_nil, Nat.reduceAdd, Nat.reduceSub, Array.replicate_succ, Array.replicate_zero, List.push_toArray, List.append_toArray, List.nil_append, List.cons_append]
  have HC := Lib.hid ho
  have HT := Lib.hid ht
  have HB := Lib.hid hb2
  clear ho ht hb2
  gi_wp2
  gi_loopw [8] (fun i wr => ∃ k : Nat, k ≤ L.length ∧ i = .int .i64 k ∧ J (L.take k) wr ∧ KpS by_ g' g2 W wr)
    (fun i _ => L.length - (intOf i).toNat)
  case atStart => exact ⟨0, Nat.zero_le _, rfl, by simpa using h0, KpS.refl _ _ _ _⟩
  case round =>
    obtain ⟨k, hk, rfl, hJs, hnx⟩ := hrel
    by_cases hlt : k < L.length
    · obtain ⟨p, hp⟩ : ∃ p, L[k]? = some p := ⟨_, List.getElem?_eq_getElem hlt⟩
      have htake : L.take k ++ [p] = L.take (k + 1) := by rw [List.take_add_one, hp]; rfl
      obtain ⟨g1, off, _, hv, hgl, _, _, hc⟩ := (OwnS.keepsV HC.out (HG.out.symm ▸ hnx.h)).form (by omega)
      injection hv with hv1 hv2 hv3
      subst hv1 hv3
      obtain ⟨t1, offt, _, hv, htl, _, _, ht⟩ := (OwnS.keepsV HT.out (HG2.out.symm ▸ hnx.t)).form (by omega)
      injection hv with hv1 hv2 hv3
      subst hv1 hv3
      have bb := HB.out.keepsB hnx.b
      have cb := bb.cell
      have lb := bb.lt
      have c0 := hc _ _ (lhs_at hp).1
      have c1 := hc _ _ (lhs_at hp).2
      have c2 := ht _ _ (lts_at hp)
      rw [← Nat.add_assoc] at c1
      obtain ⟨fn, tmps, assign, body, hy, hR⟩ := hY _ p _ (hJ _ _ (.cells #[.int .i64 p.1, .int .i64 p.2.1] 32) hJs) (by rw [List.length_take]; omega)
      have HX := Lib.hid (hnx.fresh (Keep.drew ((Keep.refl (fun _ => False) wr).alloc (.cells #[.int .i64 p.1, .int .i64 p.2.1] 32))))
      have HTK := Lib.hid htake
      have HR := Lib.hid (hR.mono (R' := fun e W' => ∃ b, e = .returned (.bool b) ∧ (b = true → J (L.take k ++ [p]) W' ∧ KpS by_ g' g2 (wr.alloc (.cells #[.int .i64 p.1, .int .i64 p.2.1] 32)).drew W') ∧ (b = false → Jx (L.take k ++ [p]) W')) (by
        rintro e W3 (⟨rfl, h1, h2⟩ | ⟨rfl, h1⟩)
        · exact ⟨true, rfl, (fun _ => ⟨h1, h2⟩), (fun h => by cases h)⟩
        · exact ⟨false, rfl, (fun h => by cases h), (fun _ => h1)⟩))
      clear hR hnx htake hp hJs hc ht
      unfold enc at hy
      gi_wp2_with fail
      gi_region_with_o (refine HR.out.mono ?_; rintro e W3 ⟨b, rfl, hb⟩)
      all_goals
        cases b
        · have HJ := Lib.hid (hb.2 rfl)
          clear hb
          gi_wp2
          refine bodyPost_ret (results_none rfl _ _ _) rfl ?_
          exact ⟨⟨_, rfl⟩, .inr ⟨_, by rw [HTK.out]; exact List.take_prefix _ _, HJ.out⟩⟩
        · have HJ := Lib.hid (hb.1 rfl)
          clear hb
          gi_wp2
          go_roundw
          case rel => exact ⟨k + 1, by omega, by simp, by rw [← HTK.out]; exact HJ.out.1, kpS_t HX.out HJ.out.2⟩
          case measure => simp [intOf]; omega
    · obtain rfl : k = L.length := by omega
      have HJ := Lib.hid hJs
      clear hJs
      gi_wp2
      go_end0
      exact ⟨⟨_, rfl⟩, .inl ⟨_, List.take_length, HJ.out⟩⟩
/-- what All hands back, as a loop takes it -/
theorem all_stops (n : Nat) (hn : 1 ≤ n) (bx by_ : Nat) (hv tv : Value) (L : List (Int × Int × Int)) (hlen : L.length ≤ 100000) (w : World)
    (hb : Blk w bx 30 #[hv]) (hb2 : Blk w by_ 29 #[tv]) (ho : OwnS w 32 2 hv L.length (hcells (lhs L))) (ht : OwnS w 3 1 tv L.length (ints (lts L))) :
    SeqStopsK Fence.wide n Try.prog 34 #[.pointer (some ⟨bx, 0, none⟩), .pointer (some ⟨by_, 0, none⟩)] enc (KpS by_ (bk hv) (bk tv)) (fun ys => ys = L) (fun pre => pre <+: L) L.length w := fun lp J Jx W hW hJ hJx hY h0 => by
  have hbW := hb.below hW hb.lt
  have hb2W := hb2.below hW hb2.lt
  have KK : Fresh w W := Keep.of_below (S := fun _ => False) hW (fun k h1 h2 => by omega)
  refine all1_in n hn lp bx by_ hv tv L hlen J Jx (fun pre X o hs => ?_) hY W (hbW.cell_ 0 rfl) hb2W (ho.kept KK (fun _ _ h => h)) (ht.kept KK (fun _ _ h => h)) h0
  have h1 := hJ pre X _ none hs (World.grownBy_alloc X o none) (fun r e => by cases e)
  exact hJ pre _ (X.alloc o).drew none h1 ⟨rfl, rfl, rfl, Nat.le_refl _, fun _ _ _ => rfl⟩ (fun r e => by cases e)
end Go.Proofs.Ytdobhicjhgdhnaa
