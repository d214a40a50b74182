/-
  slices.Insert of one event.
-/
import Derived.Test.YtbplomnoapndnaaDel
import Derived.Lib.Overlaps
import Derived.Lib.AppendZerosOnto
import Derived.Laws.CopyRow
import Derived.Shelf.Spec.SlicesInsert
namespace Go.Proofs.Ytbplomnoapndnaa
open Go.RowKit
attribute [local go_sem ↓] Go.wp_at_zero Go.wp_at_succ

theorem run_copy_evs (w : World) (ty : TypeId) (b o dLen dCap : Nat) (a : Addr) (sLen sCap : Nat) (cs : List Value)
    (hn : cs.length = Nat.min sLen dLen * 8) (hsrc : ∀ j v, cs[j]? = some v → w.cell? (a.add j) = some v) (hc : ∀ j, j < cs.length → (w.cell? ⟨b, o + j, none⟩).isSome = true) (hf : ∀ j, j < cs.length → w.frozen? ⟨b, o + j, none⟩ = false) (h1 : ∀ v ∈ cs, v.oneCell' = true) :
    (Builtin.copy_ #[69, 69] ty #[.slice (some ⟨b, o, none⟩) dLen dCap, .slice (some a) sLen sCap]).run Try.prog w = .ok (goInt (Nat.min sLen dLen : Nat)) (w.setCells b o cs) := by
  have hl := run_loadCells_list (P := Try.prog) w a cs hsrc
  have hst := run_storeCells_cells (P := Try.prog) b o cs 0 w (by simpa using hc) (by simpa using hf) h1
  obtain ⟨i0, hq, _, hi, _⟩ := info_parts info_rec
  rw [hn] at hl
  simp [Builtin.copy_, run_underlying Try.underlying69, Builtin.lenOf, Builtin.firstCells, sizeOf, typeInfo, hq, hi, hl, hst]

/-- what Insert leaves -/
def InsP (v : Value) (l : List Rec) (w : World) (e : Ending) (w' : World) : Prop :=
  ∃ v', e = .returned v' ∧ OwnS w' 79 8 v' l.length (rcells l) ∧ Keep (fun k => v.ownBlock = some k) w w' ∧ (∀ k, v'.ownBlock = some k → v.ownBlock = some k ∨ w.heap.size ≤ k)
set_option maxHeartbeats 1000000 in
set_option maxRecDepth 100000 in
theorem ins_end (v : Value) (gs : Nat) (l : List Rec) (x : Rec) (w : World) (ho : OwnS w 79 8 v l.length (rcells l)) (hb : Blk w gs 79 x.enc.toArray) (hl : l.length ≤ 100000) :
    Calls Try.prog 46 #[v, .int .i64 (l.length : Nat), .slice (some ⟨gs, 0, none⟩) 1 1] w (InsP v (l ++ [x]) w) := by
  obtain ⟨A, cap, rfl, hn, hm⟩ := ho.shape
  have hm : cap ≤ 9223372036854775807 := by unfold maxLen at hm; omega
  obtain ⟨i0, hi, hz0, hz1, hz2⟩ := info_parts info_rec
  have hO := Lib.hid ho
  have hsrc := Lib.hid ((OwnS.new_ (n := 1) (size := 8) hb rfl (by unfold maxLen; omega)).src)
  have h07 : Hid (0 < 8) := Lib.hid (by omega)
  have h1 : Hid (∀ u ∈ x.enc.toArray.toList, u.oneCell' = true) := Lib.hid (by have := rcells_one [x]; simpa [rcells] using this)
  have h63 := Lib.hid (show l.length + 1 ≤ maxLen by unfold maxLen; omega)
  have hby := Lib.hid (show (l.length + 1) * 64 ≤ 140737488355328 by omega)
  clear ho hb
  by_cases hq : cap = l.length
  · subst hq
    go_enter Try.func46, Try.ntmps46
    go_wp2_with (at_builtin; refine wpList_append_OwnS _ rfl (.tmp 23) (.tmp 24) 69 rfl 79 i0 _ 8 64 Try.underlying69 hi hz0 hz1 hz2 rfl h07.out (.slice A l.length l.length) _ _ rfl hO.out _ _ _ rfl hsrc.out h1.out h63.out hby.out ?_; rintro v' w1 own kp lt)
    all_goals go_ret
    all_goals exact ⟨_, rfl, by rw [List.length_append, rcells_append]; simpa [rcells] using own, kp, lt⟩
  · go_enter Try.func46, Try.ntmps46
    go_wp2_with (at_builtin; refine wpList_append_OwnS _ rfl (.tmp 23) (.tmp 24) 69 rfl 79 i0 _ 8 64 Try.underlying69 hi hz0 hz1 hz2 rfl h07.out (.slice A l.length cap) _ _ rfl hO.out _ _ _ rfl hsrc.out h1.out h63.out hby.out ?_; rintro v' w1 own kp lt)
    all_goals go_ret
    all_goals exact ⟨_, rfl, by rw [List.length_append, rcells_append]; simpa [rcells] using own, kp, lt⟩
theorem seg1 {i n : Nat} {xs A B C : List Value} (hi : i ≤ n) (hA : A.length = i * 8) (hB : B.length = 8) (hC : C.length = (n - i) * 8) (hx : xs.length = (n + 1) * 8) (ht : xs.take (i * 8) = A) :
    (xs.take (i * 8) ++ B ++ xs.drop (i * 8 + B.length)).take ((i + 1) * 8) ++ C ++ (xs.take (i * 8) ++ B ++ xs.drop (i * 8 + B.length)).drop ((i + 1) * 8 + C.length) = A ++ B ++ C := by
  rw [ht, List.take_append_of_le_length (by rw [List.length_append]; omega), List.take_of_length_le (by rw [List.length_append]; omega)]
  rw [List.drop_of_length_le (by rw [List.length_append, List.length_append, List.length_drop, hx, hC, hB, hA]; omega), List.append_nil]
theorem seg2 {i n : Nat} {xs A B C : List Value} (hi : i ≤ n) (_hA : A.length = i * 8) (hB : B.length = 8) (hC : C.length = (n - i) * 8) (hx : xs.length = (n + 1) * 8) (ht : xs.take (i * 8) = A) :
    (xs.take ((i + 1) * 8) ++ C ++ xs.drop ((i + 1) * 8 + C.length)).take (i * 8) ++ B ++ (xs.take ((i + 1) * 8) ++ C ++ xs.drop ((i + 1) * 8 + C.length)).drop (i * 8 + B.length) = A ++ B ++ C := by
  have h1 : (xs.take ((i + 1) * 8)).length = (i + 1) * 8 := by rw [List.length_take, hx]; omega
  have h0 : xs.drop ((i + 1) * 8 + C.length) = [] := List.drop_of_length_le (by rw [hx, hC]; omega)
  rw [h0, List.append_nil, List.take_append_of_le_length (by rw [h1]; omega), List.take_take, show min (i * 8) ((i + 1) * 8) = i * 8 by omega, ht, hB, show i * 8 + 8 = (i + 1) * 8 by omega]
  rw [List.drop_append_of_le_length (by rw [h1]; omega), List.drop_of_length_le (by rw [h1]; omega), List.nil_append]

set_option maxHeartbeats 4000000 in
set_option maxRecDepth 100000 in
theorem ins_shift (b off cap gs i : Nat) (l : List Rec) (x : Rec) (w : World) (ho : OwnS w 79 8 (.slice (some ⟨b, off, none⟩) l.length cap) l.length (rcells l)) (hb : Blk w gs 79 x.enc.toArray) (hne : gs ≠ b) (hl : l.length ≤ 100000) (hi : i < l.length) (hroom : l.length + 1 ≤ cap) :
    Calls Try.prog 46 #[.slice (some ⟨b, off, none⟩) l.length cap, .int .i64 (i : Nat), .slice (some ⟨gs, 0, none⟩) 1 1] w (InsP (.slice (some ⟨b, off, none⟩) l.length cap) (l.take i ++ x :: l.drop i) w) := by
  obtain ⟨hlc, hrow⟩ := ho
  obtain ⟨cur, hcur, hcm, hfit, hcells⟩ : ∃ cur : Array Value, w.heap[b]? = some (.cells cur 79 (0, 0)) ∧ cap ≤ maxLen ∧ off + cap * 8 ≤ cur.size ∧ ∀ j u, (rcells l)[j]? = some u → cur[off + j]? = some u := by
    rcases hrow with ⟨h0, _⟩ | ⟨g', off', cap', cur, hv, hg, h1, h2, h3, h4⟩
    · cases h0
    · injection hv with hv1 hv2 hv3
      injection hv1 with hv1
      injection hv1 with e1 e2 _
      subst e1 e2 hv3
      exact ⟨cur, hg, h2, h3, h4⟩
  obtain ⟨n, hn⟩ : ∃ n, l.length = n := ⟨_, rfl⟩
  rw [hn] at hi hl hroom hlc ⊢
  obtain ⟨xs, hxs⟩ : ∃ xs, xs = (cur.toList.drop off).take ((n + 1) * 8) := ⟨_, rfl⟩
  have hxl : xs.length = (n + 1) * 8 := by rw [hxs, List.length_take, List.length_drop, Array.length_toList]; omega
  have hxc : ∀ j u, xs[j]? = some u → cur[off + j]? = some u := fun j u hu => by
    rw [hxs, List.getElem?_take] at hu
    split at hu
    · rw [List.getElem?_drop] at hu; simpa using hu
    · cases hu
  have hO1 : OwnS w 79 8 (.slice (some ⟨b, off, none⟩) (n + 1) cap) (n + 1) xs := ⟨hxl, .inr ⟨b, off, cap, cur, rfl, hcur, hroom, hcm, hfit, hxc⟩⟩
  have ht : xs.take (i * 8) = rcells (l.take i) := by
    rw [← rcells_take]
    apply List.ext_getElem?
    intro j
    rw [List.getElem?_take, List.getElem?_take]
    split
    · rename_i hj
      have h1 : j < (rcells l).length := by rw [hlc]; omega
      rw [List.getElem?_eq_getElem h1]
      have := hcells j _ (List.getElem?_eq_getElem h1)
      rw [hxs, List.getElem?_take, if_pos (by omega), List.getElem?_drop]
      simpa using this
    · rfl
  obtain ⟨C, hC⟩ : ∃ C, C = rcells (l.drop i) := ⟨_, rfl⟩
  have hCl : C.length = (n - i) * 8 := by rw [hC, rcells_length, List.length_drop, hn]
  have hBl : x.enc.length = 8 := rfl
  obtain ⟨W1, hW1⟩ : ∃ W1, W1 = w.drew.setCells b (off + (i + 1) * 8) C := ⟨_, rfl⟩
  have O1 := OwnS.sets C _ _ ((i + 1) * 8) hO1.drew (by rw [hxl, hCl]; omega)
  rw [← hW1] at O1
  have O2 := OwnS.sets x.enc _ _ (i * 8) O1 (by rw [O1.len, hBl]; omega)
  rw [seg2 (by omega) (by rw [rcells_length, List.length_take]; omega) hBl hCl hxl ht] at O2
  have K2 : Keep (fun k => (Value.slice (some ⟨b, off, none⟩) n cap).ownBlock = some k) w (W1.setCells b (off + i * 8) x.enc) := by
    rw [hW1]
    exact (((Keep.refl (fun k => k = b) w).drew.trans (keep_setCells b _ _ _)).trans (keep_setCells b _ _ _)).more (fun k _ hk => by simp [Value.ownBlock, hk])
  have hll : (l.take i ++ x :: l.drop i).length = n + 1 := by simp; omega
  have hcc : rcells (l.take i ++ x :: l.drop i) = rcells (l.take i) ++ x.enc ++ C := by rw [rcells_append, hC]; simp [rcells]
  have FIN : Hid (InsP (.slice (some ⟨b, off, none⟩) n cap) (l.take i ++ x :: l.drop i) w (.returned (.slice (some ⟨b, off, none⟩) (n + 1) cap)) (W1.setCells b (off + i * 8) x.enc)) :=
    Lib.hid ⟨_, rfl, by rw [hll, hcc]; exact O2, K2, fun k hk => .inl hk⟩
  have hfz : ∀ j, w.frozen? ⟨b, j, none⟩ = false := fun j => by simp [World.frozen?, hcur]
  have hsp : ∀ j, j < (n + 1) * 8 → (w.cell? ⟨b, off + j, none⟩).isSome = true := fun j hj => by
    rw [cell_of_row w b _ cur _ (0, 0) hcur, Array.getElem?_eq_getElem (by omega)]; rfl
  have hcs : ∀ j u, (rcells l)[j]? = some u → w.cell? ⟨b, off + j, none⟩ = some u := fun j u hu => by rw [cell_of_row w b _ cur _ (0, 0) hcur]; exact hcells j u hu
  have hsa : w.shape? gs = some (79, 8) := by
    have : w.heap[gs]? = some (.cells x.enc.toArray 79 (0, 0)) := hb
    simp [World.shape?, this, Rec.enc]
  have hsb : w.shape? b = some (79, cur.size) := by simp [World.shape?, hcur]
  have hov : ∀ lb cb, (callFunc 62 #[.slice (some ⟨gs, 0, none⟩) 1 1, .slice (some ⟨b, off + (i + 1) * 8, none⟩) lb cb]).run Try.prog w = .ok (.value (.bool false)) w := fun lb cb => by
    rw [run_callFunc_extern Try.func62 (by kernel_rfl) (by kernel_rfl) (by kernel_rfl) (e := Extern.SlicesOverlaps.overlaps #[69, 69] #[4]) (by kernel_rfl),
      Lib.run_overlaps_apart w 69 4 79 Try.underlying69 8 (fun _ => by kernel_rfl) ⟨gs, 0, none⟩ ⟨b, off + (i + 1) * 8, none⟩ 1 1 lb cb hne _ _ _ _ hsa hsb (by omega) (hb.frozen _) (hb.frozen _)]
    rfl
  have hcp1 : ∀ ty dc sc, (Builtin.copy_ #[69, 69] ty #[.slice (some ⟨b, off + (i + 1) * 8, none⟩) (n - i) dc, .slice (some ⟨b, off + i * 8, none⟩) (n + 1 - i) sc]).run Try.prog w.drew = .ok (goInt (Nat.min (n + 1 - i) (n - i) : Nat)) W1 := fun ty dc sc => by
    rw [hW1]
    exact run_copy_evs w.drew ty b _ _ dc ⟨b, off + i * 8, none⟩ _ sc C (by rw [hCl]; congr 1; simp only [Nat.min_def]; split <;> omega)
      (fun j v hj => by
        rw [Addr.add_lit, Nat.add_assoc]
        rw [hC, ← rcells_drop, List.getElem?_drop] at hj
        exact hcs _ v hj)
      (fun j hj => by rw [Nat.add_assoc]; exact hsp _ (by omega)) (fun j _ => hfz _) (by rw [hC]; exact rcells_one _)
  have hcp2 : ∀ ty dc, (Builtin.copy_ #[69, 69] ty #[.slice (some ⟨b, off + i * 8, none⟩) (n + 1 - i) dc, .slice (some ⟨gs, 0, none⟩) 1 1]).run Try.prog W1 = .ok (goInt (Nat.min 1 (n + 1 - i) : Nat)) (W1.setCells b (off + i * 8) x.enc) := fun ty dc =>
    run_copy_evs W1 ty b _ _ dc ⟨gs, 0, none⟩ 1 1 x.enc (by rw [hBl]; simp only [Nat.min_def]; split <;> omega)
      (fun j v hj => by
        rw [Addr.add_lit, hW1, World.cell?_setCells_out b _ _ _ _ (fun h _ => absurd h hne), Nat.zero_add]
        exact (hb.cell j).trans (by simpa using hj))
      (fun j hj => by
        obtain ⟨_, _, _, _, hc1⟩ := O1.at_
        rw [Nat.add_assoc, hc1 _ _ (List.getElem?_eq_getElem (by rw [O1.len]; omega))]
        rfl)
      (fun j _ => O1.at_.2.1 _) (by have := rcells_one [x]; simpa [rcells] using this)
  have hcm' : cap ≤ 9223372036854775807 := by unfold maxLen at hcm; omega
  have CP1 := Lib.hid hcp1
  have CP2 := Lib.hid hcp2
  have OV := Lib.hid hov
  have mixed : Try.prog.follows Departure.mixedOrders = true := by kernel_rfl
  have hw1 : IntKind.i64.wrap ((i : Int) + 1) = (i : Int) + 1 := by rw [IntKind.wrap_i64]; omega
  have hz2 : ¬ ((i : Int) = (n : Int)) := by omega
  have hb1 : (0 : Int) ≤ (i : Int) + 1 := by omega
  have hin : i ≤ n := by omega
  have htn : ((i : Int) + 1).toNat = i + 1 := by omega
  have hb2 : ¬ (cap = i + 1) := by omega
  have hb3 : (i : Int) ≤ (n : Int) + 1 := by omega
  have hb4 : ¬ (cap = i) := by omega
  clear hcp1 hcp2 hov hsb hsa hcs hsp hfz hcc hll K2 O2 O1 hBl hCl hC ht hO1 hxc hxl hxs hcells hfit hcur hrow hlc hb hne hW1 hcm
  go_enter Try.func46, Try.ntmps46
  go_wp2_with (simp only [OV.out])
  go_region_law_o (refine step_copy_runI rfl _ _ 69 69 rfl (.slice (some ⟨b, off + (i + 1) * 8, none⟩) (n - i) (cap - (i + 1))) (.slice (some ⟨b, off + i * 8, none⟩) (n + 1 - i) (cap - i)) ?hd ?hx (CP1.out 3 _ _) ?_; (case hd => (simp [Act.eval, Act.put])); (case hx => (simp [Act.eval, Act.put])))
  have cp2 := CP2.out
  go_wp2_with fail
  go_ret
  exact FIN.out

set_option maxHeartbeats 4000000 in
set_option maxRecDepth 100000 in
theorem ins_grow (b off cap gs i : Nat) (l : List Rec) (x : Rec) (w : World) (ho : OwnS w 79 8 (.slice (some ⟨b, off, none⟩) l.length cap) l.length (rcells l)) (hb : Blk w gs 79 x.enc.toArray) (hl : l.length ≤ 100000) (hi : i < l.length) (hroom : cap < l.length + 1) :
    Calls Try.prog 46 #[.slice (some ⟨b, off, none⟩) l.length cap, .int .i64 (i : Nat), .slice (some ⟨gs, 0, none⟩) 1 1] w (InsP (.slice (some ⟨b, off, none⟩) l.length cap) (l.take i ++ x :: l.drop i) w) := by
  have hlc := ho.len
  obtain ⟨hbw, _, hnc, hcm, hcs⟩ := ho.at_
  have hvw : gs < w.heap.size := hb.lt
  obtain ⟨n, hn⟩ : ∃ n, l.length = n := ⟨_, rfl⟩
  rw [hn] at hi hl hroom hlc hnc ⊢
  obtain ⟨i0, hi0, hz0, hzs, hzb⟩ := info_parts info_rec
  have hold : (Builtin.firstCells i0.size i (.slice (some ⟨b, off, none⟩) i cap)).run Try.prog w.drew = .ok (rcells (l.take i)).toArray w.drew := by
    rw [hzs]
    exact run_firstCells_some w.drew 8 i ⟨b, off, none⟩ i cap (rcells (l.take i)) (by rw [rcells_length, List.length_take]; simp only [Nat.min_def]; split <;> omega) (fun j v hj => by
      rw [Addr.add_lit]
      rw [← rcells_take, List.getElem?_take] at hj
      split at hj
      · exact hcs j v hj
      · cases hj)
  have hik : i + (n + 1 - i) = n + 1 := by omega
  have hkk : (n : Int) + 1 - (i : Int) = ((n + 1 - i : Nat) : Int) := by omega
  obtain ⟨G, hG⟩ : ∃ G, G = grownCap w (n + 1) cap 79 := ⟨_, rfl⟩
  obtain ⟨ROW, hROW⟩ : ∃ ROW : Array Value, ROW = (rcells (l.take i)).toArray ++ Builtin.zeroCells (Value.agg zrow.toArray).cells (n + 1 - i) ++ Builtin.zeroCells (Value.agg zrow.toArray).cells (G - (n + 1)) := ⟨_, rfl⟩
  have hrz : ∀ ty, (Builtin.append_ #[69, 3] ty #[.slice (some ⟨b, off, none⟩) i cap, .int .i64 ((n : Int) + 1 - (i : Int))]).run Try.prog w = .ok (.slice (some ⟨w.heap.size, 0, none⟩) (n + 1) G) (w.drew.alloc (.cells ROW 79)) := fun ty => by
    have h := Lib.run_append_grow_zeros (P := Try.prog) w 69 3 ty 79 i0 _ .i64 .i64 Try.underlying69 Try.underlying3 hi0 hz0 (some ⟨b, off, none⟩) i cap (rcells (l.take i)) hold (n + 1 - i) (by omega) (by omega) (by omega) (by omega) (by rw [hzb]; omega) (by rw [hzb, hik]; exact growslice_fits hroom (by omega))
    rw [hik, ← hG] at h
    rw [hkk, hROW]
    exact h
  have hGn : n + 1 ≤ G := by rw [hG]; exact grownCap_ge w _ _ _
  have hGm : G ≤ maxLen := by rw [hG]; exact grownCap_le_maxLen w (n + 1) cap 79 (by unfold maxLen; omega)
  have hz7 : (Value.agg zrow.toArray).cells.size = 8 := by kernel_rfl
  have hA0 : (rcells (l.take i)).length = i * 8 := by rw [rcells_length, List.length_take]; omega
  have hRs : ROW.size = G * 8 := by
    rw [hROW]
    simp only [Array.size_append, List.size_toArray, size_zeroCells, hz7, hA0]
    omega
  obtain ⟨W1, hW1⟩ : ∃ W1, W1 = w.drew.alloc (.cells ROW 79) := ⟨_, rfl⟩
  rw [← hW1] at hrz
  have hB1 : Blk W1 w.heap.size 79 ROW := by rw [hW1]; exact Blk.at_new (w := w.drew) rfl _ _
  obtain ⟨xs, hxs⟩ : ∃ xs, xs = ROW.toList.take ((n + 1) * 8) := ⟨_, rfl⟩
  have hxl : xs.length = (n + 1) * 8 := by rw [hxs, List.length_take, Array.length_toList]; omega
  have O0 : OwnS W1 79 8 (.slice (some ⟨w.heap.size, 0, none⟩) (n + 1) G) (n + 1) xs := ⟨hxl, .inr ⟨_, 0, G, ROW, rfl, hB1, hGn, hGm, by omega, fun j u hu => by
    rw [hxs, List.getElem?_take] at hu
    split at hu
    · simpa using hu
    · cases hu⟩⟩
  have ht : xs.take (i * 8) = rcells (l.take i) := by
    rw [hxs, List.take_take, show min (i * 8) ((n + 1) * 8) = i * 8 by omega, hROW, Array.toList_append, Array.toList_append, List.append_assoc, List.take_append_of_le_length (by rw [List.toList_toArray, hA0]; exact Nat.le_refl _), List.toList_toArray, ← hA0, List.take_length]
  obtain ⟨C, hC⟩ : ∃ C, C = rcells (l.drop i) := ⟨_, rfl⟩
  have hCl : C.length = (n - i) * 8 := by rw [hC, rcells_length, List.length_drop, hn]
  have hBl : x.enc.length = 8 := rfl
  obtain ⟨W2, hW2⟩ : ∃ W2, W2 = W1.setCells w.heap.size (i * 8) x.enc := ⟨_, rfl⟩
  have O1 := OwnS.sets x.enc _ _ (i * 8) O0 (by rw [hxl, hBl]; omega)
  rw [Nat.zero_add, ← hW2] at O1
  have O2 := OwnS.sets C _ _ ((i + 1) * 8) O1.drew (by rw [O1.len, hCl]; omega)
  rw [Nat.zero_add, seg1 (by omega) hA0 hBl hCl hxl ht] at O2
  have K2 : Keep (fun _ => False) w (W2.drew.setCells w.heap.size ((i + 1) * 8) C) := by
    have k1 : Keep (fun k => k = w.heap.size) w (W2.drew.setCells w.heap.size ((i + 1) * 8) C) := by
      rw [hW2, hW1]
      exact ((((((Keep.refl (fun k => k = w.heap.size) w).drew).alloc _).trans (keep_setCells w.heap.size _ _ _)).drew).trans (keep_setCells w.heap.size _ _ _))
    exact k1.more (fun k hk h => by omega)
  have hll : (l.take i ++ x :: l.drop i).length = n + 1 := by simp; omega
  have hcc : rcells (l.take i ++ x :: l.drop i) = rcells (l.take i) ++ x.enc ++ C := by rw [rcells_append, hC]; simp [rcells]
  have FIN : Hid (InsP (.slice (some ⟨b, off, none⟩) n cap) (l.take i ++ x :: l.drop i) w (.returned (.slice (some ⟨w.heap.size, 0, none⟩) (n + 1) G)) (W2.drew.setCells w.heap.size ((i + 1) * 8) C)) :=
    Lib.hid ⟨_, rfl, by rw [hll, hcc]; exact O2, K2.more (fun _ _ h => h.elim), fun k hk => .inr (by simp [Value.ownBlock] at hk; omega)⟩
  have hcp1 : ∀ ty dc, (Builtin.copy_ #[69, 69] ty #[.slice (some ⟨w.heap.size, i * 8, none⟩) (n + 1 - i) dc, .slice (some ⟨gs, 0, none⟩) 1 1]).run Try.prog W1 = .ok (goInt (Nat.min 1 (n + 1 - i) : Nat)) W2 := fun ty dc => by
    rw [hW2]
    exact run_copy_evs W1 ty w.heap.size _ _ dc ⟨gs, 0, none⟩ 1 1 x.enc (by rw [hBl]; simp only [Nat.min_def]; split <;> omega)
      (fun j v hj => by
        rw [Addr.add_lit, hW1, World.cell?_alloc_past (w := w.drew) _ gs _ hvw, Nat.zero_add]
        exact (hb.cell j).trans (by simpa using hj))
      (fun j hj => by
        obtain ⟨_, _, _, _, hc1⟩ := O0.at_
        have := hc1 _ _ (List.getElem?_eq_getElem (show i * 8 + j < xs.length by rw [hxl]; omega))
        rw [Nat.zero_add] at this
        rw [this]
        rfl)
      (fun j _ => O0.at_.2.1 _) (by have := rcells_one [x]; simpa [rcells] using this)
  have hcp2 : ∀ ty dc sc, (Builtin.copy_ #[69, 69] ty #[.slice (some ⟨w.heap.size, (i + 1) * 8, none⟩) (n - i) dc, .slice (some ⟨b, off + i * 8, none⟩) (n - i) sc]).run Try.prog W2.drew = .ok (goInt (Nat.min (n - i) (n - i) : Nat)) (W2.drew.setCells w.heap.size ((i + 1) * 8) C) := fun ty dc sc =>
    run_copy_evs W2.drew ty w.heap.size _ _ dc ⟨b, off + i * 8, none⟩ _ sc C (by rw [hCl]; congr 1; simp only [Nat.min_def]; split <;> omega)
      (fun j v hj => by
        rw [Addr.add_lit]
        show W2.cell? _ = _
        rw [hW2, World.cell?_setCells_out _ _ _ _ _ (fun h _ => absurd h (by simp only; omega)), hW1, World.cell?_alloc_past (w := w.drew) _ b _ hbw, Nat.add_assoc]
        rw [hC, ← rcells_drop, List.getElem?_drop] at hj
        exact hcs _ v hj)
      (fun j hj => by
        obtain ⟨_, _, _, _, hc1⟩ := O1.drew.at_
        have := hc1 _ _ (List.getElem?_eq_getElem (show (i + 1) * 8 + j < _ by rw [O1.len]; omega))
        rw [Nat.zero_add] at this
        rw [this]
        rfl)
      (fun j _ => O1.drew.at_.2.1 _) (by rw [hC]; exact rcells_one _)
  have hcm' : cap ≤ 9223372036854775807 := by unfold maxLen at hcm; omega
  have hGm' : G ≤ 9223372036854775807 := by unfold maxLen at hGm; omega
  have CP1 := Lib.hid hcp1
  have CP2 := Lib.hid hcp2
  have RZ := Lib.hid hrz
  have mixed : Try.prog.follows Departure.mixedOrders = true := by kernel_rfl
  have hw1 : IntKind.i64.wrap ((i : Int) + 1) = (i : Int) + 1 := by rw [IntKind.wrap_i64]; omega
  have hz2 : ¬ ((i : Int) = (n : Int)) := by omega
  have hz3 : (cap : Int) < (n : Int) + 1 := by omega
  have hb1 : (0 : Int) ≤ (i : Int) + 1 := by omega
  have hin : i ≤ n := by omega
  have htn : ((i : Int) + 1).toNat = i + 1 := by omega
  have hb2 : ¬ (G = i + 1) := by omega
  have hb3 : (i : Int) ≤ (n : Int) + 1 := by omega
  have hb4 : ¬ (G = i) := by omega
  have hb5 : ¬ (cap = i) := by omega
  clear hcp1 hcp2 hrz hcc hll K2 O2 O1 O0 hBl hCl hC ht hxl hxs hcs hb hW1 hW2 hcm hGm hRs hROW hG hold hik hkk hz0 hzs hzb hi0 hB1 hA0 hz7 hlc
  go_enter Try.func46, Try.ntmps46
  have cp1 := CP1.out
  go_wp2_with (at_builtin; refine Lib.wpList_append_run _ rfl _ _ 69 3 rfl (.slice (some ⟨b, off, none⟩) i cap) (.int .i64 ((n : Int) + 1 - (i : Int))) rfl rfl _ _ (RZ.out _) ?_)
  go_region_law_o (refine step_copy_runI rfl _ _ 69 69 rfl (.slice (some ⟨w.heap.size, (i + 1) * 8, none⟩) (n - i) (G - (i + 1))) (.slice (some ⟨b, off + i * 8, none⟩) (n - i) (cap - i)) ?hd ?hx (CP2.out 3 _ _) ?_; (case hd => (simp [Act.eval, Act.put])); (case hx => (simp [Act.eval, Act.put])))
  go_wp2_with fail
  go_ret
  exact FIN.out
end Go.Proofs.Ytbplomnoapndnaa
