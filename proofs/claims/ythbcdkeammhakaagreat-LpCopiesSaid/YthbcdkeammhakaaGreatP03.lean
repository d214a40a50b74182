/- Chapter 13: PDel, PIns. -/
import Derived.Test.YthbcdkeammhakaaGreatP02
import Derived.Lib.Overlaps
import Derived.Lib.AppendZerosOnto
import Derived.Laws.CopyRow
import Derived.Shelf.Spec.SlicesInsert
set_option maxRecDepth 100000
set_option maxHeartbeats 16000000
namespace Go.Proofs.YthbcdkeammhakaaGreat
open Go.RowKit
attribute [local go_sem ↓] Go.wp_at_zero Go.wp_at_succ
theorem info_ev : (Tryz.prog.info? 41).map (fun i => (i.zero, i.size, i.bytes)) = some (some (.agg #[.int .i64 0, .int .i64 0, .int .i64 0, .int .i64 0, .int .i64 0, .int .i64 0, .int .i64 0]), 7, 56) := by kernel_rfl
theorem OwnS.sets {e : TypeId} {size n g off cap : Nat} : ∀ (news : List Value) (w : World) (xs : List Value) (k : Nat), OwnS w e size (.slice (some ⟨g, off, none⟩) n cap) n xs → k + news.length ≤ xs.length →
  OwnS (w.setCells g (off + k) news) e size (.slice (some ⟨g, off, none⟩) n cap) n (xs.take k ++ news ++ xs.drop (k + news.length))
 | [], w, xs, k, h, _ => by simpa [World.setCells] using h
 | v :: r, w, xs, k, h, hk => by
  have hk' : k < xs.length := by simp at hk; omega
  have h1 := h.set_ k v hk'
  have h2 := OwnS.sets r _ _ (k + 1) h1 (by simp at hk ⊢; omega)
  have e1 : (xs.set k v).take (k + 1) = xs.take k ++ [v] := by
   rw [List.take_add_one, List.getElem?_set_self hk', List.take_set_of_le (Nat.le_refl k)]
   rfl
  have e2 : (xs.set k v).drop (k + 1 + r.length) = xs.drop (k + (r.length + 1)) := by
   rw [List.drop_set_of_lt (by omega), show k + 1 + r.length = k + (r.length + 1) by omega]
  rw [e1, e2] at h2
  rw [List.length_cons, show xs.take k ++ v :: r = xs.take k ++ [v] ++ r by simp]
  exact h2
def zrow : List Value := [.int .i64 0, .int .i64 0, .int .i64 0, .int .i64 0, .int .i64 0, .int .i64 0, .int .i64 0]
def zs (m : Nat) : List Value := (Builtin.zeroCells (Value.agg zrow.toArray).cells m).toList
theorem zs_length (m : Nat) : (zs m).length = m * 7 := by
 unfold zs
 rw [Array.length_toList, size_zeroCells]
 rfl
theorem zs_one (m : Nat) : ∀ u ∈ zs m, u.oneCell' = true := by
 intro u hu
 simp only [zs, Builtin.zeroCells, Array.toList_map, List.mem_map] at hu
 obtain ⟨i, _, rfl⟩ := hu
 have hz : (Value.agg zrow.toArray).cells = #[.int .i64 0, .int .i64 0, .int .i64 0, .int .i64 0, .int .i64 0, .int .i64 0, .int .i64 0] := by kernel_rfl
 rw [hz]
 have h7 : i % 7 < 7 := Nat.mod_lt _ (by omega)
 show ((#[.int .i64 0, .int .i64 0, .int .i64 0, .int .i64 0, .int .i64 0, .int .i64 0, .int .i64 0] : Array Value)[i % 7]!).oneCell' = true
 generalize i % 7 = k at h7
 have : k = 0 ∨ k = 1 ∨ k = 2 ∨ k = 3 ∨ k = 4 ∨ k = 5 ∨ k = 6 := by omega
 rcases this with rfl | rfl | rfl | rfl | rfl | rfl | rfl <;> rfl
theorem run_clear_row (w : World) (ty : TypeId) (gs o m n : Nat) (hm : 0 < m) (h0 : ∀ j, j < m * 7 → (w.cell? ⟨gs, o + j, none⟩).isSome = true) (hf : ∀ i, w.frozen? ⟨gs, i, none⟩ = false) :
  (Builtin.clear_ #[24] ty #[.slice (some ⟨gs, o, none⟩) m n]).run Tryz.prog w = .ok (.tuple #[]) (w.setCells gs o (zs m)) := by
 have hz : ∀ w, (zeroValue 41).run Tryz.prog w = .ok (.agg zrow.toArray) w := fun _ => by kernel_rfl
 have hst := run_storeCells_cells (P := Tryz.prog) gs o (zs m) 0 w (by
  intro j hj
  rw [zs_length] at hj
  exact h0 j hj) (fun j _ => hf _) (zs_one m)
 simp only [Nat.add_zero] at hst
 unfold zs at hst
 obtain ⟨m, rfl⟩ : ∃ k, m = k + 1 := ⟨m - 1, by omega⟩
 simp [Builtin.clear_, run_underlying Tryz.underlying24, hz, hst, zs]
theorem del_j (g' off cap i j : Nat) (l : List Ev) (w : World) (ho : OwnS w 41 7 (.slice (some ⟨g', off, none⟩) l.length cap) l.length (cells l)) (hij0 : i < j) (hi : j ≤ l.length) (_hl : l.length ≤ 1000000) :
  Calls Tryz.prog 110 #[.slice (some ⟨g', off, none⟩) l.length cap, .int .i64 (i : Nat), .int .i64 (j : Nat)] w fun e w' => e = .returned (.slice (some ⟨g', off, none⟩) (i + (l.length - j)) cap) ∧ OwnS w' 41 7 (.slice (some ⟨g', off, none⟩) (i + (l.length - j)) cap) (i + (l.length - j)) (cells (l.take i ++ l.drop j)) ∧ Keep (fun k => k = g') w w' := by
 obtain ⟨lg, hfz, hnc, hcm, hcc⟩ := ho.at_
 have hcm' : cap ≤ 9223372036854775807 := by unfold maxLen at hcm; omega
 obtain ⟨n, hn⟩ : ∃ n, l.length = n := ⟨_, rfl⟩
 rw [hn] at ho hi hnc ⊢
 obtain ⟨news, hnews⟩ : ∃ news, news = cells (l.drop j) := ⟨_, rfl⟩
 have hlen : news.length = (n - j) * 7 := by rw [hnews, cells_length, List.length_drop, hn]
 obtain ⟨A, hA, hsrc⟩ : ∃ A : Addr, (if cap = j then some (⟨g', off, none⟩ : Addr) else some ⟨g', off + j * 7, none⟩) = some A ∧ Hid (∀ t u, news[t]? = some u → w.drew.cell? (A.add t) = some u) := by
  by_cases h : cap = j
  ·refine ⟨⟨g', off, none⟩, by simp [h], fun t u hu => ?_⟩
   have h0 : news.length = 0 := by rw [hlen]; omega
   rw [List.length_eq_zero_iff.1 h0] at hu
   simp at hu
  ·refine ⟨⟨g', off + j * 7, none⟩, by simp [h], fun t u hu => ?_⟩
   rw [Addr.add_lit]
   rw [hnews, ← cells_drop, List.getElem?_drop] at hu
   rw [show off + j * 7 + t = off + (j * 7 + t) by omega]
   exact hcc _ _ hu
 have s2 : Hid (∀ u ∈ news, u.oneCell' = true) := by rw [hnews]; exact cells_one _
 have hcl0 : (cells l).length = n * 7 := by rw [cells_length, hn]
 have s3 : Hid (∀ t, t < news.length → (w.drew.cell? ⟨g', off + i * 7 + t, none⟩).isSome = true ∧ w.drew.frozen? ⟨g', off + i * 7 + t, none⟩ = false) := by
  intro t ht
  rw [hlen] at ht
  have hlt : i * 7 + t < (cells l).length := by omega
  refine ⟨?_, hfz _⟩
  show (w.cell? _).isSome = true
  rw [show off + i * 7 + t = off + (i * 7 + t) by omega, hcc _ _ (List.getElem?_eq_getElem hlt)]
  rfl
 obtain ⟨W1, hW1⟩ : ∃ W1, W1 = w.drew.setCells g' (off + i * 7) news := ⟨_, rfl⟩
 have O1 : OwnS W1 41 7 (.slice (some ⟨g', off, none⟩) n cap) n ((cells l).take (i * 7) ++ news ++ (cells l).drop (i * 7 + news.length)) := by
  rw [hW1]
  exact OwnS.sets news _ _ (i * 7) ho.drew (by rw [hcl0, hlen]; omega)
 obtain ⟨m, hin⟩ : ∃ m, i + (n - j) = m := ⟨_, rfl⟩
 have hmn : m < n := by omega
 have hmj : n - m = j - i := by omega
 have K1 : Keep (fun k => k = g') w W1 := by
  rw [hW1]
  exact (Keep.refl _ w).drew.trans (keep_setCells g' _ _ _)
 have hcl : ∀ ty, (Builtin.clear_ #[24] ty #[.slice (some ⟨g', off + (i + (n - j)) * 7, none⟩) (n - (i + (n - j))) (cap - (i + (n - j)))]).run Tryz.prog W1 = .ok (.tuple #[]) (W1.setCells g' (off + (i + (n - j)) * 7) (zs (n - (i + (n - j))))) := fun ty =>
  run_clear_row W1 ty g' _ _ _ (by omega) (fun t ht => by
   obtain ⟨_, _, _, _, hc1⟩ := O1.at_
   have hlt : (i + (n - j)) * 7 + t < ((cells l).take (i * 7) ++ news ++ (cells l).drop (i * 7 + news.length)).length := by
    rw [O1.len, hin]; omega
   rw [Nat.add_assoc, hc1 _ _ (List.getElem?_eq_getElem hlt)]
   rfl) O1.at_.2.1
 have FIN : Hid (OwnS (W1.setCells g' (off + (i + (n - j)) * 7) (zs (n - (i + (n - j))))) 41 7 (.slice (some ⟨g', off, none⟩) (i + (n - j)) cap) (i + (n - j)) (cells (l.take i ++ l.drop j)) ∧ Keep (fun k => k = g') w (W1.setCells g' (off + (i + (n - j)) * 7) (zs (n - (i + (n - j)))))) := by
  refine ⟨?_, K1.trans (keep_setCells g' _ _ _)⟩
  have hl1 := O1.len
  have h2 := OwnS.sets (zs (n - (i + (n - j)))) _ _ ((i + (n - j)) * 7) O1 (by rw [hl1, zs_length]; omega)
  have h3 := h2.cut (lo := 0) (hi := m) (off' := off) (Nat.zero_le _) (by omega) (.inl (by omega))
  rw [Nat.sub_zero, Nat.sub_zero, Nat.zero_mul, List.drop_zero] at h3
  rw [hin] at h3 ⊢
  have e : (List.take (m * 7) ((cells l).take (i * 7) ++ news ++ (cells l).drop (i * 7 + news.length)) ++ zs (n - m) ++ List.drop (m * 7 + (zs (n - m)).length) ((cells l).take (i * 7) ++ news ++ (cells l).drop (i * 7 + news.length))).take (m * 7) = cells (l.take i ++ l.drop j) := by
   have hL : ((cells l).take (i * 7) ++ news).length = m * 7 := by
    rw [List.length_append, List.length_take, hlen, hcl0]; omega
   rw [List.append_assoc, List.take_append_of_le_length (by rw [List.length_take, hl1]; omega), List.take_take, Nat.min_self, ← hL, List.take_left, hnews, cells_take, ← cells_append]
  rw [e] at h3
  exact h3
 have hW : Hid (W1 = w.drew.setCells g' (off + i * 7) news) := hW1
 obtain ⟨i0, hi0, hz0, hz1, hz2⟩ := info_parts info_ev
 have s1 := Lib.hid hlen
 have hic : i ≤ cap := by omega
 have hjc : j ≤ cap := by omega
 have hjn : j ≤ n := by omega
 have hij : ((i : Int) == (j : Int)) = false := by rw [beq_eq_false_iff_ne]; omega
 have hij' : (i == j) = false := by rw [beq_eq_false_iff_ne]; omega
 have hroom : i + (n - j) ≤ cap := by omega
 have q1 : i + (n - j) ≤ n := by omega
 have q2 : ((cap : Nat) == i + (n - j)) = false := by rw [beq_eq_false_iff_ne]; omega
 have q3 : ¬ cap = i + (n - j) := by omega
 clear hW1 O1 K1 hnews hlen hcc ho hin hcl0 hcm hn hfz
 go_enter Tryz.func110, Tryz.ntmps110
 go_wp2_with fail
 go_region_law (refine step_append_room rfl (.tmp 22) (.tmp 25) 24 rfl 41 i0 7 Tryz.underlying24 hi0 hz1 g' off i cap (by simp [Act.eval, Act.put]) A (n - j) (cap - j) news (by simp [Act.eval, Act.put]) s1.out hsrc.out s2.out hroom s3.out ?_; rw [← hW.out])
 all_goals go_wp2_with fail
 all_goals go_ret
 all_goals exact ⟨rfl, FIN.out.1, FIN.out.2⟩
theorem del_same (A : Option Addr) (n cap i : Nat) (w : World) (hi : i ≤ n) (hc : n ≤ cap) (_hm : cap ≤ 9223372036854775807) :
  Calls Tryz.prog 110 #[.slice A n cap, .int .i64 (i : Nat), .int .i64 (i : Nat)] w fun e w' => e = .returned (.slice A n cap) ∧ Fresh w w' := by
 have hic : i ≤ cap := by omega
 go_enter Tryz.func110, Tryz.ntmps110
 go_wp2
 all_goals go_ret
 all_goals exact ⟨rfl, by (repeat (first | (with_reducible exact Keep.refl _ _) | (with_reducible assumption) | (with_reducible refine Keep.drew ?_) | (with_reducible refine Keep.drewN ?_ _) | (with_reducible refine Keep.alloc ?_ _) | (with_reducible refine Keep.setCell ?_ ?_ _) | (with_reducible refine fun _ => rfl)))⟩
end Go.Proofs.YthbcdkeammhakaaGreat
namespace Go.Proofs.YthbcdkeammhakaaGreat
open Go.RowKit
attribute [local go_sem ↓] Go.wp_at_zero Go.wp_at_succ
theorem run_copy_evs (w : World) (ty : TypeId) (b o dLen dCap : Nat) (a : Addr) (sLen sCap : Nat) (cs : List Value)
  (hn : cs.length = Nat.min sLen dLen * 7) (hsrc : ∀ j v, cs[j]? = some v → w.cell? (a.add j) = some v) (hc : ∀ j, j < cs.length → (w.cell? ⟨b, o + j, none⟩).isSome = true) (hf : ∀ j, j < cs.length → w.frozen? ⟨b, o + j, none⟩ = false) (h1 : ∀ v ∈ cs, v.oneCell' = true) :
  (Builtin.copy_ #[24, 24] ty #[.slice (some ⟨b, o, none⟩) dLen dCap, .slice (some a) sLen sCap]).run Tryz.prog w = .ok (goInt (Nat.min sLen dLen : Nat)) (w.setCells b o cs) := by
 have hl := run_loadCells_list (P := Tryz.prog) w a cs hsrc
 have hst := run_storeCells_cells (P := Tryz.prog) b o cs 0 w (by simpa using hc) (by simpa using hf) h1
 obtain ⟨i0, hq, _, hi, _⟩ := info_parts info_ev
 rw [hn] at hl
 simp [Builtin.copy_, run_underlying Tryz.underlying24, Builtin.lenOf, Builtin.firstCells, sizeOf, typeInfo, hq, hi, hl, hst]
def InsP (v : Value) (l : List Ev) (w : World) (e : Ending) (w' : World) : Prop :=
 ∃ v', e = .returned v' ∧ OwnS w' 41 7 v' l.length (cells l) ∧ Keep (fun k => v.ownBlock = some k) w w' ∧ (∀ k, v'.ownBlock = some k → v.ownBlock = some k ∨ w.heap.size ≤ k)
theorem ins_end (v : Value) (gs : Nat) (l : List Ev) (x : Ev) (w : World) (ho : OwnS w 41 7 v l.length (cells l)) (hb : Blk w gs 41 x.enc.toArray) (hl : l.length ≤ 100000) :
  Calls Tryz.prog 156 #[v, .int .i64 (l.length : Nat), .slice (some ⟨gs, 0, none⟩) 1 1] w (InsP v (l ++ [x]) w) := by
 obtain ⟨A, cap, rfl, hn, hm⟩ := ho.shape
 have hm : cap ≤ 9223372036854775807 := by unfold maxLen at hm; omega
 obtain ⟨i0, hi, hz0, hz1, hz2⟩ := info_parts info_ev
 have hO := Lib.hid ho
 have hsrc := Lib.hid ((OwnS.new_ (n := 1) (size := 7) hb rfl (by unfold maxLen; omega)).src)
 have h07 : Hid (0 < 7) := Lib.hid (by omega)
 have h1 : Hid (∀ u ∈ x.enc.toArray.toList, u.oneCell' = true) := Lib.hid (by have := cells_one [x]; simpa [cells] using this)
 have h63 := Lib.hid (show l.length + 1 ≤ maxLen by unfold maxLen; omega)
 have hby := Lib.hid (show (l.length + 1) * 56 ≤ 140737488355328 by omega)
 clear ho hb
 by_cases hq : cap = l.length
 ·subst hq
  go_enter Tryz.func156, Tryz.ntmps156
  go_wp2_with (at_builtin; refine wpList_append_OwnS _ rfl (.tmp 23) (.tmp 24) 24 rfl 41 i0 _ 7 56 Tryz.underlying24 hi hz0 hz1 hz2 rfl h07.out (.slice A l.length l.length) _ _ rfl hO.out _ _ _ rfl hsrc.out h1.out h63.out hby.out ?_; rintro v' w1 own kp lt)
  all_goals go_ret
  all_goals exact ⟨_, rfl, by rw [List.length_append, cells_append]; simpa [cells] using own, kp, lt⟩
 ·go_enter Tryz.func156, Tryz.ntmps156
  go_wp2_with (at_builtin; refine wpList_append_OwnS _ rfl (.tmp 23) (.tmp 24) 24 rfl 41 i0 _ 7 56 Tryz.underlying24 hi hz0 hz1 hz2 rfl h07.out (.slice A l.length cap) _ _ rfl hO.out _ _ _ rfl hsrc.out h1.out h63.out hby.out ?_; rintro v' w1 own kp lt)
  all_goals go_ret
  all_goals exact ⟨_, rfl, by rw [List.length_append, cells_append]; simpa [cells] using own, kp, lt⟩
theorem seg1 {i n : Nat} {xs A B C : List Value} (hi : i ≤ n) (hA : A.length = i * 7) (hB : B.length = 7) (hC : C.length = (n - i) * 7) (hx : xs.length = (n + 1) * 7) (ht : xs.take (i * 7) = A) :
  (xs.take (i * 7) ++ B ++ xs.drop (i * 7 + B.length)).take ((i + 1) * 7) ++ C ++ (xs.take (i * 7) ++ B ++ xs.drop (i * 7 + B.length)).drop ((i + 1) * 7 + C.length) = A ++ B ++ C := by
 rw [ht, List.take_append_of_le_length (by rw [List.length_append]; omega), List.take_of_length_le (by rw [List.length_append]; omega)]
 rw [List.drop_of_length_le (by rw [List.length_append, List.length_append, List.length_drop, hx, hC, hB, hA]; omega), List.append_nil]
theorem seg2 {i n : Nat} {xs A B C : List Value} (hi : i ≤ n) (_hA : A.length = i * 7) (hB : B.length = 7) (hC : C.length = (n - i) * 7) (hx : xs.length = (n + 1) * 7) (ht : xs.take (i * 7) = A) :
  (xs.take ((i + 1) * 7) ++ C ++ xs.drop ((i + 1) * 7 + C.length)).take (i * 7) ++ B ++ (xs.take ((i + 1) * 7) ++ C ++ xs.drop ((i + 1) * 7 + C.length)).drop (i * 7 + B.length) = A ++ B ++ C := by
 have h1 : (xs.take ((i + 1) * 7)).length = (i + 1) * 7 := by rw [List.length_take, hx]; omega
 have h0 : xs.drop ((i + 1) * 7 + C.length) = [] := List.drop_of_length_le (by rw [hx, hC]; omega)
 rw [h0, List.append_nil, List.take_append_of_le_length (by rw [h1]; omega), List.take_take, show min (i * 7) ((i + 1) * 7) = i * 7 by omega, ht, hB, show i * 7 + 7 = (i + 1) * 7 by omega]
 rw [List.drop_append_of_le_length (by rw [h1]; omega), List.drop_of_length_le (by rw [h1]; omega), List.nil_append]
theorem ins_shift (b off cap gs i : Nat) (l : List Ev) (x : Ev) (w : World) (ho : OwnS w 41 7 (.slice (some ⟨b, off, none⟩) l.length cap) l.length (cells l)) (hb : Blk w gs 41 x.enc.toArray) (hne : gs ≠ b) (hl : l.length ≤ 100000) (hi : i < l.length) (hroom : l.length + 1 ≤ cap) :
  Calls Tryz.prog 156 #[.slice (some ⟨b, off, none⟩) l.length cap, .int .i64 (i : Nat), .slice (some ⟨gs, 0, none⟩) 1 1] w (InsP (.slice (some ⟨b, off, none⟩) l.length cap) (l.take i ++ x :: l.drop i) w) := by
 obtain ⟨hlc, hrow⟩ := ho
 obtain ⟨cur, hcur, hcm, hfit, hcells⟩ : ∃ cur : Array Value, w.heap[b]? = some (.cells cur 41 (0, 0)) ∧ cap ≤ maxLen ∧ off + cap * 7 ≤ cur.size ∧ ∀ j u, (cells l)[j]? = some u → cur[off + j]? = some u := by
  rcases hrow with ⟨h0, _⟩ | ⟨g', off', cap', cur, hv, hg, h1, h2, h3, h4⟩
  ·cases h0
  ·injection hv with hv1 hv2 hv3
   injection hv1 with hv1
   injection hv1 with e1 e2 _
   subst e1 e2 hv3
   exact ⟨cur, hg, h2, h3, h4⟩
 obtain ⟨n, hn⟩ : ∃ n, l.length = n := ⟨_, rfl⟩
 rw [hn] at hi hl hroom hlc ⊢
 obtain ⟨xs, hxs⟩ : ∃ xs, xs = (cur.toList.drop off).take ((n + 1) * 7) := ⟨_, rfl⟩
 have hxl : xs.length = (n + 1) * 7 := by rw [hxs, List.length_take, List.length_drop, Array.length_toList]; omega
 have hxc : ∀ j u, xs[j]? = some u → cur[off + j]? = some u := fun j u hu => by
  rw [hxs, List.getElem?_take] at hu
  split at hu
  ·rw [List.getElem?_drop] at hu; simpa using hu
  ·cases hu
 have hO1 : OwnS w 41 7 (.slice (some ⟨b, off, none⟩) (n + 1) cap) (n + 1) xs := ⟨hxl, .inr ⟨b, off, cap, cur, rfl, hcur, hroom, hcm, hfit, hxc⟩⟩
 have ht : xs.take (i * 7) = cells (l.take i) := by
  rw [← cells_take]
  apply List.ext_getElem?
  intro j
  rw [List.getElem?_take, List.getElem?_take]
  split
  ·rename_i hj
   have h1 : j < (cells l).length := by rw [hlc]; omega
   rw [List.getElem?_eq_getElem h1]
   have := hcells j _ (List.getElem?_eq_getElem h1)
   rw [hxs, List.getElem?_take, if_pos (by omega), List.getElem?_drop]
   simpa using this
  ·rfl
 obtain ⟨C, hC⟩ : ∃ C, C = cells (l.drop i) := ⟨_, rfl⟩
 have hCl : C.length = (n - i) * 7 := by rw [hC, cells_length, List.length_drop, hn]
 have hBl : x.enc.length = 7 := rfl
 obtain ⟨W1, hW1⟩ : ∃ W1, W1 = w.drew.setCells b (off + (i + 1) * 7) C := ⟨_, rfl⟩
 have O1 := OwnS.sets C _ _ ((i + 1) * 7) hO1.drew (by rw [hxl, hCl]; omega)
 rw [← hW1] at O1
 have O2 := OwnS.sets x.enc _ _ (i * 7) O1 (by rw [O1.len, hBl]; omega)
 rw [seg2 (by omega) (by rw [cells_length, List.length_take]; omega) hBl hCl hxl ht] at O2
 have K2 : Keep (fun k => (Value.slice (some ⟨b, off, none⟩) n cap).ownBlock = some k) w (W1.setCells b (off + i * 7) x.enc) := by
  rw [hW1]
  exact (((Keep.refl (fun k => k = b) w).drew.trans (keep_setCells b _ _ _)).trans (keep_setCells b _ _ _)).more (fun k _ hk => by simp [Value.ownBlock, hk])
 have hll : (l.take i ++ x :: l.drop i).length = n + 1 := by simp; omega
 have hcc : cells (l.take i ++ x :: l.drop i) = cells (l.take i) ++ x.enc ++ C := by rw [cells_append, hC]; simp [cells]
 have FIN : Hid (InsP (.slice (some ⟨b, off, none⟩) n cap) (l.take i ++ x :: l.drop i) w (.returned (.slice (some ⟨b, off, none⟩) (n + 1) cap)) (W1.setCells b (off + i * 7) x.enc)) :=
  Lib.hid ⟨_, rfl, by rw [hll, hcc]; exact O2, K2, fun k hk => .inl hk⟩
 have hfz : ∀ j, w.frozen? ⟨b, j, none⟩ = false := fun j => by simp [World.frozen?, hcur]
 have hsp : ∀ j, j < (n + 1) * 7 → (w.cell? ⟨b, off + j, none⟩).isSome = true := fun j hj => by
  rw [cell_of_row w b _ cur _ (0, 0) hcur, Array.getElem?_eq_getElem (by omega)]; rfl
 have hcs : ∀ j u, (cells l)[j]? = some u → w.cell? ⟨b, off + j, none⟩ = some u := fun j u hu => by rw [cell_of_row w b _ cur _ (0, 0) hcur]; exact hcells j u hu
 have hsa : w.shape? gs = some (41, 7) := by
  have : w.heap[gs]? = some (.cells x.enc.toArray 41 (0, 0)) := hb
  simp [World.shape?, this, Ev.enc]
 have hsb : w.shape? b = some (41, cur.size) := by simp [World.shape?, hcur]
 have hov : ∀ lb cb, (callFunc 163 #[.slice (some ⟨gs, 0, none⟩) 1 1, .slice (some ⟨b, off + (i + 1) * 7, none⟩) lb cb]).run Tryz.prog w = .ok (.value (.bool false)) w := fun lb cb => by
  rw [run_callFunc_extern Tryz.func163 (by kernel_rfl) (by kernel_rfl) (by kernel_rfl) (e := Extern.SlicesOverlaps.overlaps #[24, 24] #[4]) (by kernel_rfl),
   Lib.run_overlaps_apart w 24 4 41 Tryz.underlying24 7 (fun _ => by kernel_rfl) ⟨gs, 0, none⟩ ⟨b, off + (i + 1) * 7, none⟩ 1 1 lb cb hne _ _ _ _ hsa hsb (by omega) (hb.frozen _) (hb.frozen _)]
  rfl
 have hcp1 : ∀ ty dc sc, (Builtin.copy_ #[24, 24] ty #[.slice (some ⟨b, off + (i + 1) * 7, none⟩) (n - i) dc, .slice (some ⟨b, off + i * 7, none⟩) (n + 1 - i) sc]).run Tryz.prog w.drew = .ok (goInt (Nat.min (n + 1 - i) (n - i) : Nat)) W1 := fun ty dc sc => by
  rw [hW1]
  exact run_copy_evs w.drew ty b _ _ dc ⟨b, off + i * 7, none⟩ _ sc C (by rw [hCl]; congr 1; simp only [Nat.min_def]; split <;> omega)
   (fun j v hj => by
    rw [Addr.add_lit, Nat.add_assoc]
    rw [hC, ← cells_drop, List.getElem?_drop] at hj
    exact hcs _ v hj)
   (fun j hj => by rw [Nat.add_assoc]; exact hsp _ (by omega)) (fun j _ => hfz _) (by rw [hC]; exact cells_one _)
 have hcp2 : ∀ ty dc, (Builtin.copy_ #[24, 24] ty #[.slice (some ⟨b, off + i * 7, none⟩) (n + 1 - i) dc, .slice (some ⟨gs, 0, none⟩) 1 1]).run Tryz.prog W1 = .ok (goInt (Nat.min 1 (n + 1 - i) : Nat)) (W1.setCells b (off + i * 7) x.enc) := fun ty dc =>
  run_copy_evs W1 ty b _ _ dc ⟨gs, 0, none⟩ 1 1 x.enc (by rw [hBl]; simp only [Nat.min_def]; split <;> omega)
   (fun j v hj => by
    rw [Addr.add_lit, hW1, World.cell?_setCells_out b _ _ _ _ (fun h _ => absurd h hne), Nat.zero_add]
    exact (hb.cell j).trans (by simpa using hj))
   (fun j hj => by
    obtain ⟨_, _, _, _, hc1⟩ := O1.at_
    rw [Nat.add_assoc, hc1 _ _ (List.getElem?_eq_getElem (by rw [O1.len]; omega))]
    rfl)
   (fun j _ => O1.at_.2.1 _) (by have := cells_one [x]; simpa [cells] using this)
 have hcm' : cap ≤ 9223372036854775807 := by unfold maxLen at hcm; omega
 have CP1 := Lib.hid hcp1
 have CP2 := Lib.hid hcp2
 have OV := Lib.hid hov
 have mixed : Tryz.prog.follows Departure.mixedOrders = true := by kernel_rfl
 have hw1 : IntKind.i64.wrap ((i : Int) + 1) = (i : Int) + 1 := by rw [IntKind.wrap_i64]; omega
 have hz2 : ¬ ((i : Int) = (n : Int)) := by omega
 have hb1 : (0 : Int) ≤ (i : Int) + 1 := by omega
 have hin : i ≤ n := by omega
 have htn : ((i : Int) + 1).toNat = i + 1 := by omega
 have hb2 : ¬ (cap = i + 1) := by omega
 have hb3 : (i : Int) ≤ (n : Int) + 1 := by omega
 have hb4 : ¬ (cap = i) := by omega
 clear hcp1 hcp2 hov hsb hsa hcs hsp hfz hcc hll K2 O2 O1 hBl hCl hC ht hO1 hxc hxl hxs hcells hfit hcur hrow hlc hb hne hW1 hcm
 go_enter Tryz.func156, Tryz.ntmps156
 go_wp2_with (simp only [OV.out])
 go_region_law_o (refine step_copy_runI rfl _ _ 24 24 rfl (.slice (some ⟨b, off + (i + 1) * 7, none⟩) (n - i) (cap - (i + 1))) (.slice (some ⟨b, off + i * 7, none⟩) (n + 1 - i) (cap - i)) ?hd ?hx (CP1.out 3 _ _) ?_; (case hd => (simp [Act.eval, Act.put])); (case hx => (simp [Act.eval, Act.put])))
 have cp2 := CP2.out
 go_wp2_with fail
 go_ret
 exact FIN.out
theorem ins_grow (b off cap gs i : Nat) (l : List Ev) (x : Ev) (w : World) (ho : OwnS w 41 7 (.slice (some ⟨b, off, none⟩) l.length cap) l.length (cells l)) (hb : Blk w gs 41 x.enc.toArray) (hl : l.length ≤ 100000) (hi : i < l.length) (hroom : cap < l.length + 1) :
  Calls Tryz.prog 156 #[.slice (some ⟨b, off, none⟩) l.length cap, .int .i64 (i : Nat), .slice (some ⟨gs, 0, none⟩) 1 1] w (InsP (.slice (some ⟨b, off, none⟩) l.length cap) (l.take i ++ x :: l.drop i) w) := by
 have hlc := ho.len
 obtain ⟨hbw, _, hnc, hcm, hcs⟩ := ho.at_
 have hvw : gs < w.heap.size := hb.lt
 obtain ⟨n, hn⟩ : ∃ n, l.length = n := ⟨_, rfl⟩
 rw [hn] at hi hl hroom hlc hnc ⊢
 obtain ⟨i0, hi0, hz0, hzs, hzb⟩ := info_parts info_ev
 have hold : (Builtin.firstCells i0.size i (.slice (some ⟨b, off, none⟩) i cap)).run Tryz.prog w.drew = .ok (cells (l.take i)).toArray w.drew := by
  rw [hzs]
  exact run_firstCells_some w.drew 7 i ⟨b, off, none⟩ i cap (cells (l.take i)) (by rw [cells_length, List.length_take]; simp only [Nat.min_def]; split <;> omega) (fun j v hj => by
   rw [Addr.add_lit]
   rw [← cells_take, List.getElem?_take] at hj
   split at hj
   ·exact hcs j v hj
   ·cases hj)
 have hik : i + (n + 1 - i) = n + 1 := by omega
 have hkk : (n : Int) + 1 - (i : Int) = ((n + 1 - i : Nat) : Int) := by omega
 obtain ⟨G, hG⟩ : ∃ G, G = grownCap w (n + 1) cap 41 := ⟨_, rfl⟩
 obtain ⟨ROW, hROW⟩ : ∃ ROW : Array Value, ROW = (cells (l.take i)).toArray ++ Builtin.zeroCells (Value.agg zrow.toArray).cells (n + 1 - i) ++ Builtin.zeroCells (Value.agg zrow.toArray).cells (G - (n + 1)) := ⟨_, rfl⟩
 have hrz : ∀ ty, (Builtin.append_ #[24, 3] ty #[.slice (some ⟨b, off, none⟩) i cap, .int .i64 ((n : Int) + 1 - (i : Int))]).run Tryz.prog w = .ok (.slice (some ⟨w.heap.size, 0, none⟩) (n + 1) G) (w.drew.alloc (.cells ROW 41)) := fun ty => by
  have h := Lib.run_append_grow_zeros (P := Tryz.prog) w 24 3 ty 41 i0 _ .i64 .i64 Tryz.underlying24 Tryz.underlying3 hi0 hz0 (some ⟨b, off, none⟩) i cap (cells (l.take i)) hold (n + 1 - i) (by omega) (by omega) (by omega) (by omega) (by rw [hzb]; omega) (by rw [hzb, hik]; exact growslice_fits hroom (by omega))
  rw [hik, ← hG] at h
  rw [hkk, hROW]
  exact h
 have hGn : n + 1 ≤ G := by rw [hG]; exact grownCap_ge w _ _ _
 have hGm : G ≤ maxLen := by rw [hG]; exact grownCap_le_maxLen w (n + 1) cap 41 (by unfold maxLen; omega)
 have hz7 : (Value.agg zrow.toArray).cells.size = 7 := by kernel_rfl
 have hA0 : (cells (l.take i)).length = i * 7 := by rw [cells_length, List.length_take]; omega
 have hRs : ROW.size = G * 7 := by
  rw [hROW]
  simp only [Array.size_append, List.size_toArray, size_zeroCells, hz7, hA0]
  omega
 obtain ⟨W1, hW1⟩ : ∃ W1, W1 = w.drew.alloc (.cells ROW 41) := ⟨_, rfl⟩
 rw [← hW1] at hrz
 have hB1 : Blk W1 w.heap.size 41 ROW := by rw [hW1]; exact Blk.at_new (w := w.drew) rfl _ _
 obtain ⟨xs, hxs⟩ : ∃ xs, xs = ROW.toList.take ((n + 1) * 7) := ⟨_, rfl⟩
 have hxl : xs.length = (n + 1) * 7 := by rw [hxs, List.length_take, Array.length_toList]; omega
 have O0 : OwnS W1 41 7 (.slice (some ⟨w.heap.size, 0, none⟩) (n + 1) G) (n + 1) xs := ⟨hxl, .inr ⟨_, 0, G, ROW, rfl, hB1, hGn, hGm, by omega, fun j u hu => by
  rw [hxs, List.getElem?_take] at hu
  split at hu
  ·simpa using hu
  ·cases hu⟩⟩
 have ht : xs.take (i * 7) = cells (l.take i) := by
  rw [hxs, List.take_take, show min (i * 7) ((n + 1) * 7) = i * 7 by omega, hROW, Array.toList_append, Array.toList_append, List.append_assoc, List.take_append_of_le_length (by rw [List.toList_toArray, hA0]; exact Nat.le_refl _), List.toList_toArray, ← hA0, List.take_length]
 obtain ⟨C, hC⟩ : ∃ C, C = cells (l.drop i) := ⟨_, rfl⟩
 have hCl : C.length = (n - i) * 7 := by rw [hC, cells_length, List.length_drop, hn]
 have hBl : x.enc.length = 7 := rfl
 obtain ⟨W2, hW2⟩ : ∃ W2, W2 = W1.setCells w.heap.size (i * 7) x.enc := ⟨_, rfl⟩
 have O1 := OwnS.sets x.enc _ _ (i * 7) O0 (by rw [hxl, hBl]; omega)
 rw [Nat.zero_add, ← hW2] at O1
 have O2 := OwnS.sets C _ _ ((i + 1) * 7) O1.drew (by rw [O1.len, hCl]; omega)
 rw [Nat.zero_add, seg1 (by omega) hA0 hBl hCl hxl ht] at O2
 have K2 : Keep (fun _ => False) w (W2.drew.setCells w.heap.size ((i + 1) * 7) C) := by
  have k1 : Keep (fun k => k = w.heap.size) w (W2.drew.setCells w.heap.size ((i + 1) * 7) C) := by
   rw [hW2, hW1]
   exact ((((((Keep.refl (fun k => k = w.heap.size) w).drew).alloc _).trans (keep_setCells w.heap.size _ _ _)).drew).trans (keep_setCells w.heap.size _ _ _))
  exact k1.more (fun k hk h => by omega)
 have hll : (l.take i ++ x :: l.drop i).length = n + 1 := by simp; omega
 have hcc : cells (l.take i ++ x :: l.drop i) = cells (l.take i) ++ x.enc ++ C := by rw [cells_append, hC]; simp [cells]
 have FIN : Hid (InsP (.slice (some ⟨b, off, none⟩) n cap) (l.take i ++ x :: l.drop i) w (.returned (.slice (some ⟨w.heap.size, 0, none⟩) (n + 1) G)) (W2.drew.setCells w.heap.size ((i + 1) * 7) C)) :=
  Lib.hid ⟨_, rfl, by rw [hll, hcc]; exact O2, K2.more (fun _ _ h => h.elim), fun k hk => .inr (by simp [Value.ownBlock] at hk; omega)⟩
 have hcp1 : ∀ ty dc, (Builtin.copy_ #[24, 24] ty #[.slice (some ⟨w.heap.size, i * 7, none⟩) (n + 1 - i) dc, .slice (some ⟨gs, 0, none⟩) 1 1]).run Tryz.prog W1 = .ok (goInt (Nat.min 1 (n + 1 - i) : Nat)) W2 := fun ty dc => by
  rw [hW2]
  exact run_copy_evs W1 ty w.heap.size _ _ dc ⟨gs, 0, none⟩ 1 1 x.enc (by rw [hBl]; simp only [Nat.min_def]; split <;> omega)
   (fun j v hj => by
    rw [Addr.add_lit, hW1, World.cell?_alloc_past (w := w.drew) _ gs _ hvw, Nat.zero_add]
    exact (hb.cell j).trans (by simpa using hj))
   (fun j hj => by
    obtain ⟨_, _, _, _, hc1⟩ := O0.at_
    have := hc1 _ _ (List.getElem?_eq_getElem (show i * 7 + j < xs.length by rw [hxl]; omega))
    rw [Nat.zero_add] at this
    rw [this]
    rfl)
   (fun j _ => O0.at_.2.1 _) (by have := cells_one [x]; simpa [cells] using this)
 have hcp2 : ∀ ty dc sc, (Builtin.copy_ #[24, 24] ty #[.slice (some ⟨w.heap.size, (i + 1) * 7, none⟩) (n - i) dc, .slice (some ⟨b, off + i * 7, none⟩) (n - i) sc]).run Tryz.prog W2.drew = .ok (goInt (Nat.min (n - i) (n - i) : Nat)) (W2.drew.setCells w.heap.size ((i + 1) * 7) C) := fun ty dc sc =>
  run_copy_evs W2.drew ty w.heap.size _ _ dc ⟨b, off + i * 7, none⟩ _ sc C (by rw [hCl]; congr 1; simp only [Nat.min_def]; split <;> omega)
   (fun j v hj => by
    rw [Addr.add_lit]
    show W2.cell? _ = _
    rw [hW2, World.cell?_setCells_out _ _ _ _ _ (fun h _ => absurd h (by simp only; omega)), hW1, World.cell?_alloc_past (w := w.drew) _ b _ hbw, Nat.add_assoc]
    rw [hC, ← cells_drop, List.getElem?_drop] at hj
    exact hcs _ v hj)
   (fun j hj => by
    obtain ⟨_, _, _, _, hc1⟩ := O1.drew.at_
    have := hc1 _ _ (List.getElem?_eq_getElem (show (i + 1) * 7 + j < _ by rw [O1.len]; omega))
    rw [Nat.zero_add] at this
    rw [this]
    rfl)
   (fun j _ => O1.drew.at_.2.1 _) (by rw [hC]; exact cells_one _)
 have hcm' : cap ≤ 9223372036854775807 := by unfold maxLen at hcm; omega
 have hGm' : G ≤ 9223372036854775807 := by unfold maxLen at hGm; omega
 have CP1 := Lib.hid hcp1
 have CP2 := Lib.hid hcp2
 have RZ := Lib.hid hrz
 have mixed : Tryz.prog.follows Departure.mixedOrders = true := by kernel_rfl
 have hw1 : IntKind.i64.wrap ((i : Int) + 1) = (i : Int) + 1 := by rw [IntKind.wrap_i64]; omega
 have hz2 : ¬ ((i : Int) = (n : Int)) := by omega
 have hz3 : (cap : Int) < (n : Int) + 1 := by omega
 have hb1 : (0 : Int) ≤ (i : Int) + 1 := by omega
 have hin : i ≤ n := by omega
 have htn : ((i : Int) + 1).toNat = i + 1 := by omega
 have hb2 : ¬ (G = i + 1) := by omega
 have hb3 : (i : Int) ≤ (n : Int) + 1 := by omega
 have hb4 : ¬ (G = i) := by omega
 have hb5 : ¬ (cap = i) := by omega
 clear hcp1 hcp2 hrz hcc hll K2 O2 O1 O0 hBl hCl hC ht hxl hxs hcs hb hW1 hW2 hcm hGm hRs hROW hG hold hik hkk hz0 hzs hzb hi0 hB1 hA0 hz7 hlc
 go_enter Tryz.func156, Tryz.ntmps156
 have cp1 := CP1.out
 go_wp2_with (at_builtin; refine Lib.wpList_append_run _ rfl _ _ 24 3 rfl (.slice (some ⟨b, off, none⟩) i cap) (.int .i64 ((n : Int) + 1 - (i : Int))) rfl rfl _ _ (RZ.out _) ?_)
 go_region_law_o (refine step_copy_runI rfl _ _ 24 24 rfl (.slice (some ⟨w.heap.size, (i + 1) * 7, none⟩) (n - i) (G - (i + 1))) (.slice (some ⟨b, off + i * 7, none⟩) (n - i) (cap - i)) ?hd ?hx (CP2.out 3 _ _) ?_; (case hd => (simp [Act.eval, Act.put])); (case hx => (simp [Act.eval, Act.put])))
 go_wp2_with fail
 go_ret
 exact FIN.out
end Go.Proofs.YthbcdkeammhakaaGreat
