/-
  mail.Net[int]: Take, with slices.IndexFunc and slices.Delete at its packets.
-/
import Derived.Test.YtgakggkffapnlaaFnsInt
namespace Go.Proofs.Ytgakggkffapnlaa.R_int
open Go.RowKit
attribute [local go_sem ↓] Go.wp_at_zero Go.wp_at_succ

theorem OwnS.sets {e : TypeId} {size n g off cap : Nat} : ∀ (news : List Value) (w : World) (xs : List Value) (k : Nat), OwnS w e size (.slice (some ⟨g, off, none⟩) n cap) n xs → k + news.length ≤ xs.length →
    OwnS (w.setCells g (off + k) news) e size (.slice (some ⟨g, off, none⟩) n cap) n (xs.take k ++ news ++ xs.drop (k + news.length))
  | [], w, xs, k, h, _ => by simpa [World.setCells] using h
  | v :: r, w, xs, k, h, hk => by
    have hk' : k < xs.length := by simp at hk; omega
    have h1 := h.set_ k v hk'
    have h2 := OwnS.sets r _ _ (k + 1) h1 (by simp at hk ⊢; omega)
    have e1 : (xs.set k v).take (k + 1) = xs.take k ++ [v] := by
      rw [List.take_add_one, List.getElem?_set_self hk', List.take_set_of_le (Nat.le_refl k)]
      rfl
    have e2 : (xs.set k v).drop (k + 1 + r.length) = xs.drop (k + (r.length + 1)) := by
      rw [List.drop_set_of_lt (by omega), show k + 1 + r.length = k + (r.length + 1) by omega]
    rw [e1, e2] at h2
    rw [List.length_cons, show xs.take k ++ v :: r = xs.take k ++ [v] ++ r by simp]
    exact h2
def zrow : List Value := [.int .i64 0, .int .i64 0, .int .i64 0, .int .i64 0]
theorem run_clear_row (w : World) (ty : TypeId) (gs o m n : Nat) (hm : m = 1) (h0 : ∀ j, j < 4 → (w.cell? ⟨gs, o + j, none⟩).isSome = true) (hf : ∀ i, w.frozen? ⟨gs, i, none⟩ = false) :
    (Builtin.clear_ #[58] ty #[.slice (some ⟨gs, o, none⟩) m n]).run Try.prog w = .ok (.tuple #[]) (w.setCells gs o zrow) := by
  subst hm
  have hz : ∀ w, (zeroValue 41).run Try.prog w = .ok (.agg zrow.toArray) w := fun _ => by kernel_rfl
  have hzc : (Builtin.zeroCells (Value.agg zrow.toArray).cells 1).toList = zrow := by kernel_rfl
  have hst := run_storeCells_cells (P := Try.prog) gs o zrow 0 w (by
    intro j hj
    exact h0 j hj) (fun j _ => hf _) (by intro v hv; simp [zrow] at hv; rcases hv with rfl | rfl <;> rfl)
  simp only [Nat.add_zero] at hst
  simp [Builtin.clear_, run_underlying Try.underlying58, hz, hzc, hst]

theorem took_is (bn : Nat) (no : Int) (p : Pk) (w : World) (h : w.cell? ⟨bn, 0, none⟩ = some (.int .i64 no)) (hbn : bn < w.heap.size) :
    Calls Try.prog 36 #[.agg #[.int .i64 p.no, .int .i64 p.fr, .int .i64 p.to, Value.int .i64 p.x], .pointer (some ⟨bn, 0, none⟩)] w fun e w' => e = .returned (.bool (p.no == no)) ∧ Fresh w w' := by
  obtain ⟨a, b, c, x⟩ := p
  simp only
  cases hq : (a == no)
  all_goals
    go_enter Try.func36, Try.ntmps36
    go_wp2
    go_ret
    exact ⟨rfl, (Keep.refl _ _).alloc _⟩
/-- what IndexFunc finds -/
def IdxP (l : List Pk) (no : Int) (w : World) (e : Ending) (w' : World) : Prop :=
  Fresh w w' ∧ ((e = .returned (.int .i64 (-1)) ∧ ∀ (j : Nat) (q : Pk), l[j]? = some q → q.no ≠ no) ∨ ∃ (i : Nat) (p : Pk), e = .returned (.int .i64 i) ∧ l[i]? = some p ∧ p.no = no ∧ ∀ (j : Nat) (q : Pk), j < i → l[j]? = some q → q.no ≠ no)
set_option maxHeartbeats 1000000 in
theorem idx_any (bn : Nat) (no : Int) (v : Value) (l : List Pk) (w : World) (ho : OwnS w 41 4 v l.length (cells l)) (hc : w.cell? ⟨bn, 0, none⟩ = some (.int .i64 no)) (hbn : bn < w.heap.size) (hl : l.length ≤ 1000000) :
    Calls Try.prog 35 #[v, .func (.func 36) #[] #[.pointer (some ⟨bn, 0, none⟩)]] w (IdxP l no w) := by
  obtain ⟨A, cap, rfl, hn, hm⟩ := ho.shape
  have hm : cap ≤ 9223372036854775807 := by unfold maxLen at hm; omega
  have HO := Lib.hid ho
  have HC : Hid (∀ (W : World) (p : Pk), Fresh w W → Calls Try.prog 36 #[.agg #[.int .i64 p.no, .int .i64 p.fr, .int .i64 p.to, Value.int .i64 p.x], .pointer (some ⟨bn, 0, none⟩)] W fun e w' => e = .returned (.bool (p.no == no)) ∧ Fresh W w') := fun W p f =>
    took_is bn no p W (f.cell_ hc) (Nat.lt_of_lt_of_le hbn f.size)
  clear ho hc
  go_enter Try.func35, Try.ntmps35
  go_wp2_with fail
  go_loopg [5, 8] l.length (fun gk _ u wr => ∃ k : Nat, k ≤ l.length ∧ gk = l.length - k ∧ u = .int .i64 k ∧ Fresh w wr ∧ ∀ (j : Nat) (q : Pk), j < k → l[j]? = some q → q.no ≠ no)
  case atStart => exact ⟨0, Nat.zero_le _, rfl, rfl, Keep.refl _ _, fun j q h => absurd h (by omega)⟩
  case round =>
    obtain ⟨k, hk, rfl, rfl, hF, hN⟩ := hrel
    have F := Lib.hid hF
    have N := Lib.hid hN
    clear hF hN
    by_cases hlt : k < l.length
    · obtain ⟨p, hp⟩ : ∃ p, l[k]? = some p := ⟨_, List.getElem?_eq_getElem hlt⟩
      obtain ⟨g', off, cap', hv, _, _, _, hc⟩ := (HO.out.fresh F.out).form (by omega)
      injection hv with e1 e2 e3
      subst e1 e3
      obtain ⟨c0, c1, c2, c3⟩ := cells_at l k p hp
      have c0 := hc _ _ c0
      have c1 := hc _ _ c1
      have c2 := hc _ _ c2
      have c3 := hc _ _ c3
      rw [← Nat.add_assoc] at c1 c2 c3
      have hcall := HC.out wr p F.out
      have HP := Lib.hid hp
      clear hc hp
      obtain ⟨a, b, c, x⟩ := p
      simp only at c0 c1 c2 c3 hcall
      cases hq : (a == no)
      · rw [hq] at hcall
        have CC := Lib.hid hcall
        have hne := Lib.hid (show a ≠ no by simpa using hq)
        clear hcall hq
        go_wp2_with (go_at_call 36; (with_reducible refine CC.out.mono ?_); rintro e w1 ⟨rfl, f1⟩)
        go_roundg (l.length - (k + 1))
        case measure => omega
        case rel => exact ⟨k + 1, by omega, rfl, by go_num, F.out.step f1 (fun _ _ h => h), fun j q hj hq => by
          by_cases hjk : j = k
          · subst hjk
            rw [HP.out] at hq
            injection hq with hq
            subst hq
            exact hne.out
          · exact N.out j q (by omega) hq⟩
      · rw [hq] at hcall
        have CC := Lib.hid hcall
        have heq := Lib.hid (show a = no by simpa using hq)
        clear hcall hq
        go_wp2_with (go_at_call 36; (with_reducible refine CC.out.mono ?_); rintro e w1 ⟨rfl, f1⟩)
        go_ret
        exact ⟨F.out.step f1 (fun _ _ h => h), .inr ⟨k, _, rfl, HP.out, heq.out, N.out⟩⟩
    · obtain rfl : k = l.length := by omega
      go_wp2_with fail
      go_ret
      exact ⟨F.out, .inl ⟨rfl, fun j q hq => N.out j q (List.getElem?_eq_some_iff.1 hq).1 hq⟩⟩
set_option maxHeartbeats 2000000 in
theorem del_j (g' off cap i j : Nat) (l : List Pk) (w : World) (ho : OwnS w 41 4 (.slice (some ⟨g', off, none⟩) l.length cap) l.length (cells l)) (hj : j = i + 1) (hi : i < l.length) (hl : l.length ≤ 1000000) :
    Calls Try.prog 37 #[.slice (some ⟨g', off, none⟩) l.length cap, .int .i64 (i : Nat), .int .i64 (j : Nat)] w fun e w' => e = .returned (.slice (some ⟨g', off, none⟩) (i + (l.length - j)) cap) ∧ OwnS w' 41 4 (.slice (some ⟨g', off, none⟩) (i + (l.length - j)) cap) (i + (l.length - j)) (cells (l.eraseIdx i)) ∧ Keep (fun k => k = g') w w' := by
  obtain ⟨lg, hfz, hnc, hcm, hcc⟩ := ho.at_
  have hcm' : cap ≤ 9223372036854775807 := by unfold maxLen at hcm; omega
  obtain ⟨n, hn⟩ : ∃ n, l.length = n := ⟨_, rfl⟩
  rw [hn] at ho hi hl hnc ⊢
  obtain ⟨news, hnews⟩ : ∃ news, news = cells (l.drop j) := ⟨_, rfl⟩
  have hlen : news.length = (n - j) * 4 := by rw [hnews, cells_length, List.length_drop, hn]
  obtain ⟨A, hA, hsrc⟩ : ∃ A : Addr, (if cap = j then some (⟨g', off, none⟩ : Addr) else some ⟨g', off + j * 4, none⟩) = some A ∧ Hid (∀ t u, news[t]? = some u → w.drew.cell? (A.add t) = some u) := by
    by_cases h : cap = j
    · refine ⟨⟨g', off, none⟩, by simp [h], fun t u hu => ?_⟩
      have h0 : news.length = 0 := by rw [hlen]; omega
      rw [List.length_eq_zero_iff.1 h0] at hu
      simp at hu
    · refine ⟨⟨g', off + j * 4, none⟩, by simp [h], fun t u hu => ?_⟩
      rw [Addr.add_lit]
      rw [hnews, ← cells_drop, List.getElem?_drop] at hu
      rw [show off + j * 4 + t = off + (j * 4 + t) by omega]
      exact hcc _ _ hu
  have s2 : Hid (∀ u ∈ news, u.oneCell' = true) := by rw [hnews]; exact cells_one _
  have hcl0 : (cells l).length = n * 4 := by rw [cells_length, hn]
  have s3 : Hid (∀ t, t < news.length → (w.drew.cell? ⟨g', off + i * 4 + t, none⟩).isSome = true ∧ w.drew.frozen? ⟨g', off + i * 4 + t, none⟩ = false) := by
    intro t ht
    rw [hlen] at ht
    have hlt : i * 4 + t < (cells l).length := by omega
    refine ⟨?_, hfz _⟩
    show (w.cell? _).isSome = true
    rw [show off + i * 4 + t = off + (i * 4 + t) by omega, hcc _ _ (List.getElem?_eq_getElem hlt)]
    rfl
  obtain ⟨W1, hW1⟩ : ∃ W1, W1 = w.drew.setCells g' (off + i * 4) news := ⟨_, rfl⟩
  have O1 : OwnS W1 41 4 (.slice (some ⟨g', off, none⟩) n cap) n ((cells l).take (i * 4) ++ news ++ (cells l).drop (i * 4 + news.length)) := by
    rw [hW1]
    exact OwnS.sets news _ _ (i * 4) ho.drew (by rw [hcl0, hlen]; omega)
  have hin : i + (n - j) = n - 1 := by omega
  have K1 : Keep (fun k => k = g') w W1 := by
    rw [hW1]
    exact (Keep.refl _ w).drew.trans (keep_setCells g' _ _ _)
  have hcl : ∀ ty, (Builtin.clear_ #[58] ty #[.slice (some ⟨g', off + (i + (n - j)) * 4, none⟩) (n - (i + (n - j))) (cap - (i + (n - j)))]).run Try.prog W1 = .ok (.tuple #[]) (W1.setCells g' (off + (i + (n - j)) * 4) zrow) := fun ty =>
    run_clear_row W1 ty g' _ _ _ (by omega) (fun t ht => by
      obtain ⟨_, _, _, _, hc1⟩ := O1.at_
      have hlt : (i + (n - j)) * 4 + t < ((cells l).take (i * 4) ++ news ++ (cells l).drop (i * 4 + news.length)).length := by
        rw [O1.len, hin]; omega
      rw [Nat.add_assoc, hc1 _ _ (List.getElem?_eq_getElem hlt)]
      rfl) O1.at_.2.1
  have FIN : Hid (OwnS (W1.setCells g' (off + (i + (n - j)) * 4) zrow) 41 4 (.slice (some ⟨g', off, none⟩) (i + (n - j)) cap) (i + (n - j)) (cells (l.eraseIdx i)) ∧ Keep (fun k => k = g') w (W1.setCells g' (off + (i + (n - j)) * 4) zrow)) := by
    refine ⟨?_, K1.trans (keep_setCells g' _ _ _)⟩
    have hl1 := O1.len
    have h2 := OwnS.sets zrow _ _ ((i + (n - j)) * 4) O1 (by rw [hl1, hin]; simp [zrow]; omega)
    have h3 := h2.cut (lo := 0) (hi := n - 1) (off' := off) (Nat.zero_le _) (by omega) (.inl (by omega))
    rw [Nat.sub_zero, Nat.sub_zero, Nat.zero_mul, List.drop_zero] at h3
    rw [hin] at h3 ⊢
    have e : (List.take ((n - 1) * 4) ((cells l).take (i * 4) ++ news ++ (cells l).drop (i * 4 + news.length)) ++ zrow ++ List.drop ((n - 1) * 4 + zrow.length) ((cells l).take (i * 4) ++ news ++ (cells l).drop (i * 4 + news.length))).take ((n - 1) * 4) = cells (l.eraseIdx i) := by
      have hL : ((cells l).take (i * 4) ++ news).length = (n - 1) * 4 := by
        rw [List.length_append, List.length_take, hlen, hcl0]; omega
      rw [List.append_assoc, List.take_append_of_le_length (by rw [List.length_take, hl1]; omega), List.take_take, Nat.min_self, ← hL, List.take_left, hnews, cells_take, ← cells_append, List.eraseIdx_eq_take_drop_succ, hj]
    rw [e] at h3
    exact h3
  have hW : Hid (W1 = w.drew.setCells g' (off + i * 4) news) := hW1
  obtain ⟨i0, hi0, hz0, hz1, hz2⟩ := info_parts info_pk
  have s1 := Lib.hid hlen
  have hic : i ≤ cap := by omega
  have hjc : j ≤ cap := by omega
  have hjn : j ≤ n := by omega
  have hij : ((i : Int) == (j : Int)) = false := by rw [beq_eq_false_iff_ne]; omega
  have hij' : (i == j) = false := by rw [beq_eq_false_iff_ne]; omega
  have hroom : i + (n - j) ≤ cap := by omega
  have q1 : i + (n - j) ≤ n := by omega
  have q2 : ((cap : Nat) == i + (n - j)) = false := by rw [beq_eq_false_iff_ne]; omega
  have q3 : ¬ cap = i + (n - j) := by omega
  have JJ := Lib.hid hj
  clear hW1 O1 K1 hnews hlen hcc ho hin hcl0 hj hcm hn hfz
  go_enter Try.func37, Try.ntmps37
  go_wp2_with fail
  go_region_law (refine step_append_room rfl (.tmp 22) (.tmp 25) 58 rfl 41 i0 4 Try.underlying58 hi0 hz1 g' off i cap (by simp [Act.eval, Act.put]) A (n - j) (cap - j) news (by simp [Act.eval, Act.put]) s1.out hsrc.out s2.out hroom s3.out ?_; rw [← hW.out])
  all_goals go_wp2_with fail
  all_goals go_ret
  all_goals exact ⟨rfl, FIN.out.1, FIN.out.2⟩
theorem del_any (g' off cap i : Nat) (l : List Pk) (w : World) (ho : OwnS w 41 4 (.slice (some ⟨g', off, none⟩) l.length cap) l.length (cells l)) (hi : i < l.length) (hl : l.length ≤ 1000000) :
    Calls Try.prog 37 #[.slice (some ⟨g', off, none⟩) l.length cap, .int .i64 (i : Nat), .int .i64 ((i : Int) + 1)] w fun e w' => e = .returned (.slice (some ⟨g', off, none⟩) (l.eraseIdx i).length cap) ∧ OwnS w' 41 4 (.slice (some ⟨g', off, none⟩) (l.eraseIdx i).length cap) (l.eraseIdx i).length (cells (l.eraseIdx i)) ∧ Keep (fun k => k = g') w w' := by
  have h := del_j g' off cap i (i + 1) l w ho rfl hi hl
  rw [show i + (l.length - (i + 1)) = (l.eraseIdx i).length by rw [List.length_eraseIdx, if_pos hi]; omega, Int.natCast_succ] at h
  exact h
/-- what Take leaves -/
def TakeP (g : Nat) (v : Value) (bx nx : Int) (l : List Pk) (no : Int) (w : World) (e : Ending) (w' : World) : Prop :=
  (∃ (i : Nat) (p : Pk), l[i]? = some p ∧ p.no = no ∧ (∀ (j : Nat) (q : Pk), j < i → l[j]? = some q → q.no ≠ no) ∧ e = .returned (.tuple #[.agg #[.int .i64 p.no, .int .i64 p.fr, .int .i64 p.to, Value.int .i64 p.x], .int .i64 0]) ∧ ∃ v', SNet w' g v' bx nx (l.eraseIdx i) ∧ Keep (foot g v) w w' ∧ Later w v v') ∨
  ((∀ (j : Nat) (q : Pk), l[j]? = some q → q.no ≠ no) ∧ e = .returned (.tuple #[.agg #[.int .i64 0, .int .i64 0, .int .i64 0, .int .i64 0], .int .i64 14]) ∧ Fresh w w')
theorem take_nil (no : Int) (w : World) :
    Calls Try.prog 16 #[.pointer none, .int .i64 no] w fun e w' => e = .returned (.tuple #[.agg #[.int .i64 0, .int .i64 0, .int .i64 0, .int .i64 0], .int .i64 2]) ∧ Fresh w w' := by
  go_enter Try.func16, Try.ntmps16
  go_wp2
  refine bodyPost_ret (v := .tuple #[.agg #[.int .i64 0, .int .i64 0, .int .i64 0, .int .i64 0], .int .i64 2]) (by simp [results, Try.results16, go_sem]; try rfl) rfl ?_
  refine ⟨rfl, ?_⟩
  repeat (first | exact Keep.refl _ _ | refine Keep.setCell ?_ (fun h => by simp at h; try omega) _ | refine Keep.alloc ?_ _)
set_option maxHeartbeats 2000000 in
theorem take_any (g : Nat) (v : Value) (bx nx no : Int) (l : List Pk) (w : World) (h : SNet w g v bx nx l) (hl : l.length ≤ 100000) :
    Calls Try.prog 16 #[.pointer (some ⟨g, 0, none⟩), .int .i64 no] w (TakeP g v bx nx l no w) := by
  have hc := h.blk.cell
  have hlg := h.blk.lt
  have F0 : Fresh w ((w.alloc (.cells #[.int .i64 no] 3)).alloc (.cells #[.int .i64 0, .int .i64 0, .int .i64 0, .int .i64 0] 41)) := ((Keep.refl _ _).alloc _).alloc _
  have BN := ((Blk.new w 3 #[.int .i64 no]).alloc (.cells #[.int .i64 0, .int .i64 0, .int .i64 0, .int .i64 0] 41))
  have BR : Blk ((w.alloc (.cells #[.int .i64 no] 3)).alloc (.cells #[.int .i64 0, .int .i64 0, .int .i64 0, .int .i64 0] 41)) (w.heap.size + 1) 41 #[.int .i64 0, .int .i64 0, .int .i64 0, .int .i64 0] := Blk.at_new (by simp) _ _
  have IX := idx_any w.heap.size no v l _ (h.fresh F0).own (BN.cell_ 0 rfl) BN.lt (by omega)
  obtain ⟨A, cap, rfl, hnc, hmc⟩ := h.own.shape
  have H := Lib.hid h
  have HF := Lib.hid F0
  have HR := Lib.hid BR
  have HI := Lib.hid IX
  have hmf : ∀ (fn : Fn) (first cap : Array Value) (w : World), (Instr.makeFunc fn first cap).run Try.prog w = .ok (.func fn first cap) w := fun _ _ _ _ => rfl
  clear h F0 BN BR IX
  go_enter Try.func16, Try.ntmps16
  go_wp2_with fail
  refine HI.out.mono ?_
  clear hc
  rintro e w1 ⟨f1, ⟨rfl, hno⟩ | ⟨i, p, rfl, hp, heq, hlt⟩⟩
  · have B1 := f1.blk_ HR.out
    have cR := B1.cell
    have lR := B1.lt
    have fR := B1.frozen
    have N := Lib.hid hno
    have F1 := Lib.hid (HF.out.step f1 (fun _ _ h => h))
    clear f1 B1 hno
    go_wp2_with fail
    refine bodyPost_ret (v := .tuple #[.agg #[.int .i64 0, .int .i64 0, .int .i64 0, .int .i64 0], .int .i64 14]) (by simp [results, Try.results16, go_sem, cR]; try rfl) rfl ?_
    refine .inr ⟨N.out, rfl, ?_⟩
    repeat (first | exact F1.out | refine Keep.setCell ?_ (fun h => by simp at h; try omega) _ | refine Keep.alloc ?_ _)
  · have B1 := f1.blk_ HR.out
    have cR := B1.cell
    have lR := B1.lt
    have fR := B1.frozen
    have S1 := (H.out.fresh HF.out).fresh f1
    have hi := (List.getElem?_eq_some_iff.1 hp).1
    obtain ⟨g', off, cap', hv, lg', _, _, hcc⟩ := S1.own.form (by omega)
    injection hv with e1 e2 e3
    subst e1 e3
    obtain ⟨c0, c1, c2, c3⟩ := cells_at l i p hp
    have c0 := hcc _ _ c0
    have c1 := hcc _ _ c1
    have c2 := hcc _ _ c2
    have c3 := hcc _ _ c3
    rw [← Nat.add_assoc] at c1 c2 c3
    have cg := S1.blk.cell
    have hlg1 := S1.blk.lt
    have S := Lib.hid S1
    have F1 := Lib.hid (HF.out.step f1 (fun _ _ h => h))
    have P := Lib.hid (show l[i]? = some p ∧ p.no = no ∧ (∀ (j : Nat) (q : Pk), j < i → l[j]? = some q → q.no ≠ no) from ⟨hp, heq, hlt⟩)
    have hwr : IntKind.i64.wrap ((i : Int) + 1) = (i : Int) + 1 := IntWalk.i64_in _ (by omega)
    have hng : g' ≠ g := by
      have := S1.ne
      simpa [Value.ownBlock] using this
    have BRH := Lib.hid B1
    have lgw : g' < w.heap.size := H.out.own.lt (k := g') (by simp [Value.ownBlock])
    clear hp heq hlt hcc S1 f1 HI HF HR B1
    obtain ⟨a, b, c, x⟩ := p
    simp only at c0 c1 c2 c3
    go_wp2_with fail
    refine (del_any g' off cap i l _ (S.out.own.fresh (by repeat (first | exact Keep.refl _ _ | refine Keep.setCell ?_ (fun h => by simp at h) _ | refine Keep.alloc ?_ _))) hi (by omega)).mono ?_
    rintro e w2 ⟨rfl, o2, k2⟩
    have G2 := (S.out.blk.alloc (.cells #[.int .i64 a, .int .i64 b, .int .i64 c, Value.int .i64 x] 41)).keep k2 (fun h => hng h.symm)
    have R2 := (BRH.out.alloc (.cells #[.int .i64 a, .int .i64 b, .int .i64 c, Value.int .i64 x] 41)).keep k2 (by omega)
    have T2 := (Blk.new w1 41 #[.int .i64 a, .int .i64 b, .int .i64 c, Value.int .i64 x]).keep k2 (by omega)
    have cG := G2.cell
    have fG := G2.frozen
    have lG := G2.lt
    have cR2 := R2.cell
    have fR2 := R2.frozen
    have lR2 := R2.lt
    have cT := T2.cell
    have lT := T2.lt
    have hlw := F1.out.size
    have hO2 := o2.far (p := ⟨g, 2, none⟩) (by simp [Value.ownBlock]; exact hng) (.slice (some ⟨g', off, none⟩) (l.eraseIdx i).length cap)
    have hG2 := G2.set_ 2 (.slice (some ⟨g', off, none⟩) (l.eraseIdx i).length cap)
    have O2 := Lib.hid o2
    have K2 := Lib.hid k2
    have HO2 := Lib.hid hO2
    have HG2 := Lib.hid hG2
    have hgw : g < w.heap.size := hlg
    clear o2 k2 G2 R2 T2 cR fR cg c0 c1 c2 c3 hO2 hG2
    go_wp2_with fail
    refine bodyPost_ret (v := .tuple #[.agg #[.int .i64 a, .int .i64 b, .int .i64 c, Value.int .i64 x], .int .i64 0]) (by simp [results, Try.results16, go_sem, cR2]; try rfl) rfl ?_
    refine .inl ⟨i, _, P.out.1, P.out.2.1, P.out.2.2, rfl, .slice (some ⟨g', off, none⟩) (l.eraseIdx i).length cap, ?_, ?_, fun k hk => .inl hk⟩
    · refine SNet.kept (S := fun k => k = w.heap.size + 1) ⟨HG2.out, HO2.out⟩ ?_ (by omega) (by rintro k hk rfl; simp [Value.ownBlock] at hk; omega)
      repeat (first | exact Keep.refl _ _ | refine Keep.setCell ?_ ?_ _ | exact fun _ => rfl)
    · have k3 : Keep (foot g (.slice (some ⟨g', off, none⟩) l.length cap)) w w2 := Keep.step ((F1.out.more (fun _ _ h => h.elim)).alloc _) K2.out (fun i _ h => by subst h; exact .inr (by simp [Value.ownBlock]))
      have k4 := Keep.setCell k3 (p := ⟨g, 2, none⟩) (fun _ => .inl rfl) (.slice (some ⟨g', off, none⟩) (l.eraseIdx i).length cap)
      repeat (first | exact k4 | refine Keep.setCell ?_ (fun h => by simp at h; try omega) _)
end Go.Proofs.Ytgakggkffapnlaa.R_int
