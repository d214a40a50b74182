/-
  The document's net: To, Take.
-/
import Derived.Test.YtgakggkffapnlaaRef
namespace Go.Proofs.Ytgakggkffapnlaa
open Go.RowKit R_int
attribute [local go_sem ↓] Go.wp_at_zero Go.wp_at_succ

/-- a slice that To of the document hands back -/
def RToP (l : List Pk) (w : World) (e : Ending) (w' : World) : Prop :=
  ∃ v', e = .returned v' ∧ OwnS w' 71 4 v' l.length (cells l) ∧ Fresh w w' ∧ (∀ k, v'.ownBlock = some k → w.heap.size ≤ k)
theorem filter_snoc {pr : Pk → Bool} {l : List Pk} {k : Nat} {p : Pk} (hp : l[k]? = some p) : (l.take (k + 1)).filter pr = (l.take k).filter pr ++ (if pr p then [p] else []) := by
  rw [List.take_add_one, hp, List.filter_append]
  congr 1
  cases hq : pr p <;> simp [hq]
theorem filter_short (pr : Pk → Bool) (l : List Pk) (k : Nat) : ((l.take k).filter pr).length ≤ k := by
  have h1 := List.length_filter_le pr (l.take k)
  rw [List.length_take] at h1
  omega
set_option maxHeartbeats 2000000 in
theorem rto_any (g : Nat) (v : Value) (bx nx to : Int) (l : List Pk) (w : World) (h : RNet w g v bx nx l) (hl : l.length ≤ 100000) :
    Calls Try.prog 33 #[.pointer (some ⟨g, 0, none⟩), .int .i64 to] w (RToP (toL l to) w) := by
  obtain ⟨A, cap, rfl, hnc, hmc⟩ := h.own.shape
  have hmc : cap ≤ 9223372036854775807 := by unfold maxLen at hmc; omega
  have H := Lib.hid h
  obtain ⟨i0, hi, hz0, hz1, hz2⟩ := info_parts info_rpk
  have h04 : 0 < 4 := by omega
  clear h
  unfold toL
  obtain ⟨pr, hpr⟩ : ∃ pr : Pk → Bool, (fun p : Pk => p.to == to) = pr := ⟨_, rfl⟩
  have hpr' : ∀ p : Pk, (p.to == to) = pr p := fun p => by rw [← hpr]
  rw [hpr]
  have PR := Lib.hid hpr'
  clear hpr hpr'
  go_enter Try.func33, Try.ntmps33
  go_wp2_with fail
  go_loopg [5, 6] l.length (fun gk s u wr => ∃ (k : Nat) (v' : Value), k ≤ l.length ∧ gk = l.length - k ∧ u = .int .i64 k ∧ s = v' ∧ OwnS wr 71 4 v' ((l.take k).filter pr).length (cells ((l.take k).filter pr)) ∧ Fresh w wr ∧ (∀ k, v'.ownBlock = some k → w.heap.size ≤ k))
  case atStart => exact ⟨0, _, Nat.zero_le _, rfl, rfl, rfl, OwnS.nil _ _ _, Keep.refl _ _, by simp [Value.ownBlock]⟩
  case round =>
    obtain ⟨k, v', hk, rfl, rfl, rfl, hO, hF, hN⟩ := hrel
    have O := Lib.hid hO
    have F := Lib.hid hF
    have N := Lib.hid hN
    have hb := (H.out.fresh hF).blk.cell
    clear hO hF hN
    by_cases hlt : k < l.length
    · obtain ⟨p, hp⟩ : ∃ p, l[k]? = some p := ⟨_, List.getElem?_eq_getElem hlt⟩
      obtain ⟨g', off, cap', hv, _, _, _, hc⟩ := (H.out.own.fresh F.out).form (by omega)
      injection hv with e1 e2 e3
      subst e1 e3
      obtain ⟨c0, c1, c2, c3⟩ := cells_at l k p hp
      have c0 := hc _ _ c0
      have c1 := hc _ _ c1
      have c2 := hc _ _ c2
      have c3 := hc _ _ c3
      rw [← Nat.add_assoc] at c1 c2 c3
      have htk := filter_snoc (pr := pr) hp
      have hq0 := PR.out p
      have hlen := filter_short pr l k
      have TK := Lib.hid htk
      clear hc hp htk
      obtain ⟨a, b, c, x⟩ := p
      simp only at c0 c1 c2 c3 hq0
      cases hq : pr ⟨a, b, c, x⟩
      · rw [hq] at hq0 TK
        have E : Hid ((l.take (k + 1)).filter pr = (l.take k).filter pr) := Lib.hid (by have := TK.out; simpa using this)
        clear hq TK
        go_wp2_with fail
        go_roundg (l.length - (k + 1))
        case measure => omega
        case rel => exact ⟨k + 1, _, by omega, rfl, by go_num, rfl, by rw [E.out]; exact O.out, F.out, N.out⟩
      · rw [hq] at hq0 TK
        have E : Hid ((l.take (k + 1)).filter pr = (l.take k).filter pr ++ [⟨a, b, c, x⟩]) := Lib.hid (by have := TK.out; simpa using this)
        obtain ⟨L, hL⟩ : ∃ L, (l.take k).filter pr = L := ⟨_, rfl⟩
        obtain ⟨m, hm⟩ : ∃ m, L.length = m := ⟨_, rfl⟩
        rw [hL] at O E hlen
        rw [hm] at O hlen
        have HM := Lib.hid hm
        obtain ⟨A2, cap2, rfl, hc2, hm2⟩ := O.out.shape
        have hM1 : m + 1 ≤ maxLen := one_le_maxLen (by omega)
        have hM2 : (m + 1) * 32 ≤ 140737488355328 := by omega
        clear hq TK hL hm
        go_wp2_with (at_builtin; refine wpList_append_OwnS _ rfl _ _ 30 rfl 71 i0 (.agg #[.int .i64 0, .int .i64 0, .int .i64 0, .int .i64 0]) 4 32 Try.underlying30 hi hz0 hz1 hz2 rfl h04 (.slice A2 m cap2) m (cells L) rfl (O.out.alloc _) (.slice (some ⟨wr.heap.size, 0, none⟩) 1 1) 1 (cells [⟨a, b, c, x⟩]) rfl (Src.one_new wr 71 4 #[.int .i64 a, .int .i64 b, .int .i64 c, .int .i64 x] rfl) (cells_one _) hM1 hM2 ?_; intro v3 w3 o3 k3 n3; obtain ⟨A3, cap3, rfl, _, _⟩ := o3.shape; have U1 := Lib.hid o3; have U2 := Lib.hid k3; have U3 := Lib.hid n3; clear o3 k3 n3)
        go_roundg (l.length - (k + 1))
        case measure => omega
        case rel =>
          refine ⟨k + 1, .slice A3 (m + 1) cap3, by omega, rfl, by go_num, rfl, ?_, ?_, ?_⟩
          · rw [E.out, cells_append, List.length_append, HM.out]
            exact U1.out
          · exact (F.out.alloc _).step U2.out (fun i hi e => by have := N.out i e; omega)
          · intro i hi
            rcases U3.out i hi with h | h
            · exact N.out i h
            · have := F.out.size
              simp at h
              omega
    · obtain rfl : k = l.length := by omega
      have hz := O.out
      rw [List.take_length] at hz
      have HZ := Lib.hid hz
      clear hz
      go_wp2_with fail
      go_ret
      exact ⟨_, rfl, HZ.out, F.out, N.out⟩

/-- what Take of the document tells -/
def OutIs (o : Option Pk) (a b c x er : Int) : Prop := (∃ p, o = some p ∧ a = p.no ∧ b = p.fr ∧ c = p.to ∧ x = p.x ∧ er = 0) ∨ (o = none ∧ a = 0 ∧ b = 0 ∧ c = 0 ∧ x = 0 ∧ er = 14)
def RTakeP (g : Nat) (bx nx : Int) (l : List Pk) (no : Int) (w : World) (e : Ending) (w' : World) : Prop :=
  ∃ a b c x er : Int, e = .returned (.tuple #[.agg #[.int .i64 a, .int .i64 b, .int .i64 c, .int .i64 x], .int .i64 er]) ∧ OutIs ((l.filter (fun p => p.no == no)).getLast?) a b c x er ∧
    ∃ v', RNet w' g v' bx nx (l.filter (fun p => !(p.no == no))) ∧ Keep (fun k => k = g) w w' ∧ ∀ k, v'.ownBlock = some k → w.heap.size ≤ k
set_option maxHeartbeats 4000000 in
theorem rtake_any (g : Nat) (v : Value) (bx nx no : Int) (l : List Pk) (w : World) (h : RNet w g v bx nx l) (hl : l.length ≤ 100000) :
    Calls Try.prog 27 #[.pointer (some ⟨g, 0, none⟩), .int .i64 no] w (RTakeP g bx nx l no w) := by
  obtain ⟨A, cap, rfl, hnc, hmc⟩ := h.own.shape
  have hmc : cap ≤ 9223372036854775807 := by unfold maxLen at hmc; omega
  have hlg := h.blk.lt
  have H := Lib.hid h
  have F0 : Fresh w ((w.alloc (.cells #[.int .i64 0, .int .i64 0, .int .i64 0, .int .i64 0] 71)).alloc (.cells #[.int .i64 0, .int .i64 0, .int .i64 0, .int .i64 0] 71)) := ((Keep.refl _ _).alloc _).alloc _
  have BR := (Blk.new w 71 #[.int .i64 0, .int .i64 0, .int .i64 0, .int .i64 0]).alloc (.cells #[.int .i64 0, .int .i64 0, .int .i64 0, .int .i64 0] 71)
  have BT : Blk ((w.alloc (.cells #[.int .i64 0, .int .i64 0, .int .i64 0, .int .i64 0] 71)).alloc (.cells #[.int .i64 0, .int .i64 0, .int .i64 0, .int .i64 0] 71)) (w.heap.size + 1) 71 #[.int .i64 0, .int .i64 0, .int .i64 0, .int .i64 0] := Blk.at_new (by simp) _ _
  have HF := Lib.hid F0
  have HR := Lib.hid BR
  have HT := Lib.hid BT
  obtain ⟨i0, hi, hz0, hz1, hz2⟩ := info_parts info_rpk
  have h04 : 0 < 4 := by omega
  clear h F0 BR BT
  go_enter Try.func27, Try.ntmps27
  go_wp2_with fail
  go_loopg [6, 8, 9] l.length (fun gk s er u wr => ∃ (k : Nat) (v' : Value) (a b c x r : Int), k ≤ l.length ∧ gk = l.length - k ∧ u = .int .i64 k ∧ s = v' ∧ er = .int .i64 r ∧ Hid (OutIs (((l.take k).filter (fun p => p.no == no)).getLast?) a b c x r) ∧ OwnS wr 71 4 v' ((l.take k).filter (fun p => !(p.no == no))).length (cells ((l.take k).filter (fun p => !(p.no == no)))) ∧ Fresh w wr ∧ (∀ k, v'.ownBlock = some k → w.heap.size + 2 ≤ k) ∧ Blk wr w.heap.size 71 #[.int .i64 0, .int .i64 0, .int .i64 0, .int .i64 0] ∧ Blk wr (w.heap.size + 1) 71 #[.int .i64 a, .int .i64 b, .int .i64 c, .int .i64 x])
  case atStart => exact ⟨0, _, 0, 0, 0, 0, 14, Nat.zero_le _, rfl, rfl, rfl, rfl, Lib.hid (.inr (by simp)), OwnS.nil _ _ _, HF.out, by simp [Value.ownBlock], HR.out, HT.out⟩
  case round =>
    obtain ⟨k, v', a, b, c, x, r, hk, rfl, rfl, rfl, rfl, OI, hO, hF, hN, hR, hT⟩ := hrel
    have O := Lib.hid hO
    have F := Lib.hid hF
    have N := Lib.hid hN
    have R := Lib.hid hR
    have T := Lib.hid hT
    have hb := (H.out.fresh hF).blk.cell
    have ht := hT.cell
    have ft := hT.frozen
    have lt := hT.lt
    clear hO hF hN hR hT
    by_cases hlt : k < l.length
    · obtain ⟨p, hp⟩ : ∃ p, l[k]? = some p := ⟨_, List.getElem?_eq_getElem hlt⟩
      obtain ⟨g', off, cap', hv, _, _, _, hc⟩ := (H.out.own.fresh F.out).form (by omega)
      injection hv with e1 e2 e3
      subst e1 e3
      obtain ⟨c0, c1, c2, c3⟩ := cells_at l k p hp
      have c0 := hc _ _ c0
      have c1 := hc _ _ c1
      have c2 := hc _ _ c2
      have c3 := hc _ _ c3
      rw [← Nat.add_assoc] at c1 c2 c3
      have TK1 := Lib.hid (filter_snoc (pr := fun p => p.no == no) hp)
      have TK2 := Lib.hid (filter_snoc (pr := fun p => !(p.no == no)) hp)
      have hlen := filter_short (fun p => !(p.no == no)) l k
      clear hc hp
      obtain ⟨a', b', c', x'⟩ := p
      simp only at c0 c1 c2 c3
      cases hq : (a' == no)
      · have E1 : Hid (((l.take (k + 1)).filter (fun p : Pk => p.no == no)).getLast? = ((l.take k).filter (fun p : Pk => p.no == no)).getLast?) := Lib.hid (by have := TK1.out; rw [this]; simp [hq])
        have E2 : Hid ((l.take (k + 1)).filter (fun p : Pk => !(p.no == no)) = (l.take k).filter (fun p : Pk => !(p.no == no)) ++ [⟨a', b', c', x'⟩]) := Lib.hid (by have := TK2.out; rw [this]; simp [hq])
        obtain ⟨L, hL⟩ : ∃ L, (l.take k).filter (fun p : Pk => !(p.no == no)) = L := ⟨_, rfl⟩
        obtain ⟨m, hm⟩ : ∃ m, L.length = m := ⟨_, rfl⟩
        rw [hL] at O E2 hlen
        rw [hm] at O hlen
        have HM := Lib.hid hm
        obtain ⟨A2, cap2, rfl, hc2, hm2⟩ := O.out.shape
        have hM1 : m + 1 ≤ maxLen := one_le_maxLen (by omega)
        have hM2 : (m + 1) * 32 ≤ 140737488355328 := by omega
        have NR : Hid (∀ i, (Value.slice A2 m cap2).ownBlock = some i → i ≠ w.heap.size ∧ i ≠ w.heap.size + 1) := Lib.hid (fun i hi => by have := N.out i hi; omega)
        clear TK1 TK2 hL hm
        go_wp2_with (at_builtin; refine wpList_append_OwnS _ rfl _ _ 30 rfl 71 i0 (.agg #[.int .i64 0, .int .i64 0, .int .i64 0, .int .i64 0]) 4 32 Try.underlying30 hi hz0 hz1 hz2 rfl h04 (.slice A2 m cap2) m (cells L) rfl (O.out.alloc _) (.slice (some ⟨wr.heap.size, 0, none⟩) 1 1) 1 (cells [⟨a', b', c', x'⟩]) rfl (Src.one_new wr 71 4 #[.int .i64 a', .int .i64 b', .int .i64 c', .int .i64 x'] rfl) (cells_one _) hM1 hM2 ?_; intro v3 w3 o3 k3 n3; obtain ⟨A3, cap3, rfl, _, _⟩ := o3.shape; have U1 := Lib.hid o3; have U2 := Lib.hid k3; have U3 := Lib.hid n3; clear o3 k3 n3)
        go_roundg (l.length - (k + 1))
        case measure => omega
        case rel =>
          refine ⟨k + 1, .slice A3 (m + 1) cap3, a, b, c, x, r, by omega, rfl, by go_num, rfl, rfl, Lib.hid (by rw [E1.out]; exact OI.out), ?_, ?_, ?_, ?_, ?_⟩
          · rw [E2.out, cells_append, List.length_append, HM.out]
            exact U1.out
          · exact (F.out.alloc _).step U2.out (fun i hi e => by have := N.out i e; omega)
          · intro i hi
            rcases U3.out i hi with h | h
            · exact N.out i h
            · simp at h
              omega
          · exact (R.out.alloc _).keep U2.out (fun h => (NR.out _ h).1 rfl)
          · exact (T.out.alloc _).keep U2.out (fun h => (NR.out _ h).2 rfl)
      · have E1 : Hid (((l.take (k + 1)).filter (fun p : Pk => p.no == no)).getLast? = some ⟨a', b', c', x'⟩) := Lib.hid (by have := TK1.out; rw [this]; simp [hq])
        have E2 : Hid ((l.take (k + 1)).filter (fun p : Pk => !(p.no == no)) = (l.take k).filter (fun p : Pk => !(p.no == no))) := Lib.hid (by have := TK2.out; rw [this]; simp [hq])
        clear TK1 TK2
        go_wp2_with fail
        have B4 := Blk.set4 T.out (.int .i64 a') (.int .i64 b') (.int .i64 c') (.int .i64 x')
        have K4 := keep4 wr (w.heap.size + 1) (.int .i64 a') (.int .i64 b') (.int .i64 c') (.int .i64 x')
        go_roundg (l.length - (k + 1))
        case measure => omega
        case rel => exact ⟨k + 1, _, a', b', c', x', 0, by omega, rfl, by go_num, rfl, rfl, Lib.hid (.inl ⟨_, E1.out, rfl, rfl, rfl, rfl, rfl⟩), by rw [E2.out]; exact O.out.kept K4 (fun i hi e => by have := N.out i hi; omega), F.out.step K4 (fun i hi e => by omega), N.out, R.out.keep K4 (by omega), B4⟩
    · obtain rfl : k = l.length := by omega
      have hz := O.out
      rw [List.take_length] at hz OI
      have HZ := Lib.hid hz
      have hr := R.out.cell
      have fr := R.out.frozen
      have lr := R.out.lt
      have S1 := H.out.fresh F.out
      have fg := S1.blk.frozen
      have lg := S1.blk.lt
      have G1 := Lib.hid S1.blk
      obtain ⟨A2, cap2, rfl, hc2, hm2⟩ := hz.shape
      have hgR : g ≠ w.heap.size := by omega
      have hgT : g ≠ w.heap.size + 1 := by omega
      clear hz S1
      go_wp2_with fail
      have hne := HZ.out.ne_blk G1.out (by decide)
      have HG2 := Lib.hid (G1.out.set_ 2 (.slice A2 (l.filter (fun p => !(p.no == no))).length cap2))
      have HO2 := Lib.hid (HZ.out.far (p := ⟨g, 2, none⟩) hne (.slice A2 (l.filter (fun p => !(p.no == no))).length cap2))
      have KG : Keep (fun k => k = g) w (wr.setCell ⟨g, 2, none⟩ (.slice A2 (l.filter (fun p => !(p.no == no))).length cap2)) := Keep.setCell (S := fun k => k = g) (p := ⟨g, 2, none⟩) (F.out.more (fun _ _ h => h.elim)) (fun _ => rfl) _
      have hgl := KG.size
      refine bodyPost_ret (v := .tuple #[.agg #[.int .i64 a, .int .i64 b, .int .i64 c, .int .i64 x], .int .i64 r]) (by simp [results, Try.results27, go_sem, hr]; try rfl) rfl ?_
      have K4 := keep4 (wr.setCell ⟨g, 2, none⟩ (.slice A2 (l.filter (fun p => !(p.no == no))).length cap2)) w.heap.size (.int .i64 a) (.int .i64 b) (.int .i64 c) (.int .i64 x)
      refine ⟨a, b, c, x, r, rfl, OI.out, .slice A2 (l.filter (fun p => !(p.no == no))).length cap2, RNet.kept (S := fun k => k = w.heap.size) ⟨HG2.out, HO2.out⟩ K4 (by omega) (fun i hi e => by have := N.out i hi; omega), KG.step K4 (fun i hi e => by omega), fun i hi => by have := N.out i hi; omega⟩
def RPickP (g : Nat) (bx nx : Int) (l : List Pk) (to which : Int) (w : World) (e : Ending) (w' : World) : Prop :=
  (toL l to = [] ∧ e = .returned (.tuple #[.agg #[.int .i64 0, .int .i64 0, .int .i64 0, .int .i64 0], .int .i64 14]) ∧ Fresh w w') ∨
  ∃ (i : Nat) (p : Pk), (i : Int) = idxW which (toL l to).length ∧ (toL l to)[i]? = some p ∧ RTakeP g bx nx l p.no w e w'
set_option maxHeartbeats 1000000 in
theorem rpick_bad (g : Nat) (v : Value) (bx nx to which : Int) (l : List Pk) (w : World) (h : RNet w g v bx nx l) (hb : boxB bx to = false) :
    Calls Try.prog 29 #[.pointer (some ⟨g, 0, none⟩), .int .i64 to, .int .i64 which] w fun e w' => e = .returned (.tuple #[.agg #[.int .i64 0, .int .i64 0, .int .i64 0, .int .i64 0], .int .i64 1]) ∧ Fresh w w' := by
  have hc := h.blk.cell
  have hlt := h.blk.lt
  have hbb : ¬ (0 ≤ to ∧ to < bx) := by simpa [boxB] using hb
  clear h hb
  have hcase : decide (to < 0) = true ∨ (decide (to < 0) = false ∧ decide (bx ≤ to) = true) := by simp; omega
  clear hbb
  rcases hcase with t1 | ⟨t1, t2⟩
  all_goals
    go_enter Try.func29, Try.ntmps29
    go_wp2_with fail
    refine bodyPost_ret (v := .tuple #[.agg #[.int .i64 0, .int .i64 0, .int .i64 0, .int .i64 0], .int .i64 1]) (by simp [results, Try.results29, go_sem]; try rfl) rfl ?_
    refine ⟨rfl, ?_⟩
    repeat (first | exact Keep.refl _ _ | refine Keep.setCell ?_ (fun h => by simp at h; try omega) _ | refine Keep.alloc ?_ _)
theorem RTakeP.base {g : Nat} {bx nx : Int} {l : List Pk} {no : Int} {w W w2 : World} {e : Ending} {X : World} {S : Nat → Prop} (f : Fresh w W) (h : RTakeP g bx nx l no W e w2) (k : Keep S w2 X) (hS : ∀ i, S i → w.heap.size ≤ i ∧ i < W.heap.size) (hg : g < w.heap.size) : RTakeP g bx nx l no w e X := by
  obtain ⟨a, b, c, x, r, h1, h2, v', h3, h4, h5⟩ := h
  refine ⟨a, b, c, x, r, h1, h2, v', h3.kept k (fun hs => by have := (hS g hs).1; omega) (fun j hj hs => by have := h5 j hj; have := (hS j hs).2; omega), ?_, fun j hj => by have := h5 j hj; have := f.size; omega⟩
  exact ((f.more (fun _ _ h => h.elim)).step h4 (fun _ _ h => h)).step k (fun j hj hs => by have := (hS j hs).1; omega)
set_option maxHeartbeats 2000000 in
theorem rpick_ok (g : Nat) (v : Value) (bx nx to which : Int) (l : List Pk) (w : World) (h : RNet w g v bx nx l) (hb : boxB bx to = true) (hl : l.length ≤ 100000) :
    Calls Try.prog 29 #[.pointer (some ⟨g, 0, none⟩), .int .i64 to, .int .i64 which] w (RPickP g bx nx l to which w) := by
  have hc := h.blk.cell
  have hlt := h.blk.lt
  have hbb : 0 ≤ to ∧ to < bx := by simpa [boxB] using hb
  have t1 : decide (to < 0) = false := by simp; omega
  have t2 : decide (bx ≤ to) = false := by simp; omega
  have F0 : Fresh w (w.alloc (.cells #[.int .i64 0, .int .i64 0, .int .i64 0, .int .i64 0] 71)) := (Keep.refl _ _).alloc _
  have BR := Blk.new w 71 #[.int .i64 0, .int .i64 0, .int .i64 0, .int .i64 0]
  have TO := Lib.hid (rto_any g v bx nx to l _ (h.fresh F0) hl)
  have H := Lib.hid h
  have HF := Lib.hid F0
  have HR := Lib.hid BR
  clear h F0 BR hb hbb
  go_enter Try.func29, Try.ntmps29
  go_wp2_with fail
  refine TO.out.mono ?_
  rintro e w1 ⟨vl, rfl, o1, f1, n1⟩
  have hkl : (toL l to).length ≤ l.length := List.length_filter_le _ _
  obtain ⟨L, hL⟩ : ∃ L, toL l to = L := ⟨_, rfl⟩
  rw [hL] at o1 hkl
  have HL := Lib.hid hL
  have F1 := Lib.hid (HF.out.step f1 (fun _ _ h => h))
  have R1 := Lib.hid (f1.blk_ HR.out)
  have cr := R1.out.cell
  have fr := R1.out.frozen
  have lr := R1.out.lt
  obtain ⟨A2, cap2, rfl, hnc, hmc⟩ := o1.shape
  have hmc : cap2 ≤ 9223372036854775807 := by unfold maxLen at hmc; omega
  have O1 := Lib.hid o1
  clear hL f1 o1 n1 hc
  by_cases h0 : L.length = 0
  · have t0 : ((L.length : Int) == 0) = true := by simp [h0]
    have HNil := Lib.hid (List.eq_nil_of_length_eq_zero h0)
    clear h0
    go_wp2_with fail
    refine bodyPost_ret (v := .tuple #[.agg #[.int .i64 0, .int .i64 0, .int .i64 0, .int .i64 0], .int .i64 14]) (by simp [results, Try.results29, go_sem, cr]; try rfl) rfl ?_
    have K4 := keep4 w1 w.heap.size (.int .i64 0) (.int .i64 0) (.int .i64 0) (.int .i64 0)
    exact .inl ⟨by rw [HL.out]; exact HNil.out, rfl, F1.out.step K4 (fun i hi e => by omega)⟩
  · have hpos : 0 < L.length := by omega
    have t0 : ((L.length : Int) == 0) = false := by rw [beq_eq_false_iff_ne]; omega
    have t00 : ¬ (L.length : Int) = 0 := by omega
    have hin := idxW_in which L.length hpos
    obtain ⟨i, hiW⟩ := Int.eq_ofNat_of_zero_le hin.1
    have hil : i < L.length := by omega
    obtain ⟨p, hp⟩ : ∃ p, L[i]? = some p := ⟨_, List.getElem?_eq_getElem hil⟩
    obtain ⟨g2, off2, cap3, hv, _, _, _, hcc⟩ := O1.out.form hpos
    injection hv with e1 e2 e3
    subst e1 e3
    have cp := hcc _ _ (cells_at L i p hp).1
    have TK := Lib.hid (rtake_any g v bx nx p.no l w1 (H.out.fresh F1.out) hl)
    have HI := Lib.hid (show (i : Int) = idxW which L.length ∧ L[i]? = some p from ⟨hiW.symm, hp⟩)
    have hiW' := hiW
    unfold idxW at hiW'
    have j0 : (0 : Int) ≤ (i : Int) := by omega
    have j1 : (i : Int) < (L.length : Int) := by omega
    obtain ⟨r, hrr⟩ : ∃ r, which.tmod (L.length : Int) = r := ⟨_, rfl⟩
    rw [hrr] at hiW'
    clear hiW hin hp hcc
    by_cases hneg : r < 0
    · rw [if_pos hneg] at hiW'
      have tn : decide (r < 0) = true := by simpa using hneg
      have hw : IntKind.i64.wrap (r + (L.length : Int)) = (i : Int) := by rw [hiW']; exact IntWalk.i64_in _ (by omega)
      clear hiW' hneg
      go_wp2_with fail
      refine TK.out.mono ?_
      rintro e w2 ⟨a, b, c, x, er, rfl, hoi, v2, r2, k2, n2⟩
      have R2 := R1.out.keep k2 (by omega)
      have cr2 := R2.cell
      have fr2 := R2.frozen
      have lr2 := R2.lt
      have RT := Lib.hid (show RTakeP g bx nx l p.no w1 _ w2 from ⟨a, b, c, x, er, rfl, hoi, v2, r2, k2, n2⟩)
      clear R2 cr fr hoi r2 k2 n2
      go_wp2_with fail
      refine bodyPost_ret (v := .tuple #[.agg #[.int .i64 a, .int .i64 b, .int .i64 c, .int .i64 x], .int .i64 er]) (by simp [results, Try.results29, go_sem, cr2]; try rfl) rfl ?_
      have K4 := keep4 w2 w.heap.size (.int .i64 a) (.int .i64 b) (.int .i64 c) (.int .i64 x)
      exact .inr ⟨i, p, by rw [HL.out]; exact HI.out.1, by rw [HL.out]; exact HI.out.2, RTakeP.base F1.out RT.out K4 (by rintro k rfl; omega) hlt⟩
    · rw [if_neg hneg] at hiW'
      subst hiW'
      have tn : decide ((i : Int) < 0) = false := by simp
      clear hneg
      go_wp2_with fail
      refine TK.out.mono ?_
      rintro e w2 ⟨a, b, c, x, er, rfl, hoi, v2, r2, k2, n2⟩
      have R2 := R1.out.keep k2 (by omega)
      have cr2 := R2.cell
      have fr2 := R2.frozen
      have lr2 := R2.lt
      have RT := Lib.hid (show RTakeP g bx nx l p.no w1 _ w2 from ⟨a, b, c, x, er, rfl, hoi, v2, r2, k2, n2⟩)
      clear R2 cr fr hoi r2 k2 n2
      go_wp2_with fail
      refine bodyPost_ret (v := .tuple #[.agg #[.int .i64 a, .int .i64 b, .int .i64 c, .int .i64 x], .int .i64 er]) (by simp [results, Try.results29, go_sem, cr2]; try rfl) rfl ?_
      have K4 := keep4 w2 w.heap.size (.int .i64 a) (.int .i64 b) (.int .i64 c) (.int .i64 x)
      exact .inr ⟨i, p, by rw [HL.out]; exact HI.out.1, by rw [HL.out]; exact HI.out.2, RTakeP.base F1.out RT.out K4 (by rintro k rfl; omega) hlt⟩
end Go.Proofs.Ytgakggkffapnlaa
