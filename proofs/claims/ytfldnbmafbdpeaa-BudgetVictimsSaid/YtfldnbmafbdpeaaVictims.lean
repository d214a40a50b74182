/- BudgetVictims returns true at every input: which event goes back first. No conditions. -/
import Derived.Test.YtfldnbmafbdpeaaVictP
import Derived.Test.YtfldnbmafbdpeaaRefVict
import Derived.Test.YtfldnbmafbdpeaaOwn
import Derived.Test.YtfldnbmafbdpeaaAwake
namespace Go.Proofs.Ytfldnbmafbdpeaa
open Go.RowKit

def evCells (l : List Ev) : List Value := l.flatMap Ev.enc
theorem evCells_length (l : List Ev) : (evCells l).length = l.length * 7 := by
  induction l with
  | nil => rfl
  | cons a l ih => simp only [evCells, List.flatMap_cons, List.length_append, List.length_cons] at ih ⊢; simp only [Ev.enc, List.length_cons, List.length_nil]; omega
theorem evCells_append (l m : List Ev) : evCells (l ++ m) = evCells l ++ evCells m := by simp [evCells]
theorem evCells_one (l : List Ev) : ∀ u ∈ evCells l, u.oneCell' = true := by
  intro u hu
  simp only [evCells, List.mem_flatMap] at hu
  obtain ⟨e, _, he⟩ := hu
  simp only [Ev.enc, List.mem_cons, List.not_mem_nil, or_false] at he
  rcases he with rfl | rfl | rfl | rfl | rfl | rfl | rfl <;> rfl
theorem evCells_at : ∀ (l : List Ev) (k i : Nat) (e : Ev) (u : Value), l[k]? = some e → e.enc[i]? = some u → (evCells l)[k * 7 + i]? = some u
  | [], _, _, _, _, h, _ => by simp at h
  | a :: l, 0, i, e, u, h, hu => by
    simp at h
    subst h
    rw [show evCells (a :: l) = a.enc ++ evCells l by simp [evCells], Nat.zero_mul, Nat.zero_add, List.getElem?_append_left (List.getElem?_eq_some_iff.1 hu).1]
    exact hu
  | a :: l, k + 1, i, e, u, h, hu => by
    have := evCells_at l k i e u (by simpa using h) hu
    rw [show evCells (a :: l) = a.enc ++ evCells l by simp [evCells], show (k + 1) * 7 + i = a.enc.length + (k * 7 + i) by simp [Ev.enc]; omega, List.getElem?_append_right (by omega), Nat.add_sub_cancel_left]
    exact this
theorem evsAt_own {w : World} {v : Value} {l : List Ev} (h : OwnS w 46 7 v l.length (evCells l)) : ∃ A c, v = .slice A l.length c ∧ EvsAt w A l := by
  obtain ⟨A, c, rfl, _, _⟩ := h.shape
  refine ⟨A, c, rfl, fun k e he => ?_⟩
  have hk := (List.getElem?_eq_some_iff.1 he).1
  obtain ⟨g, off, cap, hv, hlt, _, _, hc⟩ := h.form (by omega)
  injection hv with hv1 _ hv3
  have f := fun i u hu => (show w.cell? ⟨g, off + k * 7 + i, none⟩ = some u by rw [Nat.add_assoc]; exact hc _ u (evCells_at l k i e u he hu))
  exact ⟨g, off, hv1, hlt, f 0 _ rfl, f 1 _ rfl, f 2 _ rfl, f 3 _ rfl, f 4 _ rfl, f 5 _ rfl, f 6 _ rfl⟩
theorem evsAt_arg {w : World} {A : Option Addr} {l : List Ev} (ha : SliceAt w A 7 (l.map Ev.enc)) : EvsAt w A l := fun k e he => by
  obtain ⟨b, off, hA, lt, hc⟩ := ha k (by rw [List.length_map]; exact (List.getElem?_eq_some_iff.1 he).1)
  have hr : (l.map Ev.enc).getD k [] = e.enc := by rw [List.getD_eq_getElem?_getD, List.getElem?_map, he]; rfl
  rw [hr] at hc
  exact ⟨b, off, hA, lt, hc 0 _ rfl, hc 1 _ rfl, hc 2 _ rfl, hc 3 _ rfl, hc 4 _ rfl, hc 5 _ rfl, hc 6 _ rfl⟩
theorem EvsAt.fresh {w w' : World} {A : Option Addr} {l : List Ev} (h : EvsAt w A l) (f : Fresh w w') : EvsAt w' A l := fun k e he => by
  obtain ⟨b, off, hA, lt, c0, c1, c2, c3, c4, c5, c6⟩ := h k e he
  exact ⟨b, off, hA, Nat.lt_of_lt_of_le lt f.size, f.cell_ c0, f.cell_ c1, f.cell_ c2, f.cell_ c3, f.cell_ c4, f.cell_ c5, f.cell_ c6⟩
theorem info_ev : (Try.prog.info? 46).map (fun i => (i.zero, i.size, i.bytes)) = some (some (.agg #[.int .i64 0, .int .i64 0, .int .i64 0, .int .i64 0, .int .i64 0, .int .i64 0, .int .i64 0]), 7, 56) := by kernel_rfl
theorem back_snoc (l : List Ev) (k : Nat) (e : Ev) (hk : k < l.length) (he : l[l.length - 1 - k]? = some e) : (l.drop (l.length - (k + 1))).reverse = (l.drop (l.length - k)).reverse ++ [e] := by
  have h1 : l.length - (k + 1) < l.length := by omega
  rw [List.drop_eq_getElem_cons h1, List.reverse_cons, show l.length - (k + 1) + 1 = l.length - k by omega]
  rw [show l.length - 1 - k = l.length - (k + 1) by omega, List.getElem?_eq_getElem h1] at he
  injection he with he
  rw [he]

theorem victims_long (A : Option Addr) (n c : Nat) (f : Int) (w : World) (h : 60 < n) (hn : n ≤ 9223372036854775807) :
    Law Try.prog 6 #[.slice A n c, .int .i64 f] w := by
  unfold Law
  have q1 : decide (60 < (n : Int)) = true := by simp; omega
  go_enter Try.func6, Try.ntmps6
  go_wp2_with (go_at_call 8; refine (awake_any _).mono ?_; rintro e w2 ⟨rfl, h3⟩)
  go_ret
  exact ⟨rfl, Fresh.below_ h3 (Nat.le_refl _)⟩

set_option maxRecDepth 100000 in
set_option maxHeartbeats 4000000 in
theorem victims_ok (A : Option Addr) (n c : Nat) (l : List Ev) (f : Int) (w : World) (h : n ≤ 60) (hl : l.length = n) (ha : EvsAt w A l) :
    Law Try.prog 6 #[.slice A n c, .int .i64 f] w := by
  unfold Law
  have q1 : decide (60 < (n : Int)) = false := by simp; omega
  have HA := Lib.hid ha
  have HL := Lib.hid hl
  clear ha hl
  obtain ⟨i0, hi, hz0, hz1, hz2⟩ := info_parts info_ev
  have h07 : 0 < 7 := by omega
  go_enter Try.func6, Try.ntmps6
  go_wp2_with fail
  go_loopg [5, 6] n (fun gk b u wr => ∃ (k : Nat) (v : Value), k ≤ n ∧ gk = n - k ∧ b = v ∧ u = .int .i64 ((n : Int) - 1 - k) ∧ OwnS wr 46 7 v k (evCells (l.drop (n - k)).reverse) ∧ Fresh w wr ∧ ∀ i, v.ownBlock = some i → w.heap.size ≤ i)
  case atStart => exact ⟨0, .slice none 0 0, by omega, rfl, rfl, by simp, by rw [Nat.sub_zero, ← HL.out, List.drop_length]; exact OwnS.nil _ _ _, Keep.refl _ _, fun i hi => by simp [Value.ownBlock] at hi⟩
  case round =>
    obtain ⟨k, v, hk, rfl, rfl, rfl, hO, hF, hN⟩ := hrel
    by_cases hlt : k < n
    · have hl := HL.out
      obtain ⟨e, he⟩ : ∃ e, l[n - 1 - k]? = some e := ⟨_, List.getElem?_eq_getElem (by omega)⟩
      have hsn := back_snoc l k e (by omega) (by rw [hl]; exact he)
      rw [hl] at hsn
      obtain ⟨b0, off, rfl, lt0, x0, x1, x2, x3, x4, x5, x6⟩ := HA.out _ e he
      have x0 := hF.cell_ x0; have x1 := hF.cell_ x1; have x2 := hF.cell_ x2; have x3 := hF.cell_ x3; have x4 := hF.cell_ x4; have x5 := hF.cell_ x5; have x6 := hF.cell_ x6
      obtain ⟨j, hj⟩ : ∃ j, n - 1 - k = j := ⟨_, rfl⟩
      rw [hj] at x0 x1 x2 x3 x4 x5 x6
      have ej : (n : Int) - 1 - (k : Int) = (j : Int) := by omega
      rw [ej]
      have jl : j < n := by omega
      have d0 : decide ((0 : Int) ≤ (j : Int)) = true := by simp
      obtain ⟨A2, cap2, rfl, _, _⟩ := hO.shape
      have HC : Hid (Src (wr.alloc (.cells #[.int .i64 e.a, .int .i64 e.s, .int .i64 e.t, .int .i64 e.n, .int .i64 e.d, .int .i64 e.k, .int .i64 e.x] 46)) 7 (.slice (some ⟨wr.heap.size, 0, none⟩) 1 1) 1 (evCells [e])) := Src.one_new wr 46 7 #[.int .i64 e.a, .int .i64 e.s, .int .i64 e.t, .int .i64 e.n, .int .i64 e.d, .int .i64 e.k, .int .i64 e.x] rfl
      have hL1 : k + 1 ≤ maxLen := one_le_maxLen (by omega)
      have hL2 : (k + 1) * 56 ≤ 140737488355328 := by omega
      have HO := Lib.hid hO
      have HF := Lib.hid hF
      have HSN := Lib.hid hsn
      have HNW := Lib.hid hN
      have HJ := Lib.hid ej
      have HJ2 := Lib.hid hj
      clear hO hF hN hsn he lt0 ej hj hl
      go_wp2_with (at_builtin; refine wpList_append_OwnS _ rfl _ _ 42 rfl 46 i0 (.agg #[.int .i64 0, .int .i64 0, .int .i64 0, .int .i64 0, .int .i64 0, .int .i64 0, .int .i64 0]) 7 56 Try.underlying42 hi hz0 hz1 hz2 rfl h07 (.slice A2 k cap2) k (evCells (l.drop (n - k)).reverse) rfl (HO.out.alloc _) (.slice (some ⟨wr.heap.size, 0, none⟩) 1 1) 1 (evCells [e]) rfl HC.out (evCells_one _) hL1 hL2 ?_; intro v3 w3 o3 k3 n3; obtain ⟨A3, cap3, rfl, _, _⟩ := o3.shape)
      go_roundg (n - (k + 1))
      case measure => omega
      case rel => exact ⟨k + 1, .slice A3 (k + 1) cap3, by omega, rfl, rfl, by have := HJ.out; congr 1; omega, by rw [HSN.out, evCells_append]; exact o3, (HF.out.alloc _).step k3 (fun i hi hh => by have := HNW.out i hh; omega), fun i hi => by
          rcases n3 i hi with h | h
          · exact HNW.out i h
          · have := HF.out.size; simp at h; omega⟩
    · obtain rfl : k = n := by omega
      have hl := HL.out
      rw [Nat.sub_self, List.drop_zero] at hO
      obtain ⟨A2, cap2, rfl, hB⟩ := evsAt_own (l := l.reverse) (by rw [List.length_reverse, hl]; exact hO)
      have hl2 := hl
      rw [List.length_reverse, hl]
      have hF1 := Lib.hid hF
      have HB := Lib.hid hB
      have ha := HA.out.fresh hF
      have HA1 := Lib.hid ha
      have d0 : decide ((0 : Int) ≤ (k : Int) - 1 - (k : Int)) = false := by simp; omega
      clear ha hB hF hO
      have hv := vic_reverse f l
      have hV1 := victim_any f A k c l _ hl2 (by omega) HA1.out
      obtain ⟨⟨v, b⟩, hvv⟩ : ∃ t, vic f l = t := ⟨_, rfl⟩
      have HVV := Lib.hid hvv
      have HRV := Lib.hid hv
      obtain ⟨e1, e2, e3, e4, e5, e6, e7⟩ := v
      rw [hvv] at hV1
      unfold Ev.val at hV1
      have HV1 := Lib.hid hV1
      have HL2 := Lib.hid hl2
      clear hV1 hvv hv hl2 hl
      go_wp2_with fail
      refine HV1.out.mono ?_
      rintro e w1 ⟨rfl, f1⟩
      have hv2 := HRV.out
      have hV2 := victim_any f A2 k cap2 l.reverse (w1.alloc (.cells #[.int .i64 e1, .int .i64 e2, .int .i64 e3, .int .i64 e4, .int .i64 e5, .int .i64 e6, .int .i64 e7] 46)) (by rw [List.length_reverse]; exact HL2.out) (by omega) ((HB.out.fresh f1).fresh ((Keep.refl _ _).alloc _))
      rw [hv2, HVV.out] at hV2
      unfold Ev.val at hV2
      have HV2 := Lib.hid hV2
      have F1 := Lib.hid (hF1.out.step f1 (fun _ _ h => h))
      have HA2 := Lib.hid (HA1.out.fresh f1)
      have B1 := Lib.hid (Blk.new w1 46 #[.int .i64 e1, .int .i64 e2, .int .i64 e3, .int .i64 e4, .int .i64 e5, .int .i64 e6, .int .i64 e7])
      clear hv2 hV2 f1 HV1 HA1
      go_wp2_with fail
      refine HV2.out.mono ?_
      rintro e w2 ⟨rfl, f2⟩
      have hV3 := rvictim_any f A k c l (w2.alloc (.cells #[.int .i64 e1, .int .i64 e2, .int .i64 e3, .int .i64 e4, .int .i64 e5, .int .i64 e6, .int .i64 e7] 46)) HL2.out (by omega) (((HA2.out.fresh ((Keep.refl _ _).alloc _)).fresh f2).fresh ((Keep.refl _ _).alloc _))
      rw [HVV.out] at hV3
      unfold Ev.val at hV3
      have HV3 := Lib.hid hV3
      have F2 := Lib.hid ((F1.out.alloc _).step f2 (fun _ _ h => h))
      have B2 := Lib.hid (f2.blk_ B1.out)
      have C2 := Lib.hid (Blk.new w2 46 #[.int .i64 e1, .int .i64 e2, .int .i64 e3, .int .i64 e4, .int .i64 e5, .int .i64 e6, .int .i64 e7])
      clear hV3 HV2 B1 f2
      go_wp2_with fail
      refine HV3.out.mono ?_
      rintro e w3 ⟨rfl, f3⟩
      have F3 := Lib.hid ((F2.out.alloc _).step f3 (fun _ _ h => h))
      have cA := (f3.blk_ (B2.out.alloc _)).cell
      have cB := (f3.blk_ C2.out).cell
      have cC := (Blk.new w3 46 #[.int .i64 e1, .int .i64 e2, .int .i64 e3, .int .i64 e4, .int .i64 e5, .int .i64 e6, .int .i64 e7]).cell
      have lA := (f3.blk_ (B2.out.alloc (.cells #[.int .i64 e1, .int .i64 e2, .int .i64 e3, .int .i64 e4, .int .i64 e5, .int .i64 e6, .int .i64 e7] 46))).lt
      have lB := (f3.blk_ C2.out).lt
      clear HV3 f3
      go_wp2_with (go_at_call 8; refine (awake_any _).mono ?_; rintro e w4 ⟨rfl, f4⟩)
      go_ret
      exact ⟨rfl, Fresh.below_ ((F3.out.alloc _).step f4 (fun _ _ h => h)) (Nat.le_refl _)⟩
open Go.ChangeShapes Go.WideShapes Go.ChangeAt
theorem evRows {H : Type} {enc : TypeId × Value → H} {W : World} {rows : List (List Value)} (h : ∀ r ∈ rows, All2 (Leaf enc Try.prog W) [3, 3, 3, 3, 3, 3, 3] r) : ∃ l : List Ev, rows = l.map Ev.enc := by
  obtain ⟨l, hl, _⟩ := decode (enc := enc) (P := Try.prog) (w := W) Ev.enc (fun _ => True) (ts := [3, 3, 3, 3, 3, 3, 3]) (by
    intro r hr
    obtain ⟨a, l0, e0, _, h0⟩ := all2_int Try.underlying3 hr
    obtain ⟨b, l1, e1, _, h1⟩ := all2_int Try.underlying3 h0
    obtain ⟨c, l2, e2, _, h2⟩ := all2_int Try.underlying3 h1
    obtain ⟨d, l3, e3, _, h3⟩ := all2_int Try.underlying3 h2
    obtain ⟨e, l4, e4, _, h4⟩ := all2_int Try.underlying3 h3
    obtain ⟨f, l5, e5, _, h5⟩ := all2_int Try.underlying3 h4
    obtain ⟨g, l6, e6, _, h6⟩ := all2_int Try.underlying3 h5
    have e7 := all2_nil h6
    subst e7 e6 e5 e4 e3 e2 e1 e0
    exact ⟨⟨a, b, c, d, e, f, g⟩, rfl, trivial⟩) rows h
  exact ⟨l, hl⟩
set_option maxRecDepth 100000 in
theorem budgetVictims_lifted (os : Os) (started : os.Started) (H : Type) (enc : TypeId × Value → H) :
    ReturnsInHanded {} Try.checked os 6 .any (Rows.budgetVictimsSpec.pre6 enc Try.prog Try.f6 Rows.budgetVictimsRow.domain false) (Rows.budgetVictimsSpec.post enc Try.prog Try.f6 false true false false) := by
  refine law_lifted (C := Try.checked) (tb := 4) (by kernel_rfl) (by kernel_rfl) started (by kernel_rfl) Try.func6 rfl ?_ rfl Try.underlying4 (by kernel_rfl)
    (ChangeSpec.witness6 (enc := enc) (C := Try.checked) false ⟨#[], #[.slice none 0 0, .int .i64 0], []⟩ 12 (by kernel_rfl) (by kernel_rfl) (by kernel_rfl) (by kernel_rfl)) ?_
  · intro ds hds
    match ds, hds with
    | [e0, e1], _ => rfl
  · intro W base args ds p hval hA hreach
    rw [Try.params6] at hA hval hreach
    obtain ⟨v0, vs0, d0, ds0, p0, q0, hargs, rfl, rfl, h0, r0⟩ := trodAll_cons hA
    obtain ⟨v1, vs1, d1, ds1, p1, q1, rfl, rfl, rfl, h1, r1⟩ := trodAll_cons r0
    obtain ⟨rfl, rfl, rfl⟩ := trodAll_nil r1
    obtain rfl : args = #[v0, v1] := by cases args; simp_all
    obtain ⟨A_l, n_l, c_l, rows_l, rfl, len_l, cap_l, max_l, leaf_l, at_l⟩ := arg_slice (n := 6) Try.underlying42 (by kernel_rfl) (by kernel_rfl) (by rw [show Try.prog.cellsOf 46 = 7 by kernel_rfl]; decide) (hval 0 42 v0 rfl rfl) h0
    rw [show flat Try.prog 6 46 = [3, 3, 3, 3, 3, 3, 3] by kernel_rfl] at leaf_l
    rw [show Try.prog.cellsOf 46 = 7 by kernel_rfl] at at_l
    obtain ⟨f, rfl, w_f⟩ := arg_int Try.underlying3 (hval 1 3 v1 rfl rfl) h1
    by_cases h : 60 < n_l
    · exact victims_long A_l n_l c_l f W h (by unfold maxLen at max_l; omega)
    · obtain ⟨l, rfl⟩ := evRows leaf_l
      exact victims_ok A_l n_l c_l l f W (by omega) (by simpa using len_l) (evsAt_arg at_l)

theorem budgetVictims_holds : Rows.BudgetVictimsSaid :=
  OpenClaim.holds_of_wide 6 Try.f6 rfl rfl rfl rfl rfl rfl rfl ⟨rfl, rfl, rfl, rfl, rfl⟩ rfl rfl rfl rfl rfl (by kernel_rfl) Try.func6 (by kernel_rfl)
    (of_decide_eq_true (by kernel_rfl)) (by unfold Func.isWrapper; first | (rw [if_pos (by decide +kernel)]; kernel_rfl) | (rw [if_neg (by decide +kernel)]; exact ⟨rfl, rfl⟩))
    (fun os started H enc _ => budgetVictims_lifted os started H enc)
end Go.Proofs.Ytfldnbmafbdpeaa
