/-
  The law's least, and without.
-/
import Derived.Test.YtegffmnenicldaaWorld
import Derived.Deep.DeepCutAuto
namespace Go.Proofs.Ytegffmnenicldaa
open Go.RowKit Go.Maps
attribute [local go_sem ↓] Go.wp_at_zero Go.wp_at_succ run_min

def foldO (os : List (List Int)) (a : Int) : Int := os.foldl (fun a l => l.foldl min a) a
def foldP (ps : List Pk) (a : Int) : Int := (ps.filter fun p => decide (p.kind = 0)).foldl (fun a p => min a p.at_) a
theorem least_eq (x : WS) : x.least = foldP x.l (foldO x.o 1073741825) := rfl
theorem foldO_succ {os : List (List Int)} {i : Nat} {l : List Int} (h : os[i]? = some l) (a : Int) : foldO (os.take (i + 1)) a = l.foldl min (foldO (os.take i) a) := by
  unfold foldO
  rw [List.take_add_one, h, List.foldl_append]
  rfl
theorem foldM_succ {l : List Int} {i : Nat} {t : Int} (h : l[i]? = some t) (a : Int) : (l.take (i + 1)).foldl min a = min ((l.take i).foldl min a) t := by
  rw [List.take_add_one, h, List.foldl_append]
  rfl
theorem foldP_succ {l : List Pk} {i : Nat} {p : Pk} (h : l[i]? = some p) (a : Int) : foldP (l.take (i + 1)) a = if p.kind = 0 then min (foldP (l.take i) a) p.at_ else foldP (l.take i) a := by
  unfold foldP
  rw [List.take_add_one, h, List.filter_append, List.foldl_append]
  by_cases hk : p.kind = 0
  · simp [hk]
  · simp [hk]
set_option maxRecDepth 100000 in
set_option maxHeartbeats 4000000 in
theorem least_any {w W : World} {gx gm gr n K : Nat} {gs bs : List Nat} {vos : List Value} {vw vo vl : Value} {x : WS} (h : SW w gx gs bs vos vw vo vl gm gr n K x W) (hn : n ≤ 100) (ho : ∀ l ∈ x.o, l.length ≤ 100000) (hl : x.l.length ≤ 1000000) :
    Calls Try.prog 22 #[.pointer (some ⟨gx, 0, none⟩)] W fun e w' => e = .returned (.int .i64 x.least) ∧ Fresh W w' := by
  obtain ⟨Ao, co, rfl, hco, hmo⟩ := h.oo.shape
  have hmo : co ≤ 9223372036854775807 := by unfold maxLen at hmo; omega
  obtain ⟨Al, cl, rfl, hcl, hml⟩ := h.ol.shape
  have hml : cl ≤ 9223372036854775807 := by unfold maxLen at hml; omega
  have HS := Lib.hid h
  have HO := Lib.hid ho
  have cx := h.bx.cell
  have lx := h.bx.lt
  have lno := h.ln.2.2.2
  rw [least_eq]
  clear h ho
  go_enter Try.func22, Try.ntmps22
  go_wp2_with fail
  go_loopg [3, 4] n (fun gk a u wr => ∃ i : Nat, i ≤ n ∧ gk = n - i ∧ a = .int .i64 (foldO (x.o.take i) 1073741825) ∧ u = .int .i64 i ∧ Fresh W wr)
  case atStart => exact ⟨0, by omega, rfl, rfl, rfl, Keep.refl _ _⟩
  case round =>
    obtain ⟨i, hi, rfl, rfl, rfl, hF⟩ := hrel
    have HF := Lib.hid hF
    have SR := Lib.hid (HS.out.fresh hF)
    have cr := SR.out.bx.cell
    have lr := SR.out.bx.lt
    clear hF cx lx
    by_cases hlt : i < n
    · obtain ⟨l, hl0⟩ : ∃ l, x.o[i]? = some l := ⟨_, List.getElem?_eq_getElem (by omega)⟩
      obtain ⟨v, hv, ov⟩ := SR.out.os i l hl0
      have hll := HO.out l (List.mem_of_getElem? hl0)
      obtain ⟨go, offo, _, hvo, lgo, _, _, hco⟩ := SR.out.oo.form (by omega)
      injection hvo with e1 e2 e3
      subst e1 e3
      have cv := hco _ _ hv
      obtain ⟨Av, cv', rfl, hcv, hmv⟩ := ov.shape
      have hmv : cv' ≤ 9223372036854775807 := by unfold maxLen at hmv; omega
      have OV := Lib.hid ov
      have HL := Lib.hid hl0
      obtain ⟨A0, hA0⟩ : ∃ A0, foldO (x.o.take i) 1073741825 = A0 := ⟨_, rfl⟩
      rw [hA0]
      have HA0 := Lib.hid hA0
      have i0 : (0 : Int) ≤ (i : Int) := by omega
      have i1 : (i : Int) < (n : Int) := by omega
      clear hco hv ov hl0 hA0 e2
      go_wp2_with fail
      rename World => wO
      go_loopg [3, 5] l.length (fun gk a u wr => ∃ k : Nat, k ≤ l.length ∧ gk = l.length - k ∧ a = .int .i64 ((l.take k).foldl min A0) ∧ u = .int .i64 k ∧ Fresh wO wr)
      case atStart => exact ⟨0, by omega, rfl, rfl, rfl, Keep.refl _ _⟩
      case round =>
        obtain ⟨k, hk, rfl, rfl, rfl, hF2⟩ := hrel
        have HF2 := Lib.hid hF2
        have cr2 := (SR.out.fresh hF2).bx.cell
        have lr2 := (SR.out.fresh hF2).bx.lt
        have cv2 := hF2.cell_ cv
        have OV2 := Lib.hid (OV.out.fresh hF2)
        clear hF2 cr lr
        by_cases hlk : k < l.length
        · obtain ⟨t, ht⟩ : ∃ t, l[k]? = some t := ⟨_, List.getElem?_eq_getElem hlk⟩
          obtain ⟨gv, offv, _, hvv, lgv, _, _, hcc⟩ := OV2.out.form (by omega)
          injection hvv with e1 e2 e3
          subst e1 e3
          have ct := hcc _ _ (show (ints l)[k]? = some (.int .i64 t) by rw [ints, List.getElem?_map, ht]; rfl)
          have HT := Lib.hid ht
          obtain ⟨B0, hB0⟩ : ∃ B0, (l.take k).foldl min A0 = B0 := ⟨_, rfl⟩
          rw [hB0]
          have HB0 := Lib.hid hB0
          have k0 : (0 : Int) ≤ (k : Int) := by omega
          have k1 : (k : Int) < (l.length : Int) := by omega
          clear hcc ht hB0 e2
          go_wp2_with fail
          go_roundg (l.length - (k + 1))
          case measure => omega
          case rel => exact ⟨k + 1, by omega, rfl, by rw [foldM_succ HT.out, HB0.out], by go_num, HF2.out⟩
        · obtain rfl : k = l.length := by omega
          rw [List.take_length]
          obtain ⟨B0, hB0⟩ : ∃ B0, l.foldl min A0 = B0 := ⟨_, rfl⟩
          rw [hB0]
          have HB0 := Lib.hid hB0
          clear hB0
          go_wp2_with fail
          go_roundg (n - (i + 1))
          case measure => omega
          case rel => exact ⟨i + 1, by omega, rfl, by rw [foldO_succ HL.out, HA0.out, HB0.out], by go_num, HF.out.step HF2.out (fun _ _ h => h)⟩
    · obtain rfl : i = n := by omega
      have hfo : foldO (x.o.take i) 1073741825 = foldO x.o 1073741825 := by rw [← lno, List.take_length]
      rw [hfo]
      obtain ⟨A0, hA0⟩ : ∃ A0, foldO x.o 1073741825 = A0 := ⟨_, rfl⟩
      rw [hA0]
      have HA0 := Lib.hid hA0
      clear hfo hA0
      go_wp2_with fail
      rename World => wO
      go_loopg [3, 6] x.l.length (fun gk a u wr => ∃ k : Nat, k ≤ x.l.length ∧ gk = x.l.length - k ∧ a = .int .i64 (foldP (x.l.take k) A0) ∧ u = .int .i64 k ∧ Fresh wO wr)
      case atStart => exact ⟨0, by omega, rfl, rfl, rfl, Keep.refl _ _⟩
      case round =>
        obtain ⟨k, hk, rfl, rfl, rfl, hF2⟩ := hrel
        have HF2 := Lib.hid hF2
        have SR2 := Lib.hid (SR.out.fresh hF2)
        have cr2 := SR2.out.bx.cell
        have lr2 := SR2.out.bx.lt
        clear hF2 cr lr
        by_cases hlk : k < x.l.length
        · obtain ⟨p, hp⟩ : ∃ p, x.l[k]? = some p := ⟨_, List.getElem?_eq_getElem hlk⟩
          obtain ⟨gv, offv, _, hvv, lgv, _, _, hcc⟩ := SR2.out.ol.form (by omega)
          injection hvv with e1 e2 e3
          subst e1 e3
          obtain ⟨d0, d1, d2, d3, d4⟩ := pcells_at _ _ _ hp
          have d0 := hcc _ _ d0
          have d4 := hcc _ _ d4
          rw [← Nat.add_assoc] at d4
          have HP := Lib.hid (foldP_succ hp A0)
          obtain ⟨B0, hB0⟩ : ∃ B0, foldP (x.l.take k) A0 = B0 := ⟨_, rfl⟩
          rw [hB0] at HP ⊢
          have k0 : (0 : Int) ≤ (k : Int) := by omega
          have k1 : (k : Int) < (x.l.length : Int) := by omega
          clear hcc hp hB0 e2 d1 d2 d3
          by_cases hz : p.kind = 0
          · have tz : (p.kind == 0) = true := by simp [hz]
            have HZ := Lib.hid hz
            clear hz
            go_wp2_with fail
            go_roundg (x.l.length - (k + 1))
            case measure => omega
            case rel => exact ⟨k + 1, by omega, rfl, by rw [HP.out, if_pos HZ.out], by go_num, HF2.out⟩
          · have tz : (p.kind == 0) = false := by simp [hz]
            have HZ := Lib.hid hz
            clear hz
            go_wp2_with fail
            go_roundg (x.l.length - (k + 1))
            case measure => omega
            case rel => exact ⟨k + 1, by omega, rfl, by rw [HP.out, if_neg HZ.out], by go_num, HF2.out⟩
        · obtain rfl : k = x.l.length := by omega
          rw [List.take_length]
          go_wp2_with fail
          go_ret
          exact ⟨by rw [HA0.out]; rfl, HF.out.step HF2.out (fun _ _ h => h)⟩
theorem ints_take (l : List Int) (j : Nat) : (ints l).take j = ints (l.take j) := by simp [ints, List.map_take]
theorem ints_drop (l : List Int) (j : Nat) : (ints l).drop j = ints (l.drop j) := by simp [ints, List.map_drop]
theorem ints_app (l m : List Int) : ints (l ++ m) = ints l ++ ints m := by simp [ints]
theorem src_cap {w : World} {size n c c' m : Nat} {A : Option Addr} {news : List Value} (h : Src w size (.slice A n c) m news) : Src w size (.slice A n c') m news := by
  obtain ⟨h1, h2⟩ := h
  refine ⟨h1, ?_⟩
  rcases h2 with ⟨c0, e, e2⟩ | ⟨a, c0, e, e2⟩
  · injection e with e3 e4 _
    subst e3 e4
    exact .inl ⟨_, rfl, e2⟩
  · injection e with e3 e4 _
    subst e3 e4
    exact .inr ⟨_, _, rfl, e2⟩
set_option maxRecDepth 100000 in
set_option maxHeartbeats 2000000 in
theorem without_any (v : Value) (l : List Int) (j : Nat) (w : World) (h : OwnS w 3 1 v l.length (ints l)) (hj : j < l.length) (hl : l.length ≤ 100000) :
    Calls Try.prog 44 #[v, .int .i64 j] w fun e w' => ∃ v', e = .returned v' ∧ OwnS w' 3 1 v' (l.eraseIdx j).length (ints (l.eraseIdx j)) ∧ Fresh w w' ∧ ∀ k, v'.ownBlock = some k → w.heap.size ≤ k := by
  obtain ⟨i0, hi, hz0, hz1, hz2⟩ := info_parts info_int
  have h01 : Hid (0 < 1) := Lib.hid (by omega)
  obtain ⟨g, off, cap, rfl, hg, hc1, hc2, _⟩ := h.form (by omega)
  have hc2' : cap ≤ 9223372036854775807 := by unfold maxLen at hc2; omega
  have HO := Lib.hid h
  have j0 : (0 : Int) ≤ (j : Int) := by omega
  have j2 : (j : Int) ≤ (l.length : Int) := by omega
  have j3 : (j : Int) + 1 ≤ (l.length : Int) := by omega
  have j4 : (l.length : Int) ≤ (cap : Int) := by omega
  have hw : IntKind.i64.wrap ((j : Int) + 1) = (j : Int) + 1 := IntWalk.i64_in _ (by omega)
  clear h
  go_enter Try.func44, Try.ntmps44
  have HW : Hid (OwnS w 3 1 (.slice (some ⟨g, off, none⟩) l.length cap) l.length (ints l)) := HO
  have NIL : Hid (∀ W W' : World, Keep (fun k => (Value.slice none 0 0).ownBlock = some k) W W' → Fresh W W') := Lib.hid fun W W' kk => kk.more (fun i _ hi => by simp [Value.ownBlock] at hi)
  have g1 : 0 + j ≤ maxLen := one_le_maxLen (by omega)
  have g2 : (0 + j) * 8 ≤ 140737488355328 := by omega
  have SRC1 : Hid (∀ W, OwnS W 3 1 (.slice (some ⟨g, off, none⟩) l.length cap) l.length (ints l) → ∀ cc, Src W 1 (.slice (some ⟨g, off, none⟩) j cc) j (ints (l.take j))) := Lib.hid fun W oo cc => by
    have := (oo.cut (lo := 0) (hi := j) (off' := off) (by omega) (by omega) (.inl (by omega))).src
    simp only [List.drop_zero, Nat.sub_zero, Nat.mul_one] at this
    rw [ints_take] at this
    exact src_cap this
  have er : l.eraseIdx j = l.take j ++ l.drop (j + 1) := List.eraseIdx_eq_take_drop_succ l j
  have ER := Lib.hid er
  clear er
  by_cases hcap : cap = j + 1
  · subst hcap
    have hLj : l.length = j + 1 := by omega
    have hd : l.drop (j + 1) = [] := List.drop_eq_nil_of_le (by omega)
    have HD := Lib.hid hd
    have HLJ := Lib.hid hLj
    have g5 : j + 0 ≤ maxLen := one_le_maxLen (by omega)
    have g6 : (j + 0) * 8 ≤ 140737488355328 := by omega
    have SRC2 : Hid (∀ (W : World) cc, Src W 1 (.slice (some ⟨g, off, none⟩) 0 cc) 0 (ints ([] : List Int))) := Lib.hid fun W cc => ⟨rfl, .inr ⟨_, _, rfl, fun q u h => by simp [ints] at h⟩⟩
    clear hd hLj
    go_wp2_with (first
      | (at_builtin; (refine wpList_append_OwnS _ rfl _ _ 28 rfl 3 i0 (.int .i64 0) 1 8 Try.underlying28 hi hz0 hz1 hz2 rfl h01.out (.slice none 0 0) 0 [] rfl (OwnS.nil _ _ _) (.slice (some ⟨g, off, none⟩) j _) j (ints (l.take j)) rfl (SRC1.out _ HW.out _) (ints_one _) g1 g2 ?_); intro v6 w6 o6 k6 n6; rw [Nat.zero_add, List.nil_append] at o6; obtain ⟨A6, cap6, rfl, hc6, hm6⟩ := o6.shape; have f6 := NIL.out _ _ k6; have O6 := Lib.hid o6; have F6 := Lib.hid f6; have N6 := Lib.hid n6; clear o6 k6 f6 n6)
      | (at_builtin; (refine wpList_append_OwnS _ rfl _ _ 28 rfl 3 i0 (.int .i64 0) 1 8 Try.underlying28 hi hz0 hz1 hz2 rfl h01.out (.slice A6 j cap6) j (ints (l.take j)) rfl O6.out (.slice (some ⟨g, off, none⟩) 0 _) 0 (ints ([] : List Int)) rfl (SRC2.out _ _) (ints_one _) g5 g6 ?_); intro v7 w7 o7 k7 n7; rw [← ints_app] at o7; obtain ⟨A7, cap7, rfl, hc7, hm7⟩ := o7.shape))
    go_ret
    refine ⟨_, rfl, ?_, F6.out.step k7 (fun i hi hh => ?_), fun i hi => ?_⟩
    · rw [ER.out, HD.out]
      have el : (l.take j ++ ([] : List Int)).length = j + 0 := by rw [List.length_append, List.length_take]; have := HLJ.out; simp; omega
      rw [el]
      exact o7
    · rcases N6.out i hh with h | h
      · simp [Value.ownBlock] at h
      · omega
    · rcases n7 i hi with h | h
      · rcases N6.out i h with h | h
        · simp [Value.ownBlock] at h
        · exact h
      · have := F6.out.size; omega
  · have g5 : j + (l.length - (j + 1)) ≤ maxLen := one_le_maxLen (by omega)
    have g6 : (j + (l.length - (j + 1))) * 8 ≤ 140737488355328 := by omega
    have SRC2 : Hid (∀ (W : World), OwnS W 3 1 (.slice (some ⟨g, off, none⟩) l.length cap) l.length (ints l) → ∀ cc, Src W 1 (.slice (some ⟨g, off + (j + 1), none⟩) (l.length - (j + 1)) cc) (l.length - (j + 1)) (ints (l.drop (j + 1)))) := Lib.hid fun W oo cc => by
      have := (oo.cut (lo := j + 1) (hi := l.length) (off' := off + (j + 1)) (by omega) (by omega) (.inl (by omega))).src
      simp only [Nat.mul_one] at this
      rw [ints_drop, List.take_of_length_le (by simp [ints])] at this
      exact src_cap this
    go_wp2_with (first
      | (at_builtin; (refine wpList_append_OwnS _ rfl _ _ 28 rfl 3 i0 (.int .i64 0) 1 8 Try.underlying28 hi hz0 hz1 hz2 rfl h01.out (.slice none 0 0) 0 [] rfl (OwnS.nil _ _ _) (.slice (some ⟨g, off, none⟩) j _) j (ints (l.take j)) rfl (SRC1.out _ HW.out _) (ints_one _) g1 g2 ?_); intro v6 w6 o6 k6 n6; rw [Nat.zero_add, List.nil_append] at o6; obtain ⟨A6, cap6, rfl, hc6, hm6⟩ := o6.shape; have f6 := NIL.out _ _ k6; have O6 := Lib.hid o6; have F6 := Lib.hid f6; have N6 := Lib.hid n6; clear o6 k6 f6 n6)
      | (at_builtin; (refine wpList_append_OwnS _ rfl _ _ 28 rfl 3 i0 (.int .i64 0) 1 8 Try.underlying28 hi hz0 hz1 hz2 rfl h01.out (.slice A6 j cap6) j (ints (l.take j)) rfl O6.out (.slice (some ⟨g, off + (j + 1), none⟩) (l.length - (j + 1)) _) (l.length - (j + 1)) (ints (l.drop (j + 1))) rfl (SRC2.out _ (HW.out.fresh F6.out) _) (ints_one _) g5 g6 ?_); intro v7 w7 o7 k7 n7; rw [← ints_app] at o7; obtain ⟨A7, cap7, rfl, hc7, hm7⟩ := o7.shape))
    go_ret
    refine ⟨_, rfl, ?_, F6.out.step k7 (fun i hi hh => ?_), fun i hi => ?_⟩
    · rw [ER.out]
      have el : (l.take j ++ l.drop (j + 1)).length = j + (l.length - (j + 1)) := by rw [List.length_append, List.length_take, List.length_drop]; omega
      rw [el]
      exact o7
    · rcases N6.out i hh with h | h
      · simp [Value.ownBlock] at h
      · omega
    · rcases n7 i hi with h | h
      · rcases N6.out i h with h | h
        · simp [Value.ownBlock] at h
        · exact h
      · have := F6.out.size; omega
end Go.Proofs.Ytegffmnenicldaa
