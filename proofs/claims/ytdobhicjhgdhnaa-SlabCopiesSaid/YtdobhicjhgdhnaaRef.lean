/-
  The document's slab: each function by a contract.
-/
import Derived.Test.YtdobhicjhgdhnaaTurnsP
namespace Go.Proofs.Ytdobhicjhgdhnaa
open Go.RowKit
attribute [local go_sem ↓] Go.wp_at_zero Go.wp_at_succ

structure RSlab (w : World) (g : Nat) (vl vf : Value) (l : List Sl) (fr : List Int) (res : Int) : Prop where
  blk : Blk w g 63 #[vl, vf, .int .i64 res]
  ol : OwnS w 60 3 vl l.length (slots l)
  of : OwnS w 3 1 vf fr.length (ints fr)
theorem RSlab.kept {w w' : World} {g : Nat} {vl vf : Value} {l : List Sl} {fr : List Int} {res : Int} {S : Nat → Prop} (h : RSlab w g vl vf l fr res) (hk : Keep S w w') (hn : ∀ k, foot g vl vf k → ¬ S k) : RSlab w' g vl vf l fr res :=
  ⟨h.blk.keep hk (hn g (.inl rfl)), h.ol.kept hk (fun k e => hn k (.inr (.inl e))), h.of.kept hk (fun k e => hn k (.inr (.inr e)))⟩
theorem RSlab.fresh {w w' : World} {g : Nat} {vl vf : Value} {l : List Sl} {fr : List Int} {res : Int} (h : RSlab w g vl vf l fr res) (hk : Fresh w w') : RSlab w' g vl vf l fr res := h.kept hk (fun _ _ h => h)
theorem RSlab.lt {w : World} {g : Nat} {vl vf : Value} {l : List Sl} {fr : List Int} {res : Int} (h : RSlab w g vl vf l fr res) : ∀ k, foot g vl vf k → k < w.heap.size := by
  rintro k (rfl | hk | hk)
  · exact h.blk.lt
  · exact h.ol.lt hk
  · exact h.of.lt hk
theorem info_rslot : (Try.prog.info? 60).map (fun i => (i.zero, i.size, i.bytes)) = some (some (.agg #[.int .i64 0, .int .i64 0, .int .i64 0]), 3, 24) := by kernel_rfl

theorem rnew_any (n : Nat) (r : Int) (h1 : 1 ≤ n) (h2 : n ≤ 4096) (w : World) : Calls Try.prog 19 #[.int .i64 n, .int .i64 r] w fun e w' =>
    ∃ g vl vf, e = .returned (.pointer (some ⟨g, 0, none⟩)) ∧ RSlab w' g vl vf (St.new n r).l [] r ∧ Fresh w w' ∧ (∀ k, foot g vl vf k → w.heap.size ≤ k) := by
  obtain ⟨i0, hi, hz0, hz1, hz2⟩ := info_parts info_rslot
  have hmk : ∀ w : World, (Instr.makeSlice 61 (.int .i64 (n : Int)) (.int .i64 (n : Int))).run Try.prog w = .ok (.slice (some ⟨w.heap.size, 0, none⟩) n n) (w.alloc (.cells (madeCells #[.int .i64 0, .int .i64 0, .int .i64 0] (n * 3)) 60)) := fun w => by
    have := run_make (P := Try.prog) w 61 60 i0 _ Try.underlying61 hi hz0 .i64 .i64 n n (by omega) (by omega) (by rw [hz2]; omega) (by omega)
    rw [hz1] at this
    simp only [Int.toNat_natCast] at this
    exact this
  go_enter Try.func19, Try.ntmps19
  go_wp2
  go_ret
  refine ⟨w.heap.size + 1, .slice (some ⟨w.heap.size, 0, none⟩) n n, .slice none 0 0, rfl, ⟨Blk.at_new (by simp) _ _, ?_, OwnS.nil _ _ _⟩, ((Keep.refl _ w).alloc _).alloc _, ?_⟩
  · have := (OwnS.new_ (size := 3) (n := n) (Blk.new w 60 (madeCells #[.int .i64 0, .int .i64 0, .int .i64 0] (n * 3))) (size_madeCells _ _) (one_le_maxLen (by omega))).alloc (.cells #[.slice (some ⟨w.heap.size, 0, none⟩) n n, .slice none 0 0, .int .i64 r] 63)
    rw [made_slots] at this
    simpa [St.new] using this
  · rintro k (rfl | hk | hk)
    · omega
    · simp [Value.ownBlock] at hk; omega
    · simp [Value.ownBlock] at hk

/-! ### counts -/
def isFree (x : Sl) : Bool := decide (x.c = 0)
set_option maxHeartbeats 1000000 in
theorem rleft_any (g : Nat) (vl vf : Value) (l : List Sl) (fr : List Int) (res : Int) (w : World) (hs : RSlab w g vl vf l fr res) (hn : l.length ≤ 100000) :
    Calls Try.prog 31 #[.pointer (some ⟨g, 0, none⟩)] w fun e w' => e = .returned (.int .i64 (l.countP isFree)) ∧ Fresh w w' := by
  have hb := hs.blk.cell
  have hg := hs.blk.lt
  obtain ⟨A, cap, rfl, hca, hcm⟩ := hs.ol.shape
  have hcm : cap ≤ 9223372036854775807 := by unfold maxLen at hcm; omega
  have HS := Lib.hid hs
  clear hs
  go_enter Try.func31, Try.ntmps31
  go_wp2_with fail
  go_loopg [3, 4] l.length (fun gk a u wr => ∃ k : Nat, k ≤ l.length ∧ gk = l.length - k ∧ a = .int .i64 (cnt isFree l k : Nat) ∧ u = .int .i64 k ∧ Fresh w wr)
  case atStart => exact ⟨0, by omega, rfl, by simp [cnt], rfl, Keep.refl _ _⟩
  case round =>
    obtain ⟨k, hk, rfl, rfl, rfl, hF⟩ := hrel
    have HF := Lib.hid hF
    have cb := (HS.out.fresh hF).blk.cell
    clear hF
    by_cases hlt : k < l.length
    · obtain ⟨x, hx⟩ : ∃ x, l[k]? = some x := ⟨_, List.getElem?_eq_getElem hlt⟩
      have hcs := cnt_succ isFree l k x hx
      have hle := cnt_le isFree l k
      obtain ⟨gs, off, cap', hv, lg, _, _, hc⟩ := (HS.out.fresh HF.out).ol.form (by omega)
      injection hv with hv1 _ hv3
      subst hv1 hv3
      have c0 := hc _ _ (slots_at _ _ _ hx).1
      obtain ⟨N, hN⟩ : ∃ N, cnt isFree l k = N := ⟨_, rfl⟩
      rw [hN] at hcs hle ⊢
      have HC := Lib.hid hcs
      obtain ⟨xc, xt, xv⟩ := x
      simp only at c0
      clear hcs hx hc hN
      by_cases h0 : xc = 0
      · have t0 : (xc == 0) = true := by simpa using h0
        have H0 := Lib.hid h0
        clear h0
        go_wp2_with fail
        go_roundg (l.length - (k + 1))
        case measure => omega
        case rel => exact ⟨k + 1, by omega, rfl, by rw [HC.out, if_pos (by simp [isFree, H0.out])]; go_num, by go_num, HF.out⟩
      · have t0 : (xc == 0) = false := by simpa using h0
        have H0 := Lib.hid h0
        clear h0
        go_wp2_with fail
        go_roundg (l.length - (k + 1))
        case measure => omega
        case rel => exact ⟨k + 1, by omega, rfl, by rw [HC.out, if_neg (by simpa [isFree] using H0.out)], by go_num, HF.out⟩
    · obtain rfl : k = l.length := by omega
      have hfin : cnt isFree l l.length = l.countP isFree := by unfold cnt; rw [List.take_length]
      rw [hfin]
      clear hfin
      go_wp2_with fail
      go_ret
      exact ⟨rfl, HF.out⟩
def ofClass (cl : Int) (x : Sl) : Bool := decide (0 < x.c) && (decide (cl = 0) || decide (x.c = cl))
set_option maxHeartbeats 2000000 in
theorem rlive_any (g : Nat) (vl vf : Value) (l : List Sl) (fr : List Int) (res cl : Int) (w : World) (hs : RSlab w g vl vf l fr res) (hn : l.length ≤ 100000) :
    Calls Try.prog 26 #[.pointer (some ⟨g, 0, none⟩), .int .i64 cl] w fun e w' => e = .returned (.int .i64 (l.countP (ofClass cl))) ∧ Fresh w w' := by
  have hb := hs.blk.cell
  have hg := hs.blk.lt
  obtain ⟨A, cap, rfl, hca, hcm⟩ := hs.ol.shape
  have hcm : cap ≤ 9223372036854775807 := by unfold maxLen at hcm; omega
  have HS := Lib.hid hs
  clear hs
  go_enter Try.func26, Try.ntmps26
  go_wp2_with fail
  go_loopg [5, 6] l.length (fun gk a u wr => ∃ k : Nat, k ≤ l.length ∧ gk = l.length - k ∧ a = .int .i64 (cnt (ofClass cl) l k : Nat) ∧ u = .int .i64 k ∧ Fresh w wr)
  case atStart => exact ⟨0, by omega, rfl, by simp [cnt], rfl, Keep.refl _ _⟩
  case round =>
    obtain ⟨k, hk, rfl, rfl, rfl, hF⟩ := hrel
    have HF := Lib.hid hF
    have cb := (HS.out.fresh hF).blk.cell
    clear hF
    by_cases hlt : k < l.length
    · obtain ⟨x, hx⟩ : ∃ x, l[k]? = some x := ⟨_, List.getElem?_eq_getElem hlt⟩
      have hcs := cnt_succ (ofClass cl) l k x hx
      have hle := cnt_le (ofClass cl) l k
      obtain ⟨gs, off, cap', hv, lg, _, _, hc⟩ := (HS.out.fresh HF.out).ol.form (by omega)
      injection hv with hv1 _ hv3
      subst hv1 hv3
      have c0 := hc _ _ (slots_at _ _ _ hx).1
      obtain ⟨N, hN⟩ : ∃ N, cnt (ofClass cl) l k = N := ⟨_, rfl⟩
      rw [hN] at hcs hle ⊢
      have HC := Lib.hid hcs
      obtain ⟨xc, xt, xv⟩ := x
      simp only at c0
      clear hcs hx hc hN
      have hq : (decide (0 < xc) = false ∧ ofClass cl ⟨xc, xt, xv⟩ = false) ∨ (decide (0 < xc) = true ∧ (cl == 0) = true ∧ ofClass cl ⟨xc, xt, xv⟩ = true) ∨ (decide (0 < xc) = true ∧ (cl == 0) = false ∧ (xc == cl) = true ∧ ofClass cl ⟨xc, xt, xv⟩ = true) ∨ (decide (0 < xc) = true ∧ (cl == 0) = false ∧ (xc == cl) = false ∧ ofClass cl ⟨xc, xt, xv⟩ = false) := by
        have e1 : decide (cl = 0) = (cl == 0) := rfl
        have e2 : decide (xc = cl) = (xc == cl) := rfl
        simp only [ofClass]
        rw [e1, e2]
        cases decide (0 < xc) <;> cases (cl == 0) <;> cases (xc == cl) <;> simp
      rcases hq with ⟨t0, hp⟩ | ⟨t0, t1, hp⟩ | ⟨t0, t1, t2, hp⟩ | ⟨t0, t1, t2, hp⟩
      · have HP := Lib.hid hp
        clear hp
        go_wp2_with fail
        go_roundg (l.length - (k + 1))
        case measure => omega
        case rel => exact ⟨k + 1, by omega, rfl, by rw [HC.out, HP.out]; rfl, by go_num, HF.out⟩
      · have HP := Lib.hid hp
        clear hp
        go_wp2_with fail
        go_roundg (l.length - (k + 1))
        case measure => omega
        case rel => exact ⟨k + 1, by omega, rfl, by rw [HC.out, HP.out, if_pos rfl]; go_num, by go_num, HF.out⟩
      · have HP := Lib.hid hp
        clear hp
        go_wp2_with fail
        go_roundg (l.length - (k + 1))
        case measure => omega
        case rel => exact ⟨k + 1, by omega, rfl, by rw [HC.out, HP.out, if_pos rfl]; go_num, by go_num, HF.out⟩
      · have HP := Lib.hid hp
        clear hp
        go_wp2_with fail
        go_roundg (l.length - (k + 1))
        case measure => omega
        case rel => exact ⟨k + 1, by omega, rfl, by rw [HC.out, HP.out]; rfl, by go_num, HF.out⟩
    · obtain rfl : k = l.length := by omega
      have hfin : cnt (ofClass cl) l l.length = l.countP (ofClass cl) := by unfold cnt; rw [List.take_length]
      rw [hfin]
      clear hfin
      go_wp2_with fail
      go_ret
      exact ⟨rfl, HF.out⟩
/-- does a handle tell a thing -/
def tellsB (l : List Sl) (h t : Int) : Bool := decide (0 ≤ h) && match l[h.toNat]? with
  | some x => decide (0 < x.c) && (x.t == t)
  | none => false
theorem rtells_any (g : Nat) (vl vf : Value) (l : List Sl) (fr : List Int) (res h t : Int) (w : World) (hs : RSlab w g vl vf l fr res) (hn : l.length ≤ 100000) :
    Calls Try.prog 25 #[.pointer (some ⟨g, 0, none⟩), .int .i64 h, .int .i64 t] w fun e w' => e = .returned (.bool (tellsB l h t)) ∧ Fresh w w' := by
  have hb := hs.blk.cell
  have hg := hs.blk.lt
  obtain ⟨A, cap, rfl, hca, hcm⟩ := hs.ol.shape
  have hcm : cap ≤ 9223372036854775807 := by unfold maxLen at hcm; omega
  by_cases h0 : 0 ≤ h
  rotate_left
  · have t0 : decide (0 ≤ h) = false := by simpa using h0
    have e : tellsB l h t = false := by unfold tellsB; rw [t0]; rfl
    rw [e]
    clear hs e h0
    go_enter Try.func25, Try.ntmps25
    go_wp2_with fail
    go_ret
    exact ⟨rfl, Keep.refl _ _⟩
  · obtain ⟨i, rfl⟩ := Int.eq_ofNat_of_zero_le h0
    have t0 : decide ((0 : Int) ≤ (i : Int)) = true := by simp
    by_cases h1 : i < l.length
    rotate_left
    · have t1 : decide ((i : Int) < (l.length : Int)) = false := by simp; omega
      have t1' : decide (i < l.length) = false := by simp; omega
      have e : tellsB l (i : Int) t = false := by unfold tellsB; rw [Int.toNat_natCast, List.getElem?_eq_none (by omega)]; simp
      rw [e]
      clear hs e h0 h1
      go_enter Try.func25, Try.ntmps25
      go_wp2_with fail
      go_ret
      exact ⟨rfl, Keep.refl _ _⟩
    · have t1 : decide ((i : Int) < (l.length : Int)) = true := by simp; omega
      have t1' : decide (i < l.length) = true := by simp; omega
      have i1 : (i : Int) < (l.length : Int) := by omega
      obtain ⟨x, hx⟩ : ∃ x, l[i]? = some x := ⟨_, List.getElem?_eq_getElem h1⟩
      obtain ⟨gs, off, cap', hv, lg, _, _, hc⟩ := hs.ol.form (by omega)
      injection hv with hv1 _ hv3
      subst hv1 hv3
      obtain ⟨c0, c1, _⟩ := slots_at _ _ _ hx
      have c0 := hc _ _ c0
      have c1 := hc _ _ c1
      rw [← Nat.add_assoc] at c1
      have e : tellsB l (i : Int) t = (decide (0 < x.c) && (x.t == t)) := by unfold tellsB; rw [Int.toNat_natCast, hx, t0]; rfl
      rw [e]
      obtain ⟨xc, xt, xv⟩ := x
      simp only at c0 c1 ⊢
      clear hs e hx hc
      have hq : decide (0 < xc) = false ∨ (decide (0 < xc) = true ∧ (xt == t) = false) ∨ (decide (0 < xc) = true ∧ (xt == t) = true) := by
        by_cases a1 : 0 < xc <;> by_cases a2 : xt = t <;> simp [a1, a2]
      rcases hq with t2 | ⟨t2, t3⟩ | ⟨t2, t3⟩
      · rw [t2, Bool.false_and]
        go_enter Try.func25, Try.ntmps25
        go_wp2_with fail
        go_ret
        exact ⟨rfl, Keep.refl _ _⟩
      all_goals
        rw [t2, t3, Bool.true_and]
        go_enter Try.func25, Try.ntmps25
        go_wp2_with fail
        go_ret
        exact ⟨rfl, Keep.refl _ _⟩
end Go.Proofs.Ytdobhicjhgdhnaa
