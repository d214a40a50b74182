/-
  ring.Ring[int]: Upto; take; Push whatever comes.
-/
import Derived.Test.YtfckbgifmajbjaaFind
namespace Go.Proofs.Ytfckbgifmajbjaa
open Go.RowKit
attribute [local go_sem ↓] Go.wp_at_zero Go.wp_at_succ

theorem run_clear_row (w : World) (ty : TypeId) (gs o n : Nat) (a b : Value) (h0 : w.cell? ⟨gs, o, none⟩ = some a) (h1 : w.cell? ⟨gs, o + 1, none⟩ = some b) (hf : ∀ i, w.frozen? ⟨gs, i, none⟩ = false) :
    (Builtin.clear_ #[58] ty #[.slice (some ⟨gs, o, none⟩) 1 n]).run Try.prog w = .ok (.tuple #[]) ((w.setCell ⟨gs, o, none⟩ (.int .i64 0)).setCell ⟨gs, o + 1, none⟩ (.int .i64 0)) := by
  have hz : ∀ w, (zeroValue 66).run Try.prog w = .ok (.agg #[.int .i64 0, .int .i64 0]) w := fun _ => by kernel_rfl
  have hzc : (Builtin.zeroCells (Value.agg #[.int .i64 0, .int .i64 0]).cells 1).toList = [.int .i64 0, .int .i64 0] := by kernel_rfl
  have hst := run_storeCells_cells (P := Try.prog) gs o [.int .i64 0, .int .i64 0] 0 w (by
    intro j hj
    have : j = 0 ∨ j = 1 := by simp at hj; omega
    rcases this with rfl | rfl
    · rw [Nat.add_zero, h0]; rfl
    · rw [h1]; rfl) (fun j _ => hf _) (by intro v hv; simp at hv; subst hv; rfl)
  simp only [Nat.add_zero] at hst
  simp [Builtin.clear_, run_underlying Try.underlying58, hz, hzc, hst, World.setCells]

theorem SRing.put {w : World} {g gs off cap first many r : Nat} {c : List (Int × Int)} {n : Nat} {a b : Int} (h : SRing w g (.slice (some ⟨gs, off, none⟩) n cap) c first many) (hn : n = c.length) (hr : r < c.length) (hng : gs ≠ g) :
    SRing ((w.setCell ⟨gs, off + r * 2, none⟩ (.int .i64 a)).setCell ⟨gs, off + r * 2 + 1, none⟩ (.int .i64 b)) g (.slice (some ⟨gs, off, none⟩) n cap) (c.set r (a, b)) first many := by
  subst hn
  refine ⟨(h.blk.far (fun e => hng e.symm) _).far (fun e => hng e.symm) _, ?_⟩
  have h1 := h.own.set_ (r * 2) (.int .i64 a) (by rw [cells_length]; omega)
  have h2 := h1.set_ (r * 2 + 1) (.int .i64 b) (by rw [List.length_set, cells_length]; omega)
  rw [List.length_set, cells_set _ _ _ hr, show off + r * 2 + 1 = off + (r * 2 + 1) by omega]
  exact h2
/-- what take leaves -/
def TakeP (g gs off cap room : Nat) (c : List (Int × Int)) (first many r : Nat) (x : Int) (w : World) (e : Ending) (w' : World) : Prop :=
  e = .returned (.int .i64 x) ∧ SRing w' g (.slice (some ⟨gs, off, none⟩) room cap) (c.set r (0, 0)) first many ∧ Keep (fun k => k = gs) w w'
set_option maxHeartbeats 1000000 in
theorem take_any (g gs off cap room : Nat) (c : List (Int × Int)) (first many i : Nat) (s : Int × Int) (w : World) (h : SRing w g (.slice (some ⟨gs, off, none⟩) room cap) c first many) (hl : c.length = room) (hr : 1 ≤ room ∧ room ≤ 4096) (hf : first < room) (hi : i ≤ 4096) (hs : nth c first i = some s) :
    Calls Try.prog 37 #[.pointer (some ⟨g, 0, none⟩), .int .i64 (i : Nat)] w (TakeP g gs off cap room c first many ((first + i) % c.length) s.2 w) := by
  subst hl
  have hng : gs ≠ g := by
    have := h.own.ne_blk h.blk (by decide)
    simpa [Value.ownBlock] using this
  have HP : Hid (∀ W, Fresh w W → Calls Try.prog 34 #[.pointer (some ⟨g, 0, none⟩), .int .i64 (i : Nat)] W fun e w' => e = .returned (.int .i64 (((first + i) % c.length : Nat) : Int)) ∧ Fresh W w') := fun W f =>
    place_any g _ c first many i W (h.fresh f) (by omega) (by omega) (by omega) (by omega)
  have hlt : (first + i) % c.length < c.length := Nat.mod_lt _ (by omega)
  obtain ⟨r, hr'⟩ : ∃ r, (first + i) % c.length = r := ⟨_, rfl⟩
  unfold nth at hs
  rw [hr'] at HP hlt hs
  rw [hr']
  have H := Lib.hid h
  have HS := Lib.hid hs
  clear h hr' hs
  go_enter Try.func37, Try.ntmps37
  go_wp2_with fail
  refine (HP.out _ (Keep.refl _ _)).mono ?_
  rintro e w1 ⟨rfl, f1⟩
  have h1 := H.out.fresh f1
  have hb := h1.blk.cell
  obtain ⟨ls, fz, lc, lm, hc⟩ := h1.own.at_
  have lm : cap ≤ 9223372036854775807 := by unfold maxLen at lm; omega
  obtain ⟨c0, c1⟩ := cells_at c r s HS.out
  have c0 := hc _ _ c0
  have c1 := hc _ _ c1
  rw [← Nat.add_assoc] at c1
  have hcl := fun (ty : TypeId) (n : Nat) => run_clear_row w1 ty gs (off + r * 2) n _ _ c0 c1 fz
  have H1 := Lib.hid h1
  have F1 := Lib.hid f1
  have j0 : (0 : Int) ≤ (r : Int) := by omega
  have j1 : (r : Int) < (c.length : Int) := by omega
  have j2 : (r : Int) + 1 ≤ (cap : Int) := by omega
  have j3 : (r : Int) ≤ (cap : Int) := by omega
  have j4 : r + 1 ≤ cap := by omega
  have j5 : ((cap : Int) == (r : Int)) = false := by rw [beq_eq_false_iff_ne]; omega
  have j6 : (cap == r) = false := by rw [beq_eq_false_iff_ne]; omega
  clear h1 f1 hc
  go_wp2_with fail
  go_ret
  exact ⟨rfl, H1.out.put rfl hlt hng, Keep.setCell (S := fun k => k = gs) (Keep.setCell (S := fun k => k = gs) (F1.out.more (fun _ _ h => h.elim)) (fun _ => rfl) _) (fun _ => rfl) _⟩
theorem Ring.tell {w : World} {g gs off cap room : Nat} {c : List (Int × Int)} {first : Nat} {L : List (Int × Int)} (h : Ring w g gs off cap room c first L) (i : Int) :
    Calls Try.prog 31 #[.pointer (some ⟨g, 0, none⟩), .int .i64 i] w fun e w' => e = .returned (told (if 0 ≤ i then L[i.toNat]? else none)) ∧ Fresh w w' := by
  have hl := h.r.len
  have hp := h.r.pos
  have hf := h.r.fst
  have hm := h.r.many
  have hs := h.s
  rw [← hl] at hs
  have := tell_any g _ c first L.length i w hs (by omega) (by omega) (by omega)
  have e : (if 0 ≤ i ∧ i < (L.length : Int) then nth c first i.toNat else none) = (if 0 ≤ i then L[i.toNat]? else none) := by
    by_cases h0 : 0 ≤ i
    · rw [if_pos h0]
      by_cases h1 : i < (L.length : Int)
      · rw [if_pos ⟨h0, h1⟩]
        exact h.r.at_ _ (by omega)
      · rw [if_neg (by omega), List.getElem?_eq_none (by omega)]
    · rw [if_neg h0, if_neg (by omega)]
  rw [e] at this
  exact this
theorem upto_nil (at_ : Int) (w : World) : Calls Try.prog 16 #[.pointer none, .int .i64 at_] w fun e w' => e = .returned (.tuple #[.int .i64 0, .int .i64 0, .int .i64 2]) ∧ Fresh w w' := by
  go_enter Try.func16, Try.ntmps16
  go_wp2
  go_ret3
  exact ⟨rfl, (Keep.refl _ w).alloc _⟩
theorem back_nil (at_ : Int) (w : World) : Calls Try.prog 19 #[.pointer none, .int .i64 at_] w fun e w' => e = .returned (.slice none 0 0) ∧ Fresh w w' := by
  go_enter Try.func19, Try.ntmps19
  go_wp2
  go_ret
  exact ⟨rfl, (Keep.refl _ w).alloc _⟩
theorem front_nil (at_ : Int) (w : World) : Calls Try.prog 20 #[.pointer none, .int .i64 at_] w fun e w' => e = .returned (.slice none 0 0) ∧ Fresh w w' := by
  go_enter Try.func20, Try.ntmps20
  go_wp2
  go_ret
  exact ⟨rfl, (Keep.refl _ w).alloc _⟩
/-- the last one no later -/
def uptoL (L : List (Int × Int)) (t : Int) : Option (Int × Int) := if 0 < ups L t then L[ups L t - 1]? else none
theorem upto_any (g gs off cap room : Nat) (c : List (Int × Int)) (first : Nat) (L : List (Int × Int)) (at_ : Int) (w : World) (h : Ring w g gs off cap room c first L) :
    Calls Try.prog 16 #[.pointer (some ⟨g, 0, none⟩), .int .i64 at_] w fun e w' => e = .returned (told (uptoL L at_)) ∧ Fresh w w' := by
  have f0 : Fresh w (w.alloc (.cells #[.int .i64 at_] 3)) := (Keep.refl _ _).alloc _
  have hfind := up_find w.heap.size g gs off cap room c first L at_ _ (h.fresh f0) ((Blk.new w 3 #[.int .i64 at_]).cell_ 0 rfl)
  have e1 : L.countP (fun s => !(fun t : Int => decide (at_ < t)) s.1) = ups L at_ := by
    unfold ups
    apply List.countP_congr
    intro s _
    simp
  rw [e1] at hfind
  have HTE : Hid (∀ W i, Fresh w W → Calls Try.prog 31 #[.pointer (some ⟨g, 0, none⟩), .int .i64 i] W fun e w' => e = .returned (told (if 0 ≤ i then L[i.toNat]? else none)) ∧ Fresh W w') := fun W i f => (h.fresh f).tell i
  have hle : ups L at_ ≤ L.length := List.countP_le_length
  have hm := h.r.many
  have hp := h.r.pos
  unfold uptoL
  obtain ⟨n, hn⟩ : ∃ n, ups L at_ = n := ⟨_, rfl⟩
  rw [hn] at hfind hle ⊢
  have e2 : (if (0 : Int) ≤ (n : Int) - 1 then L[((n : Int) - 1).toNat]? else none) = (if 0 < n then L[n - 1]? else none) := by
    by_cases h0 : 0 < n
    · rw [if_pos (by omega), if_pos h0, show ((n : Int) - 1).toNat = n - 1 by omega]
    · rw [if_neg (by omega), if_neg h0]
  have HT2 : Hid (∀ W, Fresh w W → Calls Try.prog 31 #[.pointer (some ⟨g, 0, none⟩), .int .i64 ((n : Int) - 1)] W fun e w' => e = .returned (told (if 0 < n then L[n - 1]? else none)) ∧ Fresh W w') := fun W f => by
    have := HTE.out W ((n : Int) - 1) f
    rw [e2] at this
    exact this
  obtain ⟨o, ho⟩ : ∃ o, (if 0 < n then L[n - 1]? else none) = o := ⟨_, rfl⟩
  rw [ho] at HT2 ⊢
  have HF := Lib.hid hfind
  have F0 := Lib.hid f0
  clear hfind f0 e1 e2 hn ho h HTE
  rcases o with _ | ⟨a, b⟩
  all_goals
    unfold told at HT2 ⊢
    simp only at HT2 ⊢
    go_enter Try.func16, Try.ntmps16
    go_wp2_with (first
      | (go_at_call 32; refine HF.out.mono ?_; rintro e w1 ⟨rfl, f1⟩; have F1 := Lib.hid (F0.out.step f1 (fun _ _ h => h)); clear f1)
      | (go_at_call 31; refine (HT2.out _ F1.out).mono ?_; rintro e w2 ⟨rfl, f2⟩))
    go_ret3
    exact ⟨rfl, F1.out.step f2 (fun _ _ h => h)⟩
end Go.Proofs.Ytfckbgifmajbjaa
