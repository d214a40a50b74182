/-
  The law's same: is a slab the document's?
-/
import Derived.Test.YtdobhicjhgdhnaaAllS
import Derived.Test.YtdobhicjhgdhnaaPlayP
import Derived.Test.YtdobhicjhgdhnaaLive2
import Derived.Test.YtdobhicjhgdhnaaRoundQuiet
namespace Go.Proofs.Ytdobhicjhgdhnaa
open Go.RowKit Go.Shelf
attribute [local go_sem] Oper.semAt_some
attribute [local go_sem ↓] Go.wp_at_zero Go.wp_at_succ

theorem run_eql_seq (fn : Fn) (a b : Array Value) (w : World) : (binOp .eql 55 (.func fn a b) .nilFunc).run Try.prog w = .ok (.bool false) w := by
  kernel_rfl
attribute [local go_sem] run_eql_seq
theorem cnt_class {l : List Sl} (h : ∀ x ∈ l, x.c ≠ 0 → 1 ≤ x.c ∧ x.c ≤ 4) {cl : Int} (hc : 1 ≤ cl) : l.countP (isOf [cl]) = l.countP (ofClass cl) := by
  apply List.countP_congr
  intro x hx
  have := h x hx
  unfold isOf ofClass
  simp
  omega
theorem cnt_all {l : List Sl} (h : ∀ x ∈ l, x.c ≠ 0 → 1 ≤ x.c ∧ x.c ≤ 4) : l.countP isLive = l.countP (ofClass 0) := by
  apply List.countP_congr
  intro x hx
  have := h x hx
  unfold isLive ofClass
  simp
  omega
theorem cnt_two : ∀ {l : List Sl}, (∀ x ∈ l, x.c ≠ 0 → 1 ≤ x.c ∧ x.c ≤ 4) → l.countP (isOf [1, 3, 1]) = l.countP (ofClass 1) + l.countP (ofClass 3)
  | [], _ => rfl
  | x :: l, h => by
    have ih := cnt_two (l := l) (fun y hy => h y (List.mem_cons_of_mem _ hy))
    have h0 := h x (by simp)
    simp only [List.countP_cons]
    have e1 : isOf [1, 3, 1] x = decide (x.c = 1 ∨ x.c = 3) := by
      unfold isOf
      rw [Bool.eq_iff_iff]
      simp
      omega
    have e2 : ofClass 1 x = decide (x.c = 1) := by
      unfold ofClass
      rw [Bool.eq_iff_iff]
      simp
      omega
    have e3 : ofClass 3 x = decide (x.c = 3) := by
      unfold ofClass
      rw [Bool.eq_iff_iff]
      simp
      omega
    rw [e1, e2, e3]
    simp only [decide_eq_true_eq]
    by_cases h1 : x.c = 1
    · rw [if_pos (.inl h1), if_pos h1, if_neg (by omega)]; omega
    · by_cases h3 : x.c = 3
      · rw [if_pos (.inr h3), if_neg h1, if_pos h3]; omega
      · rw [if_neg (by omega), if_neg h1, if_neg h3]; omega
/-- a live slot behind the live ones that were seen -/
theorem lv_next {l : List Sl} {a m : Nat} {x : Sl} (ha : (lv l a).length = m) (hx : l[a]? = some x) (hc : x.c ≠ 0) : (lv l l.length)[m]? = some ((a : Int), x.t, x.v) ∧ (lv l (a + 1)).length = m + 1 := by
  have hl := (List.getElem?_eq_some_iff.1 hx).1
  refine ⟨?_, ?_⟩
  · rw [← ha]
    exact lv_at hx hc hl
  · rw [lv_take hx hc, List.length_append, ha]; rfl
theorem lv_over {l : List Sl} {a m : Nat} (ha : (lv l a).length = m) (hl : a = l.length) : (lv l l.length).length = m := by
  rw [← ha, hl]
theorem blk_ty' {W : World} {g : Nat} {t t' : TypeId} {cs cs' : Array Value} (h : Blk W g t cs) (h' : Blk W g t' cs') : t = t' := by
  unfold Blk at h h'
  rw [h] at h'
  injection h' with h'
  injection h'
structure SInv (w9 : World) (l : List Sl) (pre : List (Int × Int × Int)) (W : World) : Prop where
  f : Fresh w9 W
  sz : w9.heap.size + 1 ≤ W.heap.size
  b : ∃ a : Nat, Blk W w9.heap.size 3 #[.int .i64 a] ∧ a ≤ l.length ∧ (lv l a).length = pre.length
theorem SInv.fresh {w9 W W' : World} {l : List Sl} {pre : List (Int × Int × Int)} (h : SInv w9 l pre W) (f : Fresh W W') : SInv w9 l pre W' := ⟨h.f.step f (fun _ _ h => h), Nat.le_trans h.sz f.size, let ⟨a, b, c⟩ := h.b; ⟨a, f.blk_ b, c⟩⟩
theorem SInv.own {w9 X Y : World} {row : Option Nat} {B' : Nat} {l : List Sl} {pre : List (Int × Int × Int)} (hB : w9.heap.size ≤ B') (h : SInv w9 l pre X) (hg : X.grownBy Y row) (hr : ∀ r, row = some r → B' ≤ r ∧ ∃ o : Obj, X.heap[r]? = some o ∧ o.isCells = false) : SInv w9 l pre Y := by
  have hr' : ∀ r, row = some r → ∃ o : Obj, X.heap[r]? = some o ∧ o.isCells = false := fun r e => (hr r e).2
  obtain ⟨a, b, c⟩ := h.b
  exact ⟨ownFrom_fresh (β := Unit) hB () X Y row h.f hg hr, Nat.le_trans h.sz hg.size, a, blk_grown b hg hr', c⟩
/-- the number that lies in a cell -/
def atOf (W : World) (b : Nat) : Nat := (intOf ((W.cell? ⟨b, 0, none⟩).getD (.int .i64 0))).toNat
theorem atOf_blk {W : World} {b a : Nat} (h : Blk W b 3 #[.int .i64 a]) : atOf W b = a := by
  unfold atOf
  rw [h.cell_ 0 rfl]
  simp [intOf]
set_option maxRecDepth 100000 in
set_option maxHeartbeats 8000000 in
theorem same_any (gs : Nat) (vs vf : Value) (s : St) (gr : Nat) (vl vr : Value) (N k : Nat) (w : World) (hs : SSlab w gs vs vf s) (hr : RSlab w gr vl vr s.l s.fr s.res) (hp : PS N k s.res s) (hN : N ≤ 4096) (hk : k ≤ 1000) (hres : 0 ≤ s.res ∧ s.res ≤ 4096) :
    Calls Try.prog 21 #[.pointer (some ⟨gs, 0, none⟩), .pointer (some ⟨gr, 0, none⟩)] w fun e w' => e = .returned (.bool true) ∧ Fresh w w' := by
  obtain ⟨Ar, cr, rfl, hcr, hmr⟩ := hr.ol.shape
  have hsm := hp.small hN hk hres
  have hl := hsm.l
  have HSM := Lib.hid hsm
  have HS := Lib.hid hs
  have HR := Lib.hid hr
  have HP := Lib.hid hp
  clear hs hr hp hsm
  refine (callsIn_wide (n := 6)).1 ?_
  refine callsIn_of_wp_marks Try.func21 rfl trivial ?_ rfl
  simp only [Try.ntmps21, List.size_toArray, List.length_cons, List.length_nil, Nat.reduceAdd, Nat.reduceSub, Array.replicate_succ, Array.replicate_zero, List.push_toArray, List.append_toArray, List.nil_append, List.cons_append]
  refine wpIn_wide.2 ?_
  obtain ⟨W0, hW0⟩ : ∃ W0, ((w.alloc (.cells #[.pointer (some ⟨gr, 0, none⟩)] 47)).alloc (.cells #[.bool false] 4)) = W0 := ⟨_, rfl⟩
  have F0 : Hid (Fresh w W0) := Lib.hid (hW0 ▸ (((Keep.refl _ w).alloc _).alloc _))
  have B0 : Hid (Blk W0 w.heap.size 47 #[.pointer (some ⟨gr, 0, none⟩)]) := Lib.hid (hW0 ▸ ((Blk.new w _ _).alloc _))
  have B1 : Hid (Blk W0 (w.heap.size + 1) 4 #[.bool false]) := Lib.hid (hW0 ▸ Blk.at_new (by simp) _ _)
  go_wp2_with fail
  clear hW0
  go_loopg [5] 6 (fun gk u wr => ∃ q : Nat, q ≤ 6 ∧ gk = 6 - q ∧ u = .int .i64 q ∧ Fresh W0 wr)
  case atStart => exact ⟨0, by omega, rfl, rfl, Keep.refl _ _⟩
  case round =>
    obtain ⟨q, hq, rfl, rfl, hF⟩ := hrel
    have HF := Lib.hid hF
    clear hF
    by_cases hlt : q < 6
    · have KK : Hid (∀ W, Fresh wr W → Fresh wr W ∧ Blk W w.heap.size 47 #[.pointer (some ⟨gr, 0, none⟩)]) := Lib.hid fun W f => ⟨f, f.blk_ (HF.out.blk_ B0.out)⟩
      have kX := fun (W : World) (h : Blk W w.heap.size 47 #[.pointer (some ⟨gr, 0, none⟩)]) (i : Nat) => h.cell i
      by_cases h0 : q = 0
      · subst h0
        have fwd : Fresh wr wr.drew := (Keep.refl _ _).drew
        go_wp2_with fail
        go_quiet (fail)
        go_wp2_with fail
        go_roundg (6 - (0 + 1))
        case measure => omega
        case rel => exact ⟨0 + 1, by omega, rfl, by go_num, HF.out.drewN _⟩
      · have h1 : decide (0 < q) = true := decide_eq_true (by omega)
        have LS : Hid (∀ W, Fresh wr W → Calls Try.prog 14 #[.pointer (some ⟨gs, 0, none⟩), .slice (some ⟨W.heap.size, 0, none⟩) 1 1] (W.alloc (.cells #[.int .i64 q] 3)).drew fun e w' => e = .returned (.int .i64 (s.l.countP (ofClass q) : Nat)) ∧ Fresh W w') := Lib.hid fun W f => by
          have f' : Fresh W (W.alloc (.cells #[.int .i64 q] 3)).drew := ((Keep.refl _ _).alloc _).drew
          have := live_some gs vs vf s (some ⟨W.heap.size, 0, none⟩) 1 [(q : Int)] (W.alloc (.cells #[.int .i64 q] 3)).drew ((((HS.out.fresh F0.out).fresh HF.out).fresh f).fresh f') hl (IntsAt.blk (Blk.new W 3 #[.int .i64 q]).drew rfl) (by simp) (by simp)
          rw [cnt_class HP.out.cl (by omega)] at this
          exact this.mono fun e w' ⟨h1, h2⟩ => ⟨h1, f'.step h2 (fun _ _ h => h)⟩
        have LR : Hid (∀ W, Fresh wr W → Calls Try.prog 26 #[.pointer (some ⟨gr, 0, none⟩), .int .i64 q] W fun e w' => e = .returned (.int .i64 (s.l.countP (ofClass q) : Nat)) ∧ Fresh W w') := Lib.hid fun W f =>
          rlive_any gr _ vr s.l s.fr s.res q W (((HR.out.fresh F0.out).fresh HF.out).fresh f) hl
        have he : (((s.l.countP (ofClass q) : Nat) : Int) != ((s.l.countP (ofClass q) : Nat) : Int)) = false := by simp
        have fwd : Fresh wr wr.drew := (Keep.refl _ _).drew
        clear h0
        go_wp2_with fail
        go_region_held3 (fun W => Fresh wr W ∧ Blk W w.heap.size 47 #[.pointer (some ⟨gr, 0, none⟩)])
          (exact KK.out _ (by (repeat (first | (with_reducible exact Keep.refl _ _) | (with_reducible assumption) | (with_reducible refine Keep.drew ?_) | (with_reducible refine Keep.drewN ?_ _) | (with_reducible refine Keep.alloc ?_ _) | (with_reducible refine Keep.setCell ?_ ?_ _) | (with_reducible refine fun _ => rfl)))))
          (first
            | (go_at_call 14; (with_reducible refine (LS.out _ (Keep.refl _ _)).mono ?_); rintro e w2 ⟨rfl, f2⟩)
            | (go_at_call 26; (with_reducible refine (LR.out _ (by assumption)).mono ?_); rintro e w3 ⟨rfl, fR⟩; have f3 := Keep.step (S := fun _ => False) (by assumption : Fresh wr _) fR (fun _ _ h => h)))
        go_split_ands
        have F3 := Lib.hid f3
        clear kX fwd KK LS LR he h1
        go_wp2_with fail
        go_roundg (6 - (q + 1))
        case measure => omega
        case rel => exact ⟨q + 1, by omega, rfl, by go_num, HF.out.step F3.out (fun _ _ h => h)⟩
    · obtain rfl : q = 6 := by omega
      have hc := HP.out.cl
      obtain ⟨a0, ha0⟩ : ∃ a0, s.l.countP (ofClass 0) = a0 := ⟨_, rfl⟩
      obtain ⟨a1, ha1⟩ : ∃ a1, s.l.countP (ofClass 1) = a1 := ⟨_, rfl⟩
      obtain ⟨a3, ha3⟩ : ∃ a3, s.l.countP (ofClass 3) = a3 := ⟨_, rfl⟩
      have b1 : a1 ≤ s.l.length := by rw [← ha1]; exact List.countP_le_length
      have b3 : a3 ≤ s.l.length := by rw [← ha3]; exact List.countP_le_length
      have KK : Hid (∀ W, Fresh wr W → Fresh wr W ∧ Blk W w.heap.size 47 #[.pointer (some ⟨gr, 0, none⟩)]) := Lib.hid fun W f => ⟨f, f.blk_ (HF.out.blk_ B0.out)⟩
      have kX := fun (W : World) (h : Blk W w.heap.size 47 #[.pointer (some ⟨gr, 0, none⟩)]) (i : Nat) => h.cell i
      have SR : Hid (∀ W, Fresh wr W → SSlab W gs vs vf s ∧ RSlab W gr (.slice Ar s.l.length cr) vr s.l s.fr s.res) := Lib.hid fun W f => ⟨((HS.out.fresh F0.out).fresh HF.out).fresh f, ((HR.out.fresh F0.out).fresh HF.out).fresh f⟩
      have LA : Hid (∀ W, Fresh wr W → Calls Try.prog 14 #[.pointer (some ⟨gs, 0, none⟩), .slice none 0 0] W fun e w' => e = .returned (.int .i64 (a0 : Nat)) ∧ Fresh W w') := Lib.hid fun W f => by
        have := live_all gs vs vf s W (SR.out W f).1 hl
        rw [cnt_all hc, ha0] at this
        exact this
      have LS : Hid (∀ W, Fresh wr W → Calls Try.prog 14 #[.pointer (some ⟨gs, 0, none⟩), .slice (some ⟨W.heap.size, 0, none⟩) 3 3] (W.alloc (.cells #[.int .i64 1, .int .i64 3, .int .i64 1] 3)) fun e w' => e = .returned (.int .i64 ((a1 : Int) + (a3 : Int))) ∧ Fresh W w') := Lib.hid fun W f => by
        have f' : Fresh W (W.alloc (.cells #[.int .i64 1, .int .i64 3, .int .i64 1] 3)) := (Keep.refl _ _).alloc _
        have := live_some gs vs vf s (some ⟨W.heap.size, 0, none⟩) 3 [1, 3, 1] (W.alloc (.cells #[.int .i64 1, .int .i64 3, .int .i64 1] 3)) ((SR.out W f).1.fresh f') hl (IntsAt.blk (Blk.new W 3 #[.int .i64 1, .int .i64 3, .int .i64 1]) rfl) (by simp) (by simp)
        rw [cnt_two hc, ha1, ha3] at this
        exact this.mono fun e w' ⟨h1, h2⟩ => ⟨h1, f'.step h2 (fun _ _ h => h)⟩
      have L0 : Hid (∀ W, Fresh wr W → Calls Try.prog 26 #[.pointer (some ⟨gr, 0, none⟩), .int .i64 0] W fun e w' => e = .returned (.int .i64 (a0 : Nat)) ∧ Fresh W w') := Lib.hid fun W f => by
        have := rlive_any gr _ vr s.l s.fr s.res 0 W (SR.out W f).2 hl
        rw [ha0] at this
        exact this
      have L1 : Hid (∀ W, Fresh wr W → Calls Try.prog 26 #[.pointer (some ⟨gr, 0, none⟩), .int .i64 1] W fun e w' => e = .returned (.int .i64 (a1 : Nat)) ∧ Fresh W w') := Lib.hid fun W f => by
        have := rlive_any gr _ vr s.l s.fr s.res 1 W (SR.out W f).2 hl
        rw [ha1] at this
        exact this
      have L3 : Hid (∀ W, Fresh wr W → Calls Try.prog 26 #[.pointer (some ⟨gr, 0, none⟩), .int .i64 3] W fun e w' => e = .returned (.int .i64 (a3 : Nat)) ∧ Fresh W w') := Lib.hid fun W f => by
        have := rlive_any gr _ vr s.l s.fr s.res 3 W (SR.out W f).2 hl
        rw [ha3] at this
        exact this
      obtain ⟨lf, hlf⟩ : ∃ lf, s.left = lf := ⟨_, rfl⟩
      have LF : Hid (∀ W, Fresh wr W → Calls Try.prog 15 #[.pointer (some ⟨gs, 0, none⟩)] W fun e w' => e = .returned (.int .i64 lf) ∧ Fresh W w') := Lib.hid fun W f => by
        have := left_any gs vs vf s W (SR.out W f).1 HSM.out
        rw [hlf] at this
        exact this
      have RF : Hid (∀ W, Fresh wr W → Calls Try.prog 31 #[.pointer (some ⟨gr, 0, none⟩)] W fun e w' => e = .returned (.int .i64 lf) ∧ Fresh W w') := Lib.hid fun W f => by
        have := rleft_any gr _ vr s.l s.fr s.res W (SR.out W f).2 hl
        rw [HP.out.left, hlf] at this
        exact this
      have hw1 : IntKind.i64.wrap ((a1 : Int) + (a3 : Int)) = (a1 : Int) + (a3 : Int) := IntWalk.i64_in _ (by omega)
      have hw2 : ((a0 : Int) != (a0 : Int)) = false := by simp
      have hw3 : ((a1 : Int) + (a3 : Int) != (a1 : Int) + (a3 : Int)) = false := by simp
      have hw4 : (lf != lf) = false := by simp
      have fwd : Fresh wr wr.drew := (Keep.refl _ _).drew
      clear ha0 ha1 ha3 hlf hc
      go_wp2_with fail
      go_region_held3 (fun W => Fresh wr W ∧ Blk W w.heap.size 47 #[.pointer (some ⟨gr, 0, none⟩)])
        (exact KK.out _ (by (repeat (first | (with_reducible exact Keep.refl _ _) | (with_reducible assumption) | (with_reducible refine Keep.drew ?_) | (with_reducible refine Keep.drewN ?_ _) | (with_reducible refine Keep.alloc ?_ _) | (with_reducible refine Keep.setCell ?_ ?_ _) | (with_reducible refine fun _ => rfl)))))
        (first
          | (go_at_call 14; (with_reducible refine (LA.out _ (by assumption)).mono ?_); rintro e w2 ⟨rfl, f2⟩; have f2 := Keep.step (S := fun _ => False) (by assumption : Fresh wr _) f2 (fun _ _ h => h))
          | (go_at_call 14; (with_reducible refine (LS.out _ (by assumption)).mono ?_); rintro e w3 ⟨rfl, f3⟩; have f3 := Keep.step (S := fun _ => False) (by assumption : Fresh wr _) f3 (fun _ _ h => h))
          | (go_at_call 26; (with_reducible refine (L0.out _ (by assumption)).mono ?_); rintro e w4 ⟨rfl, f4⟩; have f4 := Keep.step (S := fun _ => False) (by assumption : Fresh wr _) f4 (fun _ _ h => h))
          | (go_at_call 26; (with_reducible refine (L1.out _ (by assumption)).mono ?_); rintro e w5 ⟨rfl, f5⟩; have f5 := Keep.step (S := fun _ => False) (by assumption : Fresh wr _) f5 (fun _ _ h => h))
          | (go_at_call 26; (with_reducible refine (L3.out _ (by assumption)).mono ?_); rintro e w6 ⟨rfl, f6⟩; have f6 := Keep.step (S := fun _ => False) (by assumption : Fresh wr _) f6 (fun _ _ h => h))
          | (go_at_call 15; (with_reducible refine (LF.out _ (by assumption)).mono ?_); rintro e w7 ⟨rfl, f7⟩; have f7 := Keep.step (S := fun _ => False) (by assumption : Fresh wr _) f7 (fun _ _ h => h))
          | (go_at_call 31; (with_reducible refine (RF.out _ (by assumption)).mono ?_); rintro e w8 ⟨rfl, f8⟩; have f8 := Keep.step (S := fun _ => False) (by assumption : Fresh wr _) f8 (fun _ _ h => h)))
      go_split_ands
      have F2 : Hid (Fresh W0 w8) := Lib.hid (HF.out.step f8 (fun _ _ h => h))
      clear kX fwd KK LA LS L0 L1 L3 LF RF hw1 hw2 hw3 hw4 f2 f3 f4 f5 f6 f7 f8
      have HA := Lib.hid (all_any gs vs vf s w8 ((HS.out.fresh F0.out).fresh F2.out) hl)
      go_wp2_with fail
      refine HA.out.mono ?_
      rintro e w9 ⟨hv, tv, rfl, hAI⟩
      have AI := Lib.hid hAI
      have F9 := Lib.hid ((F0.out.step F2.out (fun _ _ h => h)).step hAI.f (fun _ _ h => h))
      have B9 := Lib.hid (hAI.f.blk_ (F2.out.blk_ B0.out))
      have C9 := Lib.hid (hAI.f.blk_ (F2.out.blk_ B1.out))
      clear HA hAI
      go_wp2_with fail
      have T0 : Hid (SInv w9 s.l [] (w9.alloc (.cells #[.int .i64 0] 3))) := Lib.hid ⟨(Keep.refl _ w9).alloc _, by simp, 0, by simpa using Blk.new w9 3 #[.int .i64 0], by omega, rfl⟩
      obtain ⟨W3, hW3⟩ : ∃ W3, w9.alloc (.cells #[.int .i64 0] 3) = W3 := ⟨_, rfl⟩
      rw [hW3] at T0 ⊢
      clear hW3
      have A3 := Lib.hid (AI.out.fresh T0.out.f)
      have F3 : Hid (Fresh w W3) := Lib.hid (F9.out.step T0.out.f (fun _ _ h => h))
      have B3 := Lib.hid (Fresh.blk_ T0.out.f B9.out)
      have C3 := Lib.hid (Fresh.blk_ T0.out.f C9.out)
      have szF := T0.out.sz
      have hsz1 : w.heap.size + 2 ≤ w9.heap.size := C9.out.lt
      have hsz2 : w8.heap.size + 2 ≤ w9.heap.size := AI.out.b2.lt
      refine (wpIn_wide (n := 6)).1 ?_
      refine wpIn_rangeFunc_ownH rfl (by omega) (gf := 34) (lb := #[.pointer (some ⟨w8.heap.size, 0, none⟩), .pointer (some ⟨w8.heap.size + 1, 0, none⟩)]) rfl trivial (enters_of Try.func34 (by kernel_rfl) rfl)
        (all_stops (6 - 1) (by omega) w8.heap.size (w8.heap.size + 1) hv tv (lv s.l s.l.length) (Nat.le_trans (lv_len _ _) hl) W3 A3.out.b1 A3.out.b2 A3.out.o1 A3.out.o2) kpS_t kpS_b (Below.refl _ _) (fun _ => rfl)
        (SInv w9 s.l) (fun _ pre _ => ¬ pre <+: lv s.l s.l.length) (fun pre X Y row hs hg hr => hs.own (by omega) hg hr) (fun _ _ _ _ _ hs _ _ => hs)
        T0.out
        (fun y a' W => ∃ Bx, Blk W Bx 32 #[.int .i64 y.1, .int .i64 y.2.1] ∧ a' = { tmps := #[.pointer (some ⟨gs, 0, none⟩), .pointer (some ⟨gr, 0, none⟩), undef, .pointer (some ⟨w.heap.size, 0, none⟩), .pointer (some ⟨w.heap.size + 1, 0, none⟩), .int .i64 6, .func (.func 34) #[] #[.pointer (some ⟨w8.heap.size, 0, none⟩), .pointer (some ⟨w8.heap.size + 1, 0, none⟩)], .pointer (some ⟨w9.heap.size, 0, none⟩), .pointer (some ⟨Bx, 0, none⟩), .int .i64 y.2.2, .int .i64 6, .bool false, u12, u13, u14, u15, u16, u17, u18, u19, u20, u21, u22, u23, u24, u25, .pointer (some ⟨gs, 0, none⟩), .int .i64 ↑a0, .pointer (some ⟨gr, 0, none⟩), .int .i64 ↑a0, .bool false, .bool false, .pointer (some ⟨gs, 0, none⟩), .slice (some ⟨w4.heap.size, 0, none⟩) 3 3, .int .i64 (↑a1 + ↑a3), .pointer (some ⟨gr, 0, none⟩), .int .i64 ↑a1, .pointer (some ⟨gr, 0, none⟩), .int .i64 ↑a3, .int .i64 (↑a1 + ↑a3), .bool false, .bool false, .bool false, .pointer (some ⟨gs, 0, none⟩), .int .i64 lf, .pointer (some ⟨gr, 0, none⟩), .int .i64 lf, .bool false, .bool false, .pointer (some ⟨gs, 0, none⟩), .func (.func 34) #[] #[.pointer (some ⟨w8.heap.size, 0, none⟩), .pointer (some ⟨w8.heap.size + 1, 0, none⟩)], .func (.func 34) #[] #[.pointer (some ⟨w8.heap.size, 0, none⟩), .pointer (some ⟨w8.heap.size + 1, 0, none⟩)], .bool false, .func (.func 34) #[] #[.pointer (some ⟨w8.heap.size, 0, none⟩), .pointer (some ⟨w8.heap.size + 1, 0, none⟩)], .agg #[.int .i64 y.1, .int .i64 y.2.1], .int .i64 y.2.2, undef, undef, undef, undef, undef, undef, undef, undef, undef, undef, undef, undef, undef, undef, undef, undef, undef, undef, undef, undef, undef, undef, undef, undef, undef, undef, undef, undef, undef, undef, undef, undef, undef, undef, undef, undef, undef, undef, undef, undef, undef, undef, undef, undef, undef, undef, undef, undef, undef, undef, undef, undef, undef, undef, undef, undef, undef, undef, undef, undef, undef, undef, undef, undef, undef, undef, undef, undef, undef, undef, undef, undef, undef, undef, undef, undef, undef, undef, undef, undef, undef, undef, undef, undef, undef, undef, undef], defers := [] }) ?ax ?assign ?body ?done ?stop
      case stop =>
        rintro D c pre W _ hp hn _
        exact (hn hp).elim
      case ax =>
        rintro x a' u X Y row ⟨Bx, h2, h3⟩ hg hr
        exact ⟨Bx, blk_grown h2 hg (fun r e => (hr r e).2), h3⟩
      case assign =>
        rintro lp pre y W K f hK
        unfold enc
        gi_wp2
        exact hK _ _ ((KeepsOthers.alloc _ _).from _) ((KpS.refl _ _ _ _).fresh ((Keep.refl _ _).alloc _)) (f.fresh ((Keep.refl _ _).alloc _)) ⟨W.heap.size, Blk.new W _ _, rfl⟩
      case body =>
        rintro lp pre y a' W hlp hrec hI ⟨Bx, bx, rfl⟩ hlt
        obtain ⟨a0', hb0, ha0, hm0⟩ := hI.b
        obtain ⟨m, hm⟩ : ∃ m, pre.length = m := ⟨_, rfl⟩
        obtain ⟨q, hq⟩ : ∃ q, (lv s.l s.l.length)[m]? = some q := ⟨_, List.getElem?_eq_getElem (by omega)⟩
        have hs2 : y ≠ q → ¬ pre ++ [y] <+: lv s.l s.l.length := fun hne ⟨z, hz⟩ => by
          rw [← hz, List.append_assoc, List.getElem?_append_right (by omega), hm, Nat.sub_self] at hq
          simp at hq
          exact hne hq
        have HS2 := Lib.hid hs2
        have HQ := Lib.hid hq
        have HM := Lib.hid hm
        have hml : m < (lv s.l s.l.length).length := by omega
        have HML := Lib.hid hml
        have HI := Lib.hid hI
        have HLP := Lib.hid hlp
        have BX := Lib.hid bx
        have R0 : Hid (∀ W', Keep (fun k => k = w9.heap.size) W W' → RSlab W' gr (.slice Ar s.l.length cr) vr s.l s.fr s.res ∧ Blk W' w.heap.size 47 #[.pointer (some ⟨gr, 0, none⟩)] ∧ Blk W' (w.heap.size + 1) 4 #[.bool false] ∧ Blk W' Bx 32 #[.int .i64 y.1, .int .i64 y.2.1]) := Lib.hid fun W' K => by
          have rW := (HR.out.fresh F9.out).fresh HI.out.f
          obtain ⟨_, hbb, _⟩ := HI.out.b
          refine ⟨rW.kept K (fun i hi he => ?_), (HI.out.f.blk_ B9.out).keep K (by omega), (HI.out.f.blk_ C9.out).keep K (by omega), BX.out.keep K (fun he => ?_)⟩
          · have := HR.out.lt i hi
            omega
          · have := BX.out
            rw [he] at this
            exact absurd (blk_ty' this hbb) (by decide)
        clear hs2 hq hm hml hI hlp hrec bx
        gi_wp2_with fail
        gi_loopw [] (fun wl => ∃ a : Nat, a ≤ s.l.length ∧ (lv s.l a).length = m ∧ Blk wl w9.heap.size 3 #[.int .i64 a] ∧ Keep (fun k => k = w9.heap.size) W wl)
          (fun wl => s.l.length - atOf wl w9.heap.size)
        case atStart => exact ⟨a0', ha0, by rw [hm0]; exact HM.out, hb0, Keep.refl _ _⟩
        case round =>
          rename World => wl
          obtain ⟨a, ha, hma, hba, hK⟩ := hrel
          have HK := Lib.hid hK
          have HMA := Lib.hid hma
          have BA := Lib.hid hba
          obtain ⟨rW, b1, b2, b3⟩ := R0.out wl hK
          have alt : a < s.l.length := by
            rcases Nat.lt_or_ge a s.l.length with h | h
            · exact h
            · have := lv_over hma (by omega)
              have := HML.out
              omega
          obtain ⟨x, hx⟩ : ∃ x, s.l[a]? = some x := ⟨_, List.getElem?_eq_getElem alt⟩
          have HX := Lib.hid hx
          obtain ⟨g1, off, _, hv1, lg1, _, _, hcc⟩ := rW.ol.form (by omega)
          injection hv1 with e1 e2 e3
          subst e1 e3
          obtain ⟨q0, q1, q2⟩ := slots_at _ _ _ hx
          have q0 := hcc _ _ q0
          have q1 := hcc _ _ q1
          have q2 := hcc _ _ q2
          simp only [← Nat.add_assoc] at q1 q2
          have cA := hba.cell
          have fA := hba.frozen
          have lA := hba.lt
          have cR := rW.blk.cell
          have lR := rW.blk.lt
          have cB := b1.cell
          have lB := b1.lt
          have cT := b2.cell
          have fT := b2.frozen
          have lT := b2.lt
          have cX := b3.cell
          have lX := b3.lt
          have B2 := Lib.hid b2
          have j0 : (0 : Int) ≤ (a : Int) := by omega
          have j1 : (a : Int) < (s.l.length : Int) := by omega
          have t1 : decide ((a : Int) < (s.l.length : Int)) = true := decide_eq_true j1
          have t1' : decide (a < s.l.length) = true := decide_eq_true alt
          clear hcc hx rW b1 b2 b3 hba hK hma e2
          by_cases hc : x.c = 0
          · have ec : (x.c == 0) = true := by simp [hc]
            have HC := Lib.hid hc
            have hw : IntKind.i64.wrap ((a : Int) + 1) = (a : Int) + 1 := IntWalk.i64_in _ (by omega)
            clear hc
            gi_wp2_with fail
            (refine wpIn_region_round (by kernel_rfl) (by kernel_rfl) (by kernel_rfl) ?_; (repeat (gi_big_quiet_step (fail))); refine wpQuietIn_nil ?_; rintro _ ⟨nq, rfl⟩)
            gi_wp2_with fail
            have BN : Blk ((wl.drewN nq).setCell ⟨w9.heap.size, 0, none⟩ (.int .i64 ((a : Int) + 1))) w9.heap.size 3 #[.int .i64 ((a + 1 : Nat) : Int)] := by
              rw [show (((a + 1 : Nat)) : Int) = (a : Int) + 1 by omega]
              simpa using (BA.out.drewN nq).set_ 0 (.int .i64 ((a : Int) + 1))
            have KN : Keep (fun k => k = w9.heap.size) W ((wl.drewN nq).setCell ⟨w9.heap.size, 0, none⟩ (.int .i64 ((a : Int) + 1))) := Keep.setCell (S := fun k => k = w9.heap.size) (p := ⟨w9.heap.size, 0, none⟩) (HK.out.drewN nq) (fun _ => rfl) _
            exact ⟨⟨a + 1, by omega, by rw [lv_skip HX.out HC.out]; exact HMA.out, BN, KN⟩, by rw [atOf_blk BN, atOf_blk BA.out]; omega⟩
          · have ec : (x.c == 0) = false := by simp [hc]
            have HC := Lib.hid hc
            clear hc
            gi_wp2_with fail
            (refine wpIn_region_round (by kernel_rfl) (by kernel_rfl) (by kernel_rfl) ?_; (repeat (gi_big_quiet_step (fail))); refine wpQuietIn_nil ?_; rintro _ ⟨nq, rfl⟩)
            obtain ⟨y0, y1, y2⟩ := y
            have HN := lv_next HMA.out HX.out HC.out
            have hqe : q = ((a : Int), x.t, x.v) := by
              have := HQ.out.symm.trans HN.1
              injection this
            have HN := Lib.hid HN
            subst hqe
            have t2 : decide ((s.l.length : Int) ≤ (a : Int)) = false := decide_eq_false (by omega)
            have t2' : decide (s.l.length ≤ a) = false := decide_eq_false (by omega)
            have HOC : Hid (∀ k (o : Obj), (k = w9.heap.size ∨ k = w.heap.size + 1) → W.heap[k]? = some o → o.isCells = true) := Lib.hid (by
              rintro k o (rfl | rfl) ho
              · obtain ⟨_, hbb, _⟩ := HI.out.b
                exact blk_isCells hbb ho
              · exact blk_isCells (HI.out.f.blk_ C9.out) ho)
            simp only at cX
            by_cases d1 : y0 = (a : Int)
            rotate_left
            · have t3 : (y0 != (a : Int)) = true := by simpa using d1
              have HD : Hid ((y0, y1, y2) ≠ ((a : Int), x.t, x.v)) := fun e => d1 (by injection e)
              clear d1
              gi_wp2_with fail
              refine wpIn_region_round (by kernel_rfl) (by kernel_rfl) (by kernel_rfl) ?_
              repeat (gi_big_quiet_step (fail))
              refine wpQuietIn_nil ?_
              rintro _ ⟨nr, rfl⟩
              gi_wp2_with fail
              have K1 : Keep (fun k => k = w9.heap.size ∨ k = w.heap.size + 1) W ((wl.drewN (nq + nr)).setCell ⟨w.heap.size + 1, 0, none⟩ (.bool false)) := Keep.setCell (S := fun k => k = w9.heap.size ∨ k = w.heap.size + 1) (p := ⟨w.heap.size + 1, 0, none⟩) ((HK.out.more (fun _ _ h => .inl h)).drewN (nq + nr)) (fun _ => .inr rfl) _
              exact ⟨(keepsOthers_of_keep K1 HOC.out).from _, HS2.out HD.out⟩
            subst d1
            have t3 : ((a : Int) != (a : Int)) = false := by simp
            by_cases d2 : y1 = x.t
            rotate_left
            · have t4 : (y1 != x.t) = true := by simpa using d2
              have HD : Hid (((a : Int), y1, y2) ≠ ((a : Int), x.t, x.v)) := fun e => d2 (by injection e with _ e; injection e)
              clear d2
              gi_wp2_with fail
              refine wpIn_region_round (by kernel_rfl) (by kernel_rfl) (by kernel_rfl) ?_
              repeat (gi_big_quiet_step (fail))
              refine wpQuietIn_nil ?_
              rintro _ ⟨nr, rfl⟩
              gi_wp2_with fail
              have K1 : Keep (fun k => k = w9.heap.size ∨ k = w.heap.size + 1) W ((wl.drewN (nq + nr)).setCell ⟨w.heap.size + 1, 0, none⟩ (.bool false)) := Keep.setCell (S := fun k => k = w9.heap.size ∨ k = w.heap.size + 1) (p := ⟨w.heap.size + 1, 0, none⟩) ((HK.out.more (fun _ _ h => .inl h)).drewN (nq + nr)) (fun _ => .inr rfl) _
              exact ⟨(keepsOthers_of_keep K1 HOC.out).from _, HS2.out HD.out⟩
            subst d2
            have t4 : (x.t != x.t) = false := by simp
            by_cases d3 : y2 = x.v
            rotate_left
            · have t5 : (y2 != x.v) = true := by simpa using d3
              have HD : Hid (((a : Int), x.t, y2) ≠ ((a : Int), x.t, x.v)) := fun e => d3 (by injection e with _ e; injection e)
              clear d3
              gi_wp2_with fail
              refine wpIn_region_round (by kernel_rfl) (by kernel_rfl) (by kernel_rfl) ?_
              repeat (gi_big_quiet_step (fail))
              refine wpQuietIn_nil ?_
              rintro _ ⟨nr, rfl⟩
              gi_wp2_with fail
              have K1 : Keep (fun k => k = w9.heap.size ∨ k = w.heap.size + 1) W ((wl.drewN (nq + nr)).setCell ⟨w.heap.size + 1, 0, none⟩ (.bool false)) := Keep.setCell (S := fun k => k = w9.heap.size ∨ k = w.heap.size + 1) (p := ⟨w.heap.size + 1, 0, none⟩) ((HK.out.more (fun _ _ h => .inl h)).drewN (nq + nr)) (fun _ => .inr rfl) _
              exact ⟨(keepsOthers_of_keep K1 HOC.out).from _, HS2.out HD.out⟩
            subst d3
            have t5 : (x.v != x.v) = false := by simp
            have hw : IntKind.i64.wrap ((a : Int) + 1) = (a : Int) + 1 := IntWalk.i64_in _ (by omega)
            gi_wp2_with fail
            refine wpIn_region_round (by kernel_rfl) (by kernel_rfl) (by kernel_rfl) ?_
            repeat (gi_big_quiet_step (fail))
            refine wpQuietIn_nil ?_
            rintro _ ⟨nr, rfl⟩
            gi_wp2_with fail
            have BN : Blk ((wl.drewN (nq + nr)).setCell ⟨w9.heap.size, 0, none⟩ (.int .i64 ((a : Int) + 1))) w9.heap.size 3 #[.int .i64 ((a + 1 : Nat) : Int)] := by
              rw [show (((a + 1 : Nat)) : Int) = (a : Int) + 1 by omega]
              simpa using (BA.out.drewN (nq + nr)).set_ 0 (.int .i64 ((a : Int) + 1))
            have KN : Keep (fun k => k = w9.heap.size) W ((wl.drewN (nq + nr)).setCell ⟨w9.heap.size, 0, none⟩ (.int .i64 ((a : Int) + 1))) := Keep.setCell (S := fun k => k = w9.heap.size) (p := ⟨w9.heap.size, 0, none⟩) (HK.out.drewN (nq + nr)) (fun _ => rfl) _
            refine ⟨(keepsOthers_of_keep KN (fun k o h ho => HOC.out k o (.inl h) ho)).from _, ⟨KeepsB.of_keep KN (by omega), KeepsB.of_keep' KN ?_, KeepsB.of_keep KN ?_⟩, ⟨HI.out.f.step KN (fun k hk he => by omega), Nat.le_trans HI.out.sz KN.size, a + 1, BN, by omega, ?_⟩⟩
            · intro cur hcur he
              obtain ⟨_, hbb, _⟩ := HI.out.b
              rw [he] at hcur
              unfold Blk at hbb
              rw [hbb] at hcur
              cases hcur
            · unfold bk
              cases hov : tv.ownBlock with
              | none => simp; omega
              | some k =>
                have := AI.out.o2.lt hov
                simp
                omega
            · rw [List.length_append, List.length_singleton, HM.out]
              exact HN.out.2
      case done =>
        rintro D ys W hD rfl hI hK
        obtain ⟨a0', hb0, ha0, hm0⟩ := hI.b
        obtain ⟨m, hm⟩ : ∃ m, (lv s.l s.l.length).length = m := ⟨_, rfl⟩
        have HI := Lib.hid hI
        have HK := Lib.hid hK
        have HM := Lib.hid hm
        have hDl := (Array.getElem?_eq_some_iff.1 hK).1
        rw [hm] at hm0
        have R0 : Hid (∀ W', Keep (fun k => k = w9.heap.size) W W' → RSlab W' gr (.slice Ar s.l.length cr) vr s.l s.fr s.res ∧ Blk W' w.heap.size 47 #[.pointer (some ⟨gr, 0, none⟩)] ∧ Blk W' (w.heap.size + 1) 4 #[.bool false]) := Lib.hid fun W' K => by
          have rW := (HR.out.fresh F9.out).fresh HI.out.f
          refine ⟨rW.kept K (fun i hi he => ?_), (HI.out.f.blk_ B9.out).keep K (by omega), (HI.out.f.blk_ C9.out).keep K (by omega)⟩
          have := HR.out.lt i hi
          omega
        have HIN := Lib.hid (show ∃ a : Nat, a ≤ s.l.length ∧ s.l.length - a0' = s.l.length - a ∧ (lv s.l a).length = m ∧ Blk W w9.heap.size 3 #[.int .i64 a] ∧ Keep (fun k => k = w9.heap.size) W W from ⟨a0', ha0, rfl, hm0, hb0, Keep.refl _ _⟩)
        clear hI hK hm hb0 hm0
        go_wp2_with fail
        go_loopg [] (s.l.length - a0') (fun gk wl => ∃ a : Nat, a ≤ s.l.length ∧ gk = s.l.length - a ∧ (lv s.l a).length = m ∧ Blk wl w9.heap.size 3 #[.int .i64 a] ∧ Keep (fun k => k = w9.heap.size) W wl)
        case atStart => exact HIN.out
        case round =>
          rename World => wl
          obtain ⟨a, ha, rfl, hma, hba, hKe⟩ := hrel
          have HKe := Lib.hid hKe
          have HMA := Lib.hid hma
          have BA := Lib.hid hba
          obtain ⟨rW, b1, b2⟩ := R0.out wl hKe
          have cA := hba.cell
          have fA := hba.frozen
          have lA := hba.lt
          have cR := rW.blk.cell
          have lR := rW.blk.lt
          have cB := b1.cell
          have lB := b1.lt
          have cT := b2.cell
          have fT := b2.frozen
          have lT := b2.lt
          have B2 := Lib.hid b2
          have RW := Lib.hid rW
          clear rW b1 b2 hba hKe hma
          by_cases alt : a < s.l.length
          · obtain ⟨x, hx⟩ : ∃ x, s.l[a]? = some x := ⟨_, List.getElem?_eq_getElem alt⟩
            have HX := Lib.hid hx
            have hc : x.c = 0 := by
              by_cases h : x.c = 0
              · exact h
              · have h1 := (lv_next HMA.out hx h).1
                rw [List.getElem?_eq_none (by rw [HM.out]; omega)] at h1
                cases h1
            obtain ⟨g1, off, _, hv1, lg1, _, _, hcc⟩ := RW.out.ol.form (by omega)
            injection hv1 with e1 e2 e3
            subst e1 e3
            obtain ⟨q0, q1, q2⟩ := slots_at _ _ _ hx
            have q0 := hcc _ _ q0
            have j0 : (0 : Int) ≤ (a : Int) := by omega
            have j1 : (a : Int) < (s.l.length : Int) := by omega
            have t1 : decide ((a : Int) < (s.l.length : Int)) = true := decide_eq_true j1
            have t1' : decide (a < s.l.length) = true := decide_eq_true alt
            have ec : (x.c == 0) = true := by simp [hc]
            have HC := Lib.hid hc
            have hw : IntKind.i64.wrap ((a : Int) + 1) = (a : Int) + 1 := IntWalk.i64_in _ (by omega)
            clear hcc hx hc e2
            go_wp2_with fail
            go_quiet (fail)
            go_wp2_with fail
            have BN : Blk ((wl.drewN nq).setCell ⟨w9.heap.size, 0, none⟩ (.int .i64 ((a : Int) + 1))) w9.heap.size 3 #[.int .i64 ((a + 1 : Nat) : Int)] := by
              rw [show (((a + 1 : Nat)) : Int) = (a : Int) + 1 by omega]
              simpa using (BA.out.drewN nq).set_ 0 (.int .i64 ((a : Int) + 1))
            have KN : Keep (fun k => k = w9.heap.size) W ((wl.drewN nq).setCell ⟨w9.heap.size, 0, none⟩ (.int .i64 ((a : Int) + 1))) := Keep.setCell (S := fun k => k = w9.heap.size) (p := ⟨w9.heap.size, 0, none⟩) (HKe.out.drewN nq) (fun _ => rfl) _
            go_roundg (s.l.length - (a + 1))
            case measure => omega
            case rel => exact ⟨a + 1, by omega, rfl, by rw [lv_skip HX.out HC.out]; exact HMA.out, BN, KN⟩
          · obtain rfl : a = s.l.length := by omega
            have t1 : decide ((s.l.length : Int) < (s.l.length : Int)) = false := decide_eq_false (by omega)
            have t1' : decide (s.l.length < s.l.length) = false := decide_eq_false (by omega)
            have t2 : ((s.l.length : Int) == (s.l.length : Int)) = true := by simp
            go_wp2_with fail
            go_quiet (fail)
            go_wp2_with fail
            go_region
            go_wp2_with fail
            have b9 : Blk ((wl.drewN (nq + 1)).setCell ⟨w.heap.size + 1, 0, none⟩ (.bool true)) (w.heap.size + 1) 4 #[.bool true] := by simpa using (B2.out.drewN (nq + 1)).set_ 0 (.bool true)
            have fwW : Fresh w W := F9.out.step HI.out.f (fun _ _ h => h)
            have f9 : Fresh w ((wl.drewN (nq + 1)).setCell ⟨w.heap.size + 1, 0, none⟩ (.bool true)) := Keep.setCell (p := ⟨w.heap.size + 1, 0, none⟩) ((fwW.step HKe.out (fun k h1 h2 => by omega)).drewN (nq + 1)) (fun h => by simp at h; omega) _
            have hDne : D ≠ w.heap.size + 1 := by omega
            have k9 : ((wl.drewN (nq + 1)).setCell ⟨w.heap.size + 1, 0, none⟩ (.bool true)).heap[D]? = some (.deferred (some [])) := (Below.heap_setCell _ ⟨w.heap.size + 1, 0, none⟩ _ D hDne).trans ((HKe.out.block D hDl (by omega)).trans HK.out)
            refine ⟨by simp, .inl ⟨_, _, rfl, run_takeDeferred k9, ?_⟩⟩
            have hr : ∀ rr, some D = some rr → ∃ o : Obj, ((wl.drewN (nq + 1)).setCell ⟨w.heap.size + 1, 0, none⟩ (.bool true)).heap[rr]? = some o ∧ o.isCells = false := fun rr e => by cases e; exact ⟨_, k9, rfl⟩
            have hg := grownBy_putObj' ((wl.drewN (nq + 1)).setCell ⟨w.heap.size + 1, 0, none⟩ (.bool true)) D (.deferred none)
            have c9 := (blk_grown b9 hg hr).cell
            have g9 := ownFrom_fresh (β := Unit) (Nat.le_refl w.heap.size) () _ _ _ f9 hg (fun rr e => by cases e; exact ⟨by omega, _, k9, rfl⟩)
            exact ⟨.bool true, by simp [results, Try.results21, go_sem, c9]; try rfl, rfl, g9⟩
end Go.Proofs.Ytdobhicjhgdhnaa
