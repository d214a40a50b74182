/-
  gvt.Worker: NewWorker, isTime, follows, Got, Round, Sent, Acked; the nil ones.
-/
import Derived.Test.YtegffmnenicldaaWorkP
import Derived.Handy
import Derived.BigQuiet
import Derived.BigRegion
import Derived.Deep.QuietTactic
import Derived.Deep.RegionHeld3
import Derived.Deep.LoopGhost
import Derived.StillTailTactics
import Derived.LaidEqlPtr
import Derived.Carry
import Derived.Deep.RegionLaw
import Derived.Deep.DrawnRows
import Derived.Lib.LazyBuf
import Derived.Laws.MakeOwn
namespace Go.Proofs.Ytegffmnenicldaa
open Go.RowKit Go.Maps
attribute [local go_sem ↓] Go.wp_at_zero Go.wp_at_succ

theorem run_min (P : Program) (w : World) (ts : Array TypeId) (t : TypeId) (k : IntKind) (x y : Int) : (Builtin.min_ ts t #[.int k x, .int k y]).run P w = .ok (.int k (min x y)) w := by
  simp [Builtin.min_, Builtin.min2]
  split <;> omega
attribute [local go_sem ↓] run_min
theorem lawI : Keyed Try.prog 3 := int_keyed Try.underlying3
theorem zeroI (w : World) : (zeroValue 3).run Try.prog w = .ok (.int .i64 0) w := by kernel_rfl

structure SWork (w : World) (g b K : Nat) (s : GW) : Prop where
  blk : Blk w g 70 #[.int .i64 s.no, .map (some b), .int .i64 s.low]
  map : MapIs w b K s.l
theorem SWork.kept {w w' : World} {g b K : Nat} {s : GW} {S : Nat → Prop} (h : SWork w g b K s) (k : Keep S w w') (h1 : ¬ S g) (h2 : ¬ S b) : SWork w' g b K s := ⟨h.blk.keep k h1, h.map.keep k h2⟩
theorem SWork.fresh {w w' : World} {g b K : Nat} {s : GW} (h : SWork w g b K s) (k : Fresh w w') : SWork w' g b K s := h.kept k (fun h => h) (fun h => h)
theorem SWork.more {w : World} {g b K : Nat} {s : GW} (h : SWork w g b K s) : SWork w g b (K + 1) s := ⟨h.blk, h.map.more⟩

theorem newW_any (w : World) : Calls Try.prog 9 #[] w fun e w' => ∃ g b, e = .returned (.pointer (some ⟨g, 0, none⟩)) ∧ SWork w' g b 0 ⟨0, [], 1073741825⟩ ∧ Fresh w w' ∧ w.heap.size ≤ g ∧ w.heap.size ≤ b := by
  have hmm := @run_makeMap Try.prog
  go_enter Try.func9, Try.ntmps9
  go_wp2
  go_ret
  refine ⟨w.heap.size + 1, w.heap.size, rfl, ⟨Blk.at_new (by simp) _ _, ?_⟩, ((Keep.refl _ w).alloc _).alloc _, by omega, by omega⟩
  have h0 : MapIs (w.alloc (.map #[] 0)) w.heap.size 0 [] := ⟨0, .map [], Nat.le_refl _, World.ownsMap_made _ _ _ _, Rd.nil⟩
  exact h0.fresh ((Keep.refl _ _).alloc _)

theorem time_any (x : Int) (w : World) : Calls Try.prog 38 #[.int .i64 x] w fun e w' => e = .returned (.bool (timeB x)) ∧ w = w' := by
  unfold timeB
  have hq : decide (0 ≤ x) = false ∨ (decide (0 ≤ x) = true ∧ decide (x ≤ 1073741825) = false) ∨ (decide (0 ≤ x) = true ∧ decide (x ≤ 1073741825) = true) := by
    cases decide (0 ≤ x) <;> cases decide (x ≤ 1073741825) <;> simp
  rcases hq with h1 | ⟨h1, h2⟩ | ⟨h1, h2⟩
  · rw [h1, Bool.false_and]
    go_enter Try.func38, Try.ntmps38
    go_wp2
    go_ret
    exact ⟨rfl, rfl⟩
  all_goals
    rw [h1, h2, Bool.true_and]
    go_enter Try.func38, Try.ntmps38
    go_wp2
    go_ret
    exact ⟨rfl, rfl⟩
theorem follows_any (x : Int) (h : -1000000 ≤ x ∧ x ≤ 1000000) (w : World) : Calls Try.prog 37 #[.agg #[.int .i64 x]] w fun e w' => e = .returned (.int .i64 (x + 1)) ∧ Fresh w w' := by
  go_enter Try.func37, Try.ntmps37
  go_wp2
  go_ret
  exact ⟨rfl, (Keep.refl _ w).alloc _⟩
theorem got_nil (w : World) : Calls Try.prog 14 #[.pointer none] w fun e w' => e = .returned (.tuple #[.int .i64 0, .int .i64 2]) ∧ w = w' := by
  go_enter Try.func14, Try.ntmps14
  go_wp2
  go_ret2
  exact ⟨rfl, rfl⟩
theorem got_any (g b K : Nat) (s : GW) (w : World) (h : SWork w g b K s) : Calls Try.prog 14 #[.pointer (some ⟨g, 0, none⟩)] w fun e w' => e = .returned (.tuple #[.int .i64 s.no, .int .i64 0]) ∧ w = w' := by
  have hb := h.blk.cell
  clear h
  go_enter Try.func14, Try.ntmps14
  go_wp2
  go_ret2
  exact ⟨rfl, rfl⟩
theorem round_nil (w : World) : Calls Try.prog 16 #[.pointer none] w fun e w' => e = .returned (.int .i64 0) ∧ w = w' := by
  go_enter Try.func16, Try.ntmps16
  go_wp2
  go_ret
  exact ⟨rfl, rfl⟩
theorem round_any (g b K : Nat) (s : GW) (w : World) (h : SWork w g b K s) : Calls Try.prog 16 #[.pointer (some ⟨g, 0, none⟩)] w fun e w' => e = .returned (.int .i64 s.no) ∧ w = w' := by
  have hb := h.blk.cell
  clear h
  go_enter Try.func16, Try.ntmps16
  go_wp2
  go_ret
  exact ⟨rfl, rfl⟩
theorem sent_nil (a c : Int) (w : World) : Calls Try.prog 32 #[.pointer none, .int .i64 a, .int .i64 c] w fun e w' => e = .returned (.int .i64 2) ∧ w = w' := by
  go_enter Try.func32, Try.ntmps32
  go_wp2
  go_ret
  exact ⟨rfl, rfl⟩
theorem acked_nil (a c : Int) (w : World) : Calls Try.prog 33 #[.pointer none, .int .i64 a, .int .i64 c] w fun e w' => e = .returned (.int .i64 2) ∧ w = w' := by
  go_enter Try.func33, Try.ntmps33
  go_wp2
  go_ret
  exact ⟨rfl, rfl⟩
theorem start_nil (a : Int) (A : Option Addr) (n c : Nat) (w : World) : Calls Try.prog 17 #[.pointer none, .int .i64 a, .slice A n c] w fun e w' => e = .returned (.tuple #[.int .i64 0, .int .i64 2]) ∧ w = w' := by
  go_enter Try.func17, Try.ntmps17
  go_wp2
  go_ret2
  exact ⟨rfl, rfl⟩
theorem open_nil (w : World) : Calls Try.prog 13 #[.pointer none] w fun e w' => e = .returned (.tuple #[.int .i64 0, .int .i64 0]) ∧ w = w' := by
  go_enter Try.func13, Try.ntmps13
  go_wp2
  go_ret2
  exact ⟨rfl, rfl⟩

theorem sent_any (g b K : Nat) (s : GW) (no at_ : Int) (w : World) (h : SWork w g b K s) (hK : K ≤ 100000) (hw : (Lit.int .i64 no).wf = true) :
    Calls Try.prog 32 #[.pointer (some ⟨g, 0, none⟩), .int .i64 no, .int .i64 at_] w fun e w' => e = .returned (.int .i64 (s.sent no at_).1) ∧ SWork w' g b (K + 1) (s.sent no at_).2 ∧ Keep (fun k => k = b) w w' := by
  have hb := h.blk.cell
  have HS := Lib.hid h.more
  unfold GW.sent
  by_cases h1 : no < 0
  · rw [if_pos h1]
    have t1 : decide (no < 0) = true := decide_eq_true h1
    clear h h1
    go_enter Try.func32, Try.ntmps32
    go_wp2_with fail
    go_ret
    exact ⟨rfl, HS.out, Keep.refl _ _⟩
  rw [if_neg h1]
  have t1 : decide (no < 0) = false := decide_eq_false h1
  have HT := Lib.hid (time_any at_ w)
  by_cases h2 : timeB at_ = false
  · rw [if_pos h2]
    rw [h2] at HT
    clear h h1 h2
    go_enter Try.func32, Try.ntmps32
    go_wp2_with (go_at_call 38; refine HT.out.mono ?_; rintro e w1 ⟨rfl, rfl⟩)
    go_ret
    exact ⟨rfl, HS.out, Keep.refl _ _⟩
  rw [if_neg h2]
  have h2' : timeB at_ = true := by simpa using h2
  have hat := timeB_iff.1 h2'
  rw [h2'] at HT
  have hkey := keyOf_int_mk Try.underlying3 hw
  obtain ⟨n, D, hn, hown, hrd⟩ := h.map
  have hhas := hrd.has no
  have HR := Lib.hid hrd
  have HO := Lib.hid hown
  by_cases h3 : keyB s.l no = true
  · rw [if_pos h3]
    rw [h3] at hhas
    clear h h1 h2 h2' h3 hrd hown hat
    go_enter Try.func32, Try.ntmps32
    go_wp2_with (first
      | (go_at_call 38; refine HT.out.mono ?_; rintro e w1 ⟨rfl, rfl⟩)
      | (at_lookup; refine wpList_lookup_own_ok_int _ rfl _ _ 66 rfl 3 3 .i64 lawI Try.underlying66 Try.underlying3 (zeroI _) b n D rfl HO.out _ _ rfl hkey ?_; intro c hat hwc; rw [hhas]; clear hat))
    go_ret
    exact ⟨rfl, HS.out, Keep.refl _ _⟩
  · rw [if_neg h3]
    have h3' : keyB s.l no = false := by simpa using h3
    rw [h3'] at hhas
    have FIN : Hid (∀ w', w'.ownsMap (H := Unit) Try.prog 3 (plainElem Try.prog 3) b (n + 1) (D.put (.int .i64 no) (.lit (.int .i64 at_))) → w.mapTurned w' b → SWork w' g b (K + 1) ⟨s.no, s.l ++ [(no, at_)], s.low⟩ ∧ Keep (fun k => k = b) w w') := fun w' o1 tn => by
      have k1 := keep_turned tn
      exact ⟨⟨h.blk.keep k1 (fun e => h.map.ne_blk h.blk e), n + 1, _, by omega, o1, hrd.put (hown.tidy lawI) h3'⟩, k1⟩
    have hwat : (Lit.int .i64 at_).wf = true := WalkArith.wf_i64 (by omega)
    have hn2 : n < maxLen := by unfold maxLen; omega
    clear h h1 h2 h2' h3 h3' hrd hown hat HS hn
    go_enter Try.func32, Try.ntmps32
    go_wp2_with (first
      | (go_at_call 38; refine HT.out.mono ?_; rintro e w1 ⟨rfl, rfl⟩)
      | (at_lookup; refine wpList_lookup_own_ok_int _ rfl _ _ 66 rfl 3 3 .i64 lawI Try.underlying66 Try.underlying3 (zeroI _) b n D rfl HO.out _ _ rfl hkey ?_; intro c hat hwc; rw [hhas]; clear hat)
      | (at_mapUpdate; refine wpList_mapUpdate_in _ rfl _ _ _ 66 rfl 3 3 lawI Try.underlying66 _ b n D rfl HO.out hn2 _ _ _ rfl rfl hkey _ [] (plainElem_int Try.underlying3 hwat) ?_; intro w1 hown1 hturn1))
    go_ret
    exact ⟨rfl, FIN.out _ hown1 hturn1⟩
end Go.Proofs.Ytegffmnenicldaa
