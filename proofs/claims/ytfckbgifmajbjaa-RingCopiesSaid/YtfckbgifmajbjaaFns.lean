/-
  ring.Ring[int]: New, place, tell, First, Last, Len, Room.
-/
import Derived.Test.YtfckbgifmajbjaaRows
import Derived.Test.YtfckbgifmajbjaaOwnMore
import Derived.Handy
import Derived.BigQuiet
import Derived.BigRegion
import Derived.Deep.QuietTactic
import Derived.Deep.RegionHeld3
import Derived.Deep.LoopGhost
import Derived.Deep.RegionLaw
import Derived.Deep.DrawnRows
import Derived.StillTailTactics
import Derived.LaidEqlPtr
import Derived.Lib.LazyBuf
import Derived.Laws.MakeOwn
namespace Go.Proofs.Ytfckbgifmajbjaa
open Go.RowKit
attribute [local go_sem ↓] Go.wp_at_zero Go.wp_at_succ

def cells (l : List (Int × Int)) : List Value := l.flatMap fun s => [.int .i64 s.1, .int .i64 s.2]
theorem cells_length (l : List (Int × Int)) : (cells l).length = l.length * 2 := by
  induction l with
  | nil => rfl
  | cons a l ih => simp only [cells, List.flatMap_cons, List.length_append, List.length_cons, List.length_nil] at ih ⊢; omega
theorem cells_at : ∀ (l : List (Int × Int)) (k : Nat) (s : Int × Int), l[k]? = some s → (cells l)[k * 2]? = some (.int .i64 s.1) ∧ (cells l)[k * 2 + 1]? = some (.int .i64 s.2)
  | [], _, _, h => by simp at h
  | a :: l, 0, s, h => by
    simp at h
    subst h
    exact ⟨rfl, rfl⟩
  | a :: l, k + 1, s, h => by
    have := cells_at l k s (by simpa using h)
    have e : cells (a :: l) = .int .i64 a.1 :: .int .i64 a.2 :: cells l := rfl
    rw [e, show (k + 1) * 2 = k * 2 + 2 by omega, show k * 2 + 2 + 1 = (k * 2 + 1) + 2 by omega]
    exact this
/-- A ring: its rows c, where the first thing stands, how many there are. -/
structure SRing (w : World) (g : Nat) (v : Value) (c : List (Int × Int)) (first many : Nat) : Prop where
  blk : Blk w g 60 #[v, .int .i64 first, .int .i64 many]
  own : OwnS w 66 2 v c.length (cells c)
theorem SRing.fresh {w w' : World} {g : Nat} {v : Value} {c : List (Int × Int)} {first many : Nat} (h : SRing w g v c first many) (f : Fresh w w') : SRing w' g v c first many := ⟨f.blk_ h.blk, h.own.fresh f⟩

theorem len_nil (w : World) : Calls Try.prog 15 #[.pointer none] w fun e w' => e = .returned (.int .i64 0) ∧ w = w' := by
  go_enter Try.func15, Try.ntmps15
  go_wp2
  go_ret
  exact ⟨rfl, rfl⟩
theorem room_nil (w : World) : Calls Try.prog 21 #[.pointer none] w fun e w' => e = .returned (.int .i64 0) ∧ w = w' := by
  go_enter Try.func21, Try.ntmps21
  go_wp2
  go_ret
  exact ⟨rfl, rfl⟩
theorem copy_nil (w : World) : Calls Try.prog 22 #[.pointer none] w fun e w' => e = .returned (.pointer none) ∧ w = w' := by
  go_enter Try.func22, Try.ntmps22
  go_wp2
  go_ret
  exact ⟨rfl, rfl⟩
theorem push_nil (a b : Int) (w : World) : Calls Try.prog 24 #[.pointer none, .int .i64 a, .int .i64 b] w fun e w' => e = .returned (.int .i64 2) ∧ w = w' := by
  go_enter Try.func24, Try.ntmps24
  go_wp2
  go_ret
  exact ⟨rfl, rfl⟩
theorem first_nil (w : World) : Calls Try.prog 13 #[.pointer none] w fun e w' => e = .returned (.tuple #[.int .i64 0, .int .i64 0, .int .i64 2]) ∧ w = w' := by
  go_enter Try.func13, Try.ntmps13
  go_wp2
  go_ret3
  exact ⟨rfl, rfl⟩
theorem last_nil (w : World) : Calls Try.prog 14 #[.pointer none] w fun e w' => e = .returned (.tuple #[.int .i64 0, .int .i64 0, .int .i64 2]) ∧ w = w' := by
  go_enter Try.func14, Try.ntmps14
  go_wp2
  go_ret3
  exact ⟨rfl, rfl⟩
theorem tmod_place (a b n : Nat) : ((a : Int) + (b : Int)).tmod (n : Int) = (((a + b) % n : Nat) : Int) := by
  rw [← Int.natCast_add]
  exact (Int.ofNat_tmod (a + b) n).symm
theorem place_q (g : Nat) (v : Value) (c : List (Int × Int)) (first many i : Nat) (w : World) (h : SRing w g v c first many) (hc : 0 < c.length) (hl : c.length ≤ 100000) (hf : first ≤ 100000) (hi : i ≤ 100000) :
    Calls Try.prog 34 #[.pointer (some ⟨g, 0, none⟩), .int .i64 (i : Nat)] w fun e w' => e = .returned (.int .i64 (((first + i) % c.length : Nat) : Int)) ∧ ∃ m, w' = w.drewN m := by
  have hb := h.blk.cell
  obtain ⟨A, cap, rfl, _, _⟩ := h.own.shape
  have e1 := tmod_place first i c.length
  have t3 : ¬ (c.length : Int) = 0 := by omega
  have t2 : ((c.length : Int) == 0) = false := by rw [beq_eq_false_iff_ne]; omega
  clear h
  go_enter Try.func34, Try.ntmps34
  go_wp2_with fail
  go_quiet (fail)
  go_wp2
  go_ret
  exact ⟨rfl, _, rfl⟩
theorem place_any (g : Nat) (v : Value) (c : List (Int × Int)) (first many i : Nat) (w : World) (h : SRing w g v c first many) (hc : 0 < c.length) (hl : c.length ≤ 100000) (hf : first ≤ 100000) (hi : i ≤ 100000) :
    Calls Try.prog 34 #[.pointer (some ⟨g, 0, none⟩), .int .i64 (i : Nat)] w fun e w' => e = .returned (.int .i64 (((first + i) % c.length : Nat) : Int)) ∧ Fresh w w' :=
  (place_q g v c first many i w h hc hl hf hi).mono fun e w' ⟨h1, m, h2⟩ => ⟨h1, h2 ▸ (Keep.refl _ w).drewN m⟩
theorem len_any (g : Nat) (v : Value) (c : List (Int × Int)) (first many : Nat) (w : World) (h : SRing w g v c first many) : Calls Try.prog 15 #[.pointer (some ⟨g, 0, none⟩)] w fun e w' => e = .returned (.int .i64 many) ∧ w = w' := by
  have hb := h.blk.cell
  clear h
  go_enter Try.func15, Try.ntmps15
  go_wp2
  go_ret
  exact ⟨rfl, rfl⟩
theorem room_any (g : Nat) (v : Value) (c : List (Int × Int)) (first many : Nat) (w : World) (h : SRing w g v c first many) (hl : c.length ≤ 100000) (hm : many ≤ 100000) :
    Calls Try.prog 21 #[.pointer (some ⟨g, 0, none⟩)] w fun e w' => e = .returned (.int .i64 ((c.length : Int) - many)) ∧ Fresh w w' := by
  have hb := h.blk.cell
  obtain ⟨A, cap, rfl, _, _⟩ := h.own.shape
  clear h
  go_enter Try.func21, Try.ntmps21
  go_wp2_with fail
  go_quiet (fail)
  go_wp2
  go_ret
  exact ⟨rfl, (Keep.refl _ w).drewN _⟩
/-- the thing of a number -/
def nth (c : List (Int × Int)) (first i : Nat) : Option (Int × Int) := c[(first + i) % c.length]?
theorem tell_none (g : Nat) (v : Value) (c : List (Int × Int)) (first many : Nat) (i : Int) (w : World) (h : SRing w g v c first many) (hi : i < 0 ∨ many ≤ i) :
    Calls Try.prog 31 #[.pointer (some ⟨g, 0, none⟩), .int .i64 i] w fun e w' => e = .returned (.tuple #[.int .i64 0, .int .i64 0, .int .i64 14]) ∧ Fresh w w' := by
  have hb := h.blk.cell
  clear h
  by_cases h1 : i < 0
  · have t1 : decide (i < 0) = true := by simpa using h1
    go_enter Try.func31, Try.ntmps31
    go_wp2_with fail
    go_ret3
    exact ⟨rfl, Keep.refl _ _⟩
  · have t1 : decide (i < 0) = false := by simpa using h1
    have t2 : decide ((many : Int) ≤ i) = true := by simp; omega
    go_enter Try.func31, Try.ntmps31
    go_wp2_with fail
    go_ret3
    exact ⟨rfl, Keep.refl _ _⟩
end Go.Proofs.Ytfckbgifmajbjaa
