/-
  ring.Ring[int]: tell of a thing that is there; First, Last.
-/
import Derived.Test.YtfckbgifmajbjaaFns
namespace Go.Proofs.Ytfckbgifmajbjaa
open Go.RowKit
attribute [local go_sem ↓] Go.wp_at_zero Go.wp_at_succ
theorem tell_some (g : Nat) (v : Value) (c : List (Int × Int)) (first many i : Nat) (s : Int × Int) (w : World) (h : SRing w g v c first many) (hl : c.length ≤ 100000) (hf : first ≤ 100000) (hi : i < many) (hm : many ≤ c.length) (hs : nth c first i = some s) :
    Calls Try.prog 31 #[.pointer (some ⟨g, 0, none⟩), .int .i64 (i : Nat)] w fun e w' => e = .returned (.tuple #[.int .i64 s.1, .int .i64 s.2, .int .i64 0]) ∧ Fresh w w' := by
  have hb := h.blk.cell
  have hg := h.blk.lt
  obtain ⟨gs, off, cap, rfl, ls, _, lcs, hcs⟩ := h.own.form (by omega)
  have lcs : cap ≤ 9223372036854775807 := by unfold maxLen at lcs; omega
  have hp := place_any g _ c first many i w h (by omega) hl hf (by omega)
  have HP := Lib.hid hp
  have hlt : (first + i) % c.length < c.length := Nat.mod_lt _ (by omega)
  obtain ⟨q, hq⟩ : ∃ q, (first + i) % c.length = q := ⟨_, rfl⟩
  unfold nth at hs
  rw [hq] at HP hlt hs
  obtain ⟨c0, c1⟩ := cells_at c q s hs
  have c0 := hcs _ _ c0
  have c1 := hcs _ _ c1
  rw [← Nat.add_assoc] at c1
  have t1 : decide ((i : Int) < 0) = false := by simp
  have t2 : decide ((many : Int) ≤ (i : Int)) = false := by simp; omega
  have j0 : (0 : Int) ≤ (q : Int) := by omega
  have j1 : (q : Int) < (c.length : Int) := by omega
  have H := Lib.hid h
  have HQ := Lib.hid hq
  clear h hp hq hs hcs HP
  go_enter Try.func31, Try.ntmps31
  go_wp2_with fail
  have kR := fun (W : World) (h : Blk W g 60 #[.slice (some ⟨gs, off, none⟩) c.length cap, .int .i64 first, .int .i64 many]) (i : Nat) => h.cell i
  have KK : Hid (∀ W, Fresh w W → Blk W g 60 #[.slice (some ⟨gs, off, none⟩) c.length cap, .int .i64 first, .int .i64 many] ∧ W.cell? ⟨gs, off + q * 2, none⟩ = some (.int .i64 s.1) ∧ W.cell? ⟨gs, off + q * 2 + 1, none⟩ = some (.int .i64 s.2)) :=
    fun W f => ⟨f.blk_ H.out.blk, f.cell_ c0, f.cell_ c1⟩
  have FD : Hid (Fresh w w.drew) := (Keep.refl _ _).drew
  have PL : Hid (∀ W, Fresh w W → Calls Try.prog 34 #[.pointer (some ⟨g, 0, none⟩), .int .i64 (i : Nat)] W fun e w' => e = .returned (.int .i64 (q : Nat)) ∧ Fresh W w') := by
    intro W f
    have := place_any g _ c first many i W (H.out.fresh f) (by omega) hl hf (by omega)
    rw [HQ.out] at this
    exact this
  have FA : Hid (∀ o : Obj, Fresh w (w.alloc o).drew) := fun o => ((Keep.refl _ _).alloc o).drew
  have FS : Hid (∀ W, Fresh w.drew W → Fresh w W) := fun W f => FD.out.step f (fun _ _ h => h)
  clear hb
  go_region_held3 (fun W => Blk W g 60 #[.slice (some ⟨gs, off, none⟩) c.length cap, .int .i64 first, .int .i64 many] ∧ W.cell? ⟨gs, off + q * 2, none⟩ = some (.int .i64 s.1) ∧ W.cell? ⟨gs, off + q * 2 + 1, none⟩ = some (.int .i64 s.2))
    (first
      | exact KK.out _ FD.out
      | exact KK.out _ (FA.out _)
      | exact KK.out _ f2
      | exact KK.out _ (f2.alloc _)
      | exact KK.out _ (f2.setCell (p := ⟨w.heap.size, _, none⟩) (fun h => absurd h (Nat.lt_irrefl _)) _)
      | exact KK.out _ ((f2.setCell (p := ⟨w.heap.size, _, none⟩) (fun h => absurd h (Nat.lt_irrefl _)) _).setCell (p := ⟨w.heap.size, _, none⟩) (fun h => absurd h (Nat.lt_irrefl _)) _))
    (first
      | (go_at_call 34; refine (PL.out _ FD.out).mono ?_; rintro e w2 ⟨rfl, f2⟩; have f2 := FD.out.step f2 (fun _ _ h => h))
      | (go_at_call 34; refine (PL.out _ (FA.out _)).mono ?_; rintro e w2 ⟨rfl, f2⟩; have b2 := Fresh.blk_ f2 (Blk.new w 66 #[.int .i64 0, .int .i64 0]).drew; have c2 := b2.cell; have z2 := b2.frozen; have l2 := b2.lt; have f2 := (FA.out _).step f2 (fun _ _ h => h)))
  all_goals go_split_ands
  all_goals go_wp2_with fail
  all_goals first
    | (have b3 := (b2.set_ 0 (.int .i64 s.1)).set_ 1 (.int .i64 s.2); have c3 := b3.cell; have F2 := Lib.hid f2; have B3 := Lib.hid b3; clear c2 b2 b3 f2 z2; go_quiet (fail); go_wp2; go_ret3; exact ⟨rfl, ((F2.out.setCell (p := ⟨w.heap.size, 0, none⟩) (fun h => absurd h (Nat.lt_irrefl _)) _).setCell (p := ⟨w.heap.size, 1, none⟩) (fun h => absurd h (Nat.lt_irrefl _)) _).drewN _⟩)
    | (go_quiet (fail); go_wp2; go_ret3; exact ⟨rfl, (f2.alloc _).drewN _⟩)
/-- what is told of a number -/
def told (o : Option (Int × Int)) : Value := match o with
  | some s => .tuple #[.int .i64 s.1, .int .i64 s.2, .int .i64 0]
  | none => .tuple #[.int .i64 0, .int .i64 0, .int .i64 14]
theorem nth_some {c : List (Int × Int)} {first i : Nat} (hc : 0 < c.length) : ∃ s, nth c first i = some s := ⟨_, List.getElem?_eq_getElem (Nat.mod_lt _ hc)⟩
/-- the things in order -/
def things (c : List (Int × Int)) (first many : Nat) : List (Int × Int) := (List.range many).filterMap (nth c first)
theorem tell_any (g : Nat) (v : Value) (c : List (Int × Int)) (first many : Nat) (i : Int) (w : World) (h : SRing w g v c first many) (hl : c.length ≤ 100000) (hf : first ≤ 100000) (hm : many ≤ c.length) :
    Calls Try.prog 31 #[.pointer (some ⟨g, 0, none⟩), .int .i64 i] w fun e w' => e = .returned (told (if 0 ≤ i ∧ i < many then nth c first i.toNat else none)) ∧ Fresh w w' := by
  by_cases hi : 0 ≤ i ∧ i < many
  · rw [if_pos hi]
    obtain ⟨k, rfl⟩ := Int.eq_ofNat_of_zero_le hi.1
    obtain ⟨s, hs⟩ := nth_some (c := c) (first := first) (i := k) (by omega)
    rw [Int.toNat_natCast, hs]
    exact tell_some g v c first many k s w h hl hf (by omega) hm hs
  · rw [if_neg hi]
    exact tell_none g v c first many i w h (by omega)
theorem first_any (g : Nat) (v : Value) (c : List (Int × Int)) (first many : Nat) (w : World) (h : SRing w g v c first many) (hl : c.length ≤ 100000) (hf : first ≤ 100000) (hm : many ≤ c.length) :
    Calls Try.prog 13 #[.pointer (some ⟨g, 0, none⟩)] w fun e w' => e = .returned (told (if 0 < many then nth c first 0 else none)) ∧ Fresh w w' := by
  have ht := tell_any g v c first many 0 w h hl hf hm
  have e1 : (if (0 : Int) ≤ 0 ∧ (0 : Int) < many then nth c first (0 : Int).toNat else none) = (if 0 < many then nth c first 0 else none) := by
    by_cases hp : 0 < many
    · rw [if_pos ⟨by omega, by omega⟩, if_pos hp]; rfl
    · rw [if_neg (by omega), if_neg hp]
  rw [e1] at ht
  obtain ⟨o, ho⟩ : ∃ o, (if 0 < many then nth c first 0 else none) = o := ⟨_, rfl⟩
  rw [ho] at ht ⊢
  have HT := Lib.hid ht
  clear ht h e1 ho
  rcases o with _ | ⟨a, b⟩
  all_goals
    unfold told at HT ⊢
    simp only at HT ⊢
    go_enter Try.func13, Try.ntmps13
    go_wp2_with (go_at_call 31; refine HT.out.mono ?_; rintro e w1 ⟨rfl, f1⟩)
    go_ret3
    exact ⟨rfl, f1⟩
theorem last_any (g : Nat) (v : Value) (c : List (Int × Int)) (first many : Nat) (w : World) (h : SRing w g v c first many) (hl : c.length ≤ 100000) (hf : first ≤ 100000) (hm : many ≤ c.length) :
    Calls Try.prog 14 #[.pointer (some ⟨g, 0, none⟩)] w fun e w' => e = .returned (told (if 0 < many then nth c first (many - 1) else none)) ∧ Fresh w w' := by
  have ht := fun W (f : Fresh w W) => tell_any g v c first many ((many : Int) - 1) W (h.fresh f) hl hf hm
  have e1 : (if (0 : Int) ≤ (many : Int) - 1 ∧ (many : Int) - 1 < many then nth c first ((many : Int) - 1).toNat else none) = (if 0 < many then nth c first (many - 1) else none) := by
    by_cases hp : 0 < many
    · rw [if_pos ⟨by omega, by omega⟩, if_pos hp, show ((many : Int) - 1).toNat = many - 1 by omega]
    · rw [if_neg (by omega), if_neg hp]
  rw [e1] at ht
  obtain ⟨o, ho⟩ : ∃ o, (if 0 < many then nth c first (many - 1) else none) = o := ⟨_, rfl⟩
  rw [ho] at ht ⊢
  have HT := Lib.hid ht
  have hb := h.blk.cell
  clear ht h e1 ho
  rcases o with _ | ⟨a, b⟩
  all_goals
    unfold told at HT ⊢
    simp only at HT ⊢
    go_enter Try.func14, Try.ntmps14
    go_wp2_with (go_at_call 31; refine (HT.out _ (Keep.refl _ _)).mono ?_; rintro e w1 ⟨rfl, f1⟩)
    go_ret3
    exact ⟨rfl, f1⟩
theorem SRing.drewN {w : World} {g : Nat} {v : Value} {c : List (Int × Int)} {first many : Nat} (h : SRing w g v c first many) (n : Nat) : SRing (w.drewN n) g v c first many := ⟨h.blk, h.own⟩
/-- Push ahead of the last thing's time is refused -/
theorem push_time (g : Nat) (v : Value) (c : List (Int × Int)) (first many : Nat) (a b : Int) (s : Int × Int) (w : World) (h : SRing w g v c first many) (hl : c.length ≤ 100000) (hf : first ≤ 100000) (hm : many ≤ c.length) (h0 : 0 < many) (hs : nth c first (many - 1) = some s) (ht : a < s.1) :
    Calls Try.prog 24 #[.pointer (some ⟨g, 0, none⟩), .int .i64 a, .int .i64 b] w fun e w' => e = .returned (.int .i64 18) ∧ Fresh w w' := by
  have hb := h.blk.cell
  obtain ⟨gs, off, cap, rfl, ls, _, lcs, hcs⟩ := h.own.form (by omega)
  have lcs : cap ≤ 9223372036854775807 := by unfold maxLen at lcs; omega
  have hlt : (first + (many - 1)) % c.length < c.length := Nat.mod_lt _ (by omega)
  have em : (many : Int) - 1 = ((many - 1 : Nat) : Int) := by omega
  have hp : ∀ n, Calls Try.prog 34 #[.pointer (some ⟨g, 0, none⟩), .int .i64 ((many : Int) - 1)] (w.drewN n) fun e w' => e = .returned (.int .i64 (((first + (many - 1)) % c.length : Nat) : Int)) ∧ ∃ m, w' = (w.drewN n).drewN m := fun n => by
    rw [em]
    exact place_q g _ c first many (many - 1) _ (h.drewN n) (by omega) hl hf (by omega)
  obtain ⟨q, hq⟩ : ∃ q, (first + (many - 1)) % c.length = q := ⟨_, rfl⟩
  unfold nth at hs
  rw [hq] at hp hlt hs
  have c0 := hcs _ _ (cells_at c q s hs).1
  have HP := Lib.hid hp
  have t1 : decide ((0 : Int) < (many : Int)) = true := by simp; omega
  have t1' : decide (0 < many) = true := by simp; omega
  have t2 : decide (a < s.1) = true := by simpa using ht
  have j0 : (0 : Int) ≤ (q : Int) := by omega
  have j1 : (q : Int) < (c.length : Int) := by omega
  clear h hcs hp em hs hq
  go_enter Try.func24, Try.ntmps24
  go_wp2_with fail
  go_quiet ((go_at_call 34; refine Calls.quiet_of (HP.out _)))
  go_wp2
  go_ret
  exact ⟨rfl, (Keep.refl _ w).drewN _⟩
end Go.Proofs.Ytfckbgifmajbjaa
