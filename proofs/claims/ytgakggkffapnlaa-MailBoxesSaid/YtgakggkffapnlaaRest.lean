/-
  mail.Net[int]: All, Len, Copy.
-/
import Derived.Test.YtgakggkffapnlaaThoseIntall
import Derived.Test.YtgakggkffapnlaaToInt
namespace Go.Proofs.Ytgakggkffapnlaa.R_int
open Go.RowKit Go.Shelf
attribute [local go_sem ↓] Go.wp_at_zero Go.wp_at_succ

theorem all1_is (p : Pk) (w : World) :
    Calls Try.prog 39 #[.agg #[.int .i64 p.no, .int .i64 p.fr, .int .i64 p.to, .int .i64 p.x]] w fun e w' => e = .returned (.bool true) ∧ Fresh w w' := by
  obtain ⟨a, b, c, x⟩ := p
  simp only
  go_enter Try.func39, Try.ntmps39
  go_wp2
  go_ret
  exact ⟨rfl, (Keep.refl _ _).alloc _⟩
theorem all_any (g : Nat) (v : Value) (bx nx : Int) (l : List Pk) (w : World) (h : SNet w g v bx nx l) (hl : l.length ≤ 100000) :
    Calls Try.prog 21 #[.pointer (some ⟨g, 0, none⟩)] w (ToP l w) := by
  have TH := thoseAll_any g v bx nx l (fun _ => true) _ h hl (fun W p f => all1_is p W)
  have HT := Lib.hid TH
  clear TH h
  go_enter Try.func21, Try.ntmps21
  go_wp2_with fail
  refine HT.out.mono ?_
  rintro e w1 ⟨v', rfl, b1, o1, f1, n1⟩
  have el : l.filter (fun _ => true) = l := List.filter_eq_self.2 (fun _ _ => rfl)
  rw [el] at o1
  have U1 := Lib.hid b1
  have U2 := Lib.hid o1
  have U3 := Lib.hid f1
  have U4 := Lib.hid n1
  clear b1 o1 f1 n1 el
  go_wp2_with fail
  go_ret
  exact ⟨_, v', rfl, Nat.le_refl _, U1.out, U2.out, U3.out, U4.out⟩
theorem all_nil (w : World) :
    Calls Try.prog 21 #[.pointer none] w (ToP [] w) := by
  go_enter Try.func21, Try.ntmps21
  go_wp2_with fail
  refine (thoseAll_nil _ _).mono ?_
  rintro e w1 ⟨rfl, rfl⟩
  go_wp2_with fail
  go_ret
  exact ⟨_, _, rfl, Nat.le_refl _, Blk.new _ _ _, OwnS.nil _ _ _, (Keep.refl _ _).alloc _, by simp [Value.ownBlock]⟩
theorem len_any (g : Nat) (v : Value) (bx nx : Int) (l : List Pk) (w : World) (h : SNet w g v bx nx l) : Calls Try.prog 13 #[.pointer (some ⟨g, 0, none⟩)] w fun e w' => e = .returned (.int .i64 l.length) ∧ w = w' := by
  have hb := h.blk.cell
  obtain ⟨A, cap, rfl, _, _⟩ := h.own.shape
  clear h
  go_enter Try.func13, Try.ntmps13
  go_wp2
  go_ret
  exact ⟨rfl, rfl⟩
theorem len_nil (w : World) : Calls Try.prog 13 #[.pointer none] w fun e w' => e = .returned (.int .i64 0) ∧ w = w' := by
  go_enter Try.func13, Try.ntmps13
  go_wp2
  go_ret
  exact ⟨rfl, rfl⟩
theorem copy_nil (w : World) : Calls Try.prog 15 #[.pointer none] w fun e w' => e = .returned (.pointer none) ∧ w = w' := by
  go_enter Try.func15, Try.ntmps15
  go_wp2
  go_ret
  exact ⟨rfl, rfl⟩
theorem isNil (w : World) (a : Option Addr) (n c : Nat) : (binOp .eql 58 (.slice a n c) (.slice none 0 0)).run Try.prog w = .ok (.bool a.isNone) w := Lib.run_eql_slice_nil w _ _ a n c 0 0 Try.underlying58
attribute [local go_sem] isNil
theorem clone_any (v : Value) (n : Nat) (xs : List Value) (w : World) (h : OwnS w 41 4 v n xs) (h1 : ∀ u ∈ xs, u.oneCell' = true) (hn : n ≤ 1000000) :
    Calls Try.prog 34 #[v] w fun e w' => ∃ v', e = .returned v' ∧ OwnS w' 41 4 v' n xs ∧ Fresh w w' ∧ ∀ k, v'.ownBlock = some k → w.heap.size ≤ k := by
  rcases h.2 with ⟨rfl, rfl⟩ | ⟨g', off, cap, cur, rfl, _⟩
  · have hx : xs = [] := List.eq_nil_of_length_eq_zero (by simpa using h.1)
    subst hx
    clear h h1
    go_enter Try.func34, Try.ntmps34
    go_wp2_with fail
    go_ret
    exact ⟨_, rfl, OwnS.nil _ _ _, Keep.refl _ _, by simp [Value.ownBlock]⟩
  have HO := Lib.hid h
  have H1 := Lib.hid h1
  clear h h1
  obtain ⟨i0, hi, hz0, hz1, hz2⟩ := info_parts info_pk
  have h04 : 0 < 4 := by omega
  have hL1 : 0 + n ≤ maxLen := one_le_maxLen (by omega)
  have hL2 : (0 + n) * 32 ≤ 140737488355328 := by omega
  have HN : Hid (OwnS (w.alloc (.cells #[] 41)) 41 4 (.slice (some ⟨w.heap.size, 0, none⟩) 0 0) 0 []) := OwnS.new_ (Blk.at_new rfl _ #[]) rfl (Nat.zero_le _)
  go_enter Try.func34, Try.ntmps34
  go_wp2_with (at_builtin; refine wpList_append_OwnS _ rfl _ _ 58 rfl 41 i0 (.agg #[.int .i64 0, .int .i64 0, .int .i64 0, .int .i64 0]) 4 32 Try.underlying58 hi hz0 hz1 hz2 rfl h04 (.slice (some ⟨w.heap.size, 0, none⟩) 0 0) 0 [] rfl HN.out (.slice (some ⟨g', off, none⟩) n cap) n xs rfl (HO.out.alloc _).src H1.out hL1 hL2 ?_; intro v' w1 ho1 hk1 hat1)
  go_ret
  refine ⟨v', rfl, by simpa using ho1, Keep.step ((Keep.refl _ w).alloc _) hk1 (fun k hk hk' => by simp [Value.ownBlock] at hk'; omega), fun k hk => ?_⟩
  have := hat1 k hk
  simp [Value.ownBlock] at this
  omega
theorem copy_any (g : Nat) (v : Value) (bx nx : Int) (l : List Pk) (w : World) (h : SNet w g v bx nx l) (hl : l.length ≤ 100000) :
    Calls Try.prog 15 #[.pointer (some ⟨g, 0, none⟩)] w fun e w' => ∃ g' v', e = .returned (.pointer (some ⟨g', 0, none⟩)) ∧ SNet w' g' v' bx nx l ∧ Fresh w w' ∧ ∀ k, foot g' v' k → w.heap.size ≤ k := by
  have hb := h.blk.cell
  have hg := h.blk.lt
  have HO := Lib.hid h.own
  obtain ⟨A, cap, rfl, _, _⟩ := h.own.shape
  clear h
  go_enter Try.func15, Try.ntmps15
  go_wp2_with fail
  refine (clone_any (.slice A l.length cap) l.length (cells l) _ (HO.out.alloc _) (cells_one l) (by omega)).mono ?_
  rintro e w1 ⟨v1, rfl, ho1, hk1, hn1⟩
  obtain ⟨A', cap', rfl, _, _⟩ := ho1.shape
  have B1 := hk1.blk_ (Blk.new w 60 #[.int .i64 bx, .int .i64 nx, .slice A l.length cap])
  have cb := B1.cell
  have fb := B1.frozen
  have lb := B1.lt
  have P0 := Lib.hid B1
  have P1 := Lib.hid ho1
  have P2 := Lib.hid hk1
  have P3 := Lib.hid hn1
  have P4 := Lib.hid (ho1.ne_blk B1 (by decide))
  clear ho1 hk1 hn1 B1 hb
  go_wp2
  go_ret
  refine ⟨w.heap.size, .slice A' l.length cap', rfl, ⟨P0.out.set_ 2 _, P1.out.far (p := ⟨w.heap.size, 2, none⟩) P4.out _⟩, ?_, ?_⟩
  · exact Keep.setCell (((Keep.refl _ w).alloc _).step P2.out (fun _ _ h => h)) (p := ⟨w.heap.size, 2, none⟩) (fun h => by simp at h) _
  · rintro k (rfl | hk)
    · exact Nat.le_refl _
    · have := P3.out k hk
      simp at this
      omega
end Go.Proofs.Ytgakggkffapnlaa.R_int
