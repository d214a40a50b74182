/-
  slab.Slab[int]: Set, Free.
-/
import Derived.Test.YtdobhicjhgdhnaaFind
import Derived.Deep.RegionLaw
import Derived.Deep.DrawnRows
namespace Go.Proofs.Ytdobhicjhgdhnaa
open Go.RowKit
attribute [local go_sem ↓] Go.wp_at_zero Go.wp_at_succ

theorem slots_set_v : ∀ (l : List Sl) (k : Nat) (x : Sl) (v : Int), l[k]? = some x → slots (l.set k { x with v := v }) = (slots l).set (k * 3 + 2) (.int .i64 v)
  | [], _, _, _, h => by simp at h
  | a :: l, 0, x, v, h => by
    simp at h
    subst h
    rfl
  | a :: l, k + 1, x, v, h => by
    have ih := slots_set_v l k x v (by simpa using h)
    have e : ∀ a l, slots (a :: l) = .int .i64 a.c :: .int .i64 a.t :: .int .i64 a.v :: slots l := fun _ _ => rfl
    rw [List.set_cons_succ, e, e, ih, show (k + 1) * 3 + 2 = (k * 3 + 2) + 3 by omega]
    rfl
theorem slots_set_c : ∀ (l : List Sl) (k : Nat) (x : Sl) (c : Int), l[k]? = some x → slots (l.set k { x with c := c }) = (slots l).set (k * 3) (.int .i64 c)
  | [], _, _, _, h => by simp at h
  | a :: l, 0, x, c, h => by
    simp at h
    subst h
    rfl
  | a :: l, k + 1, x, c, h => by
    have ih := slots_set_c l k x c (by simpa using h)
    have e : ∀ a l, slots (a :: l) = .int .i64 a.c :: .int .i64 a.t :: .int .i64 a.v :: slots l := fun _ _ => rfl
    rw [List.set_cons_succ, e, e, ih, show (k + 1) * 3 = k * 3 + 3 by omega]
    rfl
theorem SSlab.ne {w : World} {g gs off cap : Nat} {vf : Value} {s : St} {n : Nat} (h : SSlab w g (.slice (some ⟨gs, off, none⟩) n cap) vf s) : gs ≠ g ∧ vf.ownBlock ≠ some gs := by
  refine ⟨?_, fun e => h.os.ne_own h.of (by decide) gs rfl e⟩
  have := h.os.ne_blk h.blk (by decide)
  simpa [Value.ownBlock] using this
theorem SSlab.setv {w : World} {g gs off cap n : Nat} {vf : Value} {s : St} {i : Nat} {x : Sl} (h : SSlab w g (.slice (some ⟨gs, off, none⟩) n cap) vf s) (hn : n = s.l.length) (hx : s.l[i]? = some x) (v : Int) :
    SSlab (w.setCell ⟨gs, off + i * 3 + 2, none⟩ (.int .i64 v)) g (.slice (some ⟨gs, off, none⟩) n cap) vf { s with l := s.l.set i { x with v := v } } := by
  subst hn
  obtain ⟨hng, hnf⟩ := h.ne
  have hi := (List.getElem?_eq_some_iff.1 hx).1
  refine ⟨h.blk.far (fun e => hng e.symm) _, ?_, h.of.far hnf _⟩
  have h1 := h.os.set_ (i * 3 + 2) (.int .i64 v) (by rw [slots_length]; omega)
  rw [← slots_set_v _ _ _ _ hx] at h1
  simp only [List.length_set]
  rw [show off + i * 3 + 2 = off + (i * 3 + 2) by omega]
  exact h1
theorem SSlab.setc {w : World} {g gs off cap n : Nat} {vf : Value} {s : St} {i : Nat} {x : Sl} (h : SSlab w g (.slice (some ⟨gs, off, none⟩) n cap) vf s) (hn : n = s.l.length) (hx : s.l[i]? = some x) (c : Int) :
    SSlab (w.setCell ⟨gs, off + i * 3, none⟩ (.int .i64 c)) g (.slice (some ⟨gs, off, none⟩) n cap) vf { s with l := s.l.set i { x with c := c } } := by
  subst hn
  obtain ⟨hng, hnf⟩ := h.ne
  have hi := (List.getElem?_eq_some_iff.1 hx).1
  refine ⟨h.blk.far (fun e => hng e.symm) _, ?_, h.of.far hnf _⟩
  have h1 := h.os.set_ (i * 3) (.int .i64 c) (by rw [slots_length]; omega)
  rw [← slots_set_c _ _ _ _ hx] at h1
  simp only [List.length_set]
  exact h1

theorem set_nil (h t v : Int) (w : World) : Calls Try.prog 17 #[.pointer none, .agg #[.int .i64 h, .int .i64 t], .int .i64 v] w fun e w' => e = .returned (.int .i64 2) ∧ Fresh w w' := by
  go_enter Try.func17, Try.ntmps17
  go_wp2_with (go_at_call 27; refine (find_nil h t _).mono ?_; rintro e w1 ⟨rfl, f1⟩)
  go_ret
  exact ⟨rfl, ((Keep.refl _ w).alloc _).step f1 (fun _ _ h => h)⟩
theorem set_any (g : Nat) (vs vf : Value) (s : St) (h t v : Int) (w : World) (hs : SSlab w g vs vf s) (hn : s.l.length ≤ 100000) :
    Calls Try.prog 17 #[.pointer (some ⟨g, 0, none⟩), .agg #[.int .i64 h, .int .i64 t], .int .i64 v] w fun e w' =>
      (∃ i x, s.tells h t i x ∧ e = .returned (.int .i64 0) ∧ SSlab w' g vs vf { s with l := s.l.set i { x with v := v } } ∧ Keep (foot g vs vf) w w') ∨ ((∀ i x, ¬ s.tells h t i x) ∧ e = .returned (.int .i64 12) ∧ Fresh w w') := by
  have HS := Lib.hid hs
  clear hs
  go_enter Try.func17, Try.ntmps17
  go_wp2_with fail
  refine (find_any g vs vf s h t _ (HS.out.fresh ((Keep.refl _ _).alloc _)) hn).mono ?_
  have F0 : Fresh w (w.alloc (.cells #[.int .i64 h, .int .i64 t] 32)) := (Keep.refl _ _).alloc _
  rintro e w1 ⟨f1, ⟨i, x, gs, off, cap, ht, rfl, rfl⟩ | ⟨ht, rfl⟩⟩
  · have hs1 := (HS.out.fresh F0).fresh f1
    obtain ⟨lg, fz, _, _, hc⟩ := hs1.os.at_
    have c2 := hc _ _ (slots_at _ _ _ ht.2.1).2.2
    rw [← Nat.add_assoc] at c2
    have HT := Lib.hid ht
    have HF := Lib.hid (F0.step f1 (fun _ _ h => h))
    have H1 := Lib.hid hs1
    clear ht f1 F0 hc HS hs1
    go_wp2
    go_ret
    exact .inl ⟨i, x, HT.out, rfl, H1.out.setv rfl HT.out.2.1 v, Keep.setCell (HF.out.more (fun _ _ h => h.elim)) (fun _ => .inr (.inl rfl)) _⟩
  · have HT := Lib.hid ht
    have HF := Lib.hid (F0.step f1 (fun _ _ h => h))
    clear ht f1 F0
    go_wp2
    go_ret
    exact .inr ⟨HT.out, rfl, HF.out⟩

theorem free_nil (h t : Int) (w : World) : Calls Try.prog 13 #[.pointer none, .agg #[.int .i64 h, .int .i64 t]] w fun e w' => e = .returned (.tuple #[.int .i64 0, .int .i64 2]) ∧ Fresh w w' := by
  go_enter Try.func13, Try.ntmps13
  go_wp2_with (go_at_call 27; refine (find_nil h t _).mono ?_; rintro e w1 ⟨rfl, f1⟩)
  go_ret2
  exact ⟨rfl, ((Keep.refl _ w).alloc _).step f1 (fun _ _ h => h)⟩

def St.free (s : St) (i : Nat) (x : Sl) : St := { s with l := s.l.set i ⟨0, x.t, 0⟩, fr := s.fr ++ [(i : Int)] }
theorem free_any (g : Nat) (vs vf : Value) (s : St) (h t : Int) (w : World) (hs : SSlab w g vs vf s) (hn : s.l.length ≤ 100000) (hf : s.fr.length ≤ 100000) :
    Calls Try.prog 13 #[.pointer (some ⟨g, 0, none⟩), .agg #[.int .i64 h, .int .i64 t]] w fun e w' =>
      (∃ i x vf', s.tells h t i x ∧ e = .returned (.tuple #[.int .i64 x.v, .int .i64 0]) ∧ SSlab w' g vs vf' (s.free i x) ∧ Keep (foot g vs vf) w w' ∧ Later w g vs vf vs vf') ∨
      ((∀ i x, ¬ s.tells h t i x) ∧ e = .returned (.tuple #[.int .i64 0, .int .i64 12]) ∧ Fresh w w') := by
  have HS := Lib.hid hs
  clear hs
  obtain ⟨i0, hi, hz0, hz1, hz2⟩ := info_parts info_int
  have h01 : 0 < 1 := by omega
  have hL1 : s.fr.length + 1 ≤ maxLen := one_le_maxLen (by omega)
  have hL2 : (s.fr.length + 1) * 8 ≤ 140737488355328 := by omega
  go_enter Try.func13, Try.ntmps13
  go_wp2_with fail
  refine (find_any g vs vf s h t _ (HS.out.fresh ((Keep.refl _ _).alloc _)) hn).mono ?_
  have F0 : Fresh w (w.alloc (.cells #[.int .i64 h, .int .i64 t] 32)) := (Keep.refl _ _).alloc _
  rintro e w1 ⟨f1, ⟨i, x, gs, off, cap, ht, rfl, rfl⟩ | ⟨ht, rfl⟩⟩
  · have hs1 := (HS.out.fresh F0).fresh f1
    obtain ⟨A2, cap2, rfl, _, _⟩ := hs1.of.shape
    obtain ⟨lg, fz, _, _, hc⟩ := hs1.os.at_
    have c0 := hc _ _ (slots_at _ _ _ ht.2.1).1
    have c2 := hc _ _ (slots_at _ _ _ ht.2.1).2.2
    rw [← Nat.add_assoc] at c2
    have cg := hs1.blk.cell
    have fg := hs1.blk.frozen
    have lb := hs1.blk.lt
    have hne := hs1.ne.1
    obtain rfl := ht.1
    have bh := f1.blk_ (Blk.new w 32 #[.int .i64 (i : Nat), .int .i64 t])
    have ch := bh.cell
    have lh := bh.lt
    have nh : gs ≠ w.heap.size := by
      have := hs1.os.ne_blk bh (by decide)
      simpa [Value.ownBlock] using this
    have hs2 := hs1.setc rfl ht.2.1 0
    have hs3 := hs2.setv (x := { x with c := 0 }) (i := i) (by simp) (by rw [List.getElem?_set_self (List.getElem?_eq_some_iff.1 ht.2.1).1]) 0
    have HT := Lib.hid ht
    have HF := Lib.hid (F0.step f1 (fun _ _ h => h))
    have H3 := Lib.hid hs3
    clear ht f1 F0 hc HS hs1 hs2 hs3 bh
    obtain ⟨X, hX⟩ : ∃ X, (w1.setCell ⟨gs, off + i * 3, none⟩ (.int .i64 0)).setCell ⟨gs, off + i * 3 + 2, none⟩ (.int .i64 0) = X := ⟨_, rfl⟩
    have HX := Lib.hid hX
    have K1 : Keep (fun k => k = gs) w1 X := by subst hX; exact Keep.setCell (Keep.setCell (S := fun k => k = gs) (Keep.refl _ _) (fun _ => rfl) _) (fun _ => rfl) _
    have H4 : Hid (SSlab X.drew g (.slice (some ⟨gs, off, none⟩) s.l.length cap) (.slice A2 s.fr.length cap2) (St.mk ((s.l.set i { x with c := 0 }).set i { x with c := 0, v := 0 }) s.fr s.fresh s.res)) := by rw [← hX]; exact H3.out.fresh (Keep.refl _ _).drew
    have cX : ∀ j, X.cell? ⟨g, j, none⟩ = #[.slice (some ⟨gs, off, none⟩) s.l.length cap, .slice A2 s.fr.length cap2, .int .i64 s.fresh, .int .i64 s.res][j]? := H4.out.blk.cell
    have fX : ∀ j, X.frozen? ⟨g, j, none⟩ = false := H4.out.blk.frozen
    have hk : g < w1.heap.size := lb
    have cH := fun j => (Keep.cell K1 (p := ⟨w.heap.size, j, none⟩) lh (fun h => nh h.symm)).trans (ch j)
    have HC : Hid (Src (X.drew.alloc (.cells #[.int .i64 (i : Nat)] 3)) 1 (.slice (some ⟨X.heap.size, 0, none⟩) 1 1) 1 (ints [(i : Int)])) := Src.one_new X.drew 3 1 #[.int .i64 (i : Nat)] rfl
    have H4o : Hid (OwnS (X.drew.alloc (.cells #[.int .i64 (i : Nat)] 3)) 3 1 (.slice A2 s.fr.length cap2) s.fr.length (ints s.fr)) := H4.out.of.alloc _
    have H4b := Lib.hid (H4.out.blk.alloc (.cells #[.int .i64 (i : Nat)] 3))
    have lX : g < X.heap.size := H4.out.blk.lt
    have lX2 : w.heap.size < X.heap.size := Nat.lt_of_lt_of_le lh K1.size
    have N4 := Lib.hid (H4.out.of.ne_blk H4.out.blk (by decide))
    have NO := Lib.hid (H4.out.ne.2)
    have fin : ∀ (A3 : Option Addr) (cap3 : Nat) (w3 : World), OwnS w3 3 1 (.slice A3 (s.fr.length + 1) cap3) (s.fr.length + 1) (ints s.fr ++ ints [(i : Int)]) → Keep (fun k => (Value.slice A2 s.fr.length cap2).ownBlock = some k) (X.drew.alloc (.cells #[.int .i64 (i : Nat)] 3)) w3 →
        (∀ k, (Value.slice A3 (s.fr.length + 1) cap3).ownBlock = some k → (Value.slice A2 s.fr.length cap2).ownBlock = some k ∨ (X.drew.alloc (.cells #[.int .i64 (i : Nat)] 3)).heap.size ≤ k) →
        Blk w3 g 68 #[.slice (some ⟨gs, off, none⟩) s.l.length cap, .slice A2 s.fr.length cap2, .int .i64 s.fresh, .int .i64 s.res] →
        (∃ i_1 x_1 vf', s.tells (i : Int) t i_1 x_1 ∧ Ending.returned (.tuple #[.int .i64 x.v, .int .i64 0]) = .returned (.tuple #[.int .i64 x_1.v, .int .i64 0]) ∧ SSlab (w3.setCell ⟨g, 1, none⟩ (.slice A3 (s.fr.length + 1) cap3)) g (.slice (some ⟨gs, off, none⟩) s.l.length cap) vf' (s.free i_1 x_1) ∧
          Keep (foot g (.slice (some ⟨gs, off, none⟩) s.l.length cap) (.slice A2 s.fr.length cap2)) w (w3.setCell ⟨g, 1, none⟩ (.slice A3 (s.fr.length + 1) cap3)) ∧ Later w g (.slice (some ⟨gs, off, none⟩) s.l.length cap) (.slice A2 s.fr.length cap2) (.slice (some ⟨gs, off, none⟩) s.l.length cap) vf') ∨
        ((∀ i_1 x_1, ¬ s.tells (i : Int) t i_1 x_1) ∧ Ending.returned (.tuple #[.int .i64 x.v, .int .i64 0]) = .returned (.tuple #[.int .i64 0, .int .i64 12]) ∧ Fresh w (w3.setCell ⟨g, 1, none⟩ (.slice A3 (s.fr.length + 1) cap3))) := by
      intro A3 cap3 w3 o3 k3 n3 b3
      refine .inl ⟨i, x, .slice A3 (s.fr.length + 1) cap3, HT.out, rfl, ⟨?_, ?_, ?_⟩, ?_, ?_⟩
      · exact b3.set_ 1 _
      · have h1 := (H4.out.os.alloc (.cells #[.int .i64 (i : Nat)] 3)).kept k3 (fun k hk hh => by
          simp [Value.ownBlock] at hk
          subst hk
          exact NO.out hh)
        have h2 := h1.far (p := ⟨g, 1, none⟩) (by simp [Value.ownBlock]; exact hne) (.slice A3 (s.fr.length + 1) cap3)
        simp only [List.set_set] at h2
        simp only [St.free]
        simpa using h2
      · have h1 := o3.far (p := ⟨g, 1, none⟩) (o3.ne_blk b3 (by decide)) (.slice A3 (s.fr.length + 1) cap3)
        simpa [St.free, ints] using h1
      · have h1 : Keep (foot g (.slice (some ⟨gs, off, none⟩) s.l.length cap) (.slice A2 s.fr.length cap2)) w X := (HF.out.more (fun _ _ h => h.elim)).step K1 (by rintro k _ rfl; exact .inr (.inl rfl))
        exact ((h1.drew.alloc _).step k3 (fun k _ hk => .inr (.inr hk))).setCell (fun _ => .inl rfl) _
      · rintro k (rfl | hk | hk)
        · exact .inl (.inl rfl)
        · exact .inl (.inr (.inl hk))
        · rcases n3 k hk with h | h
          · exact .inl (.inr (.inr h))
          · right
            have : X.heap.size + 1 ≤ k := by simpa using h
            omega
    have FIN := Lib.hid fin
    clear fin
    go_wp2_with fail
    go_region_law ((refine step_append_OwnS _ (by rfl) _ _ 29 (by rfl) 3 i0 (.int .i64 0) 1 8 Try.underlying29 hi hz0 hz1 hz2 (by rfl) h01 (.slice A2 s.fr.length cap2) s.fr.length (ints s.fr) (by rfl) H4o.out (.slice (some ⟨X.heap.size, 0, none⟩) 1 1) 1 (ints [(i : Int)]) (by rfl) HC.out (ints_one _) hL1 hL2 ?_; intro v3 w3 o3 k3 n3; obtain ⟨A3, cap3, rfl, _, _⟩ := o3.shape; have b3 := H4b.out.keep k3 N4.out; have c3 := b3.cell; have f3 := b3.frozen; have l3 := b3.lt; have U1 := Lib.hid o3; have U2 := Lib.hid k3; have U3 := Lib.hid n3; have U4 := Lib.hid b3; clear o3 k3 n3 b3))
    all_goals go_wp2_with fail
    all_goals go_ret2
    all_goals exact FIN.out A3 cap3 w3 U1.out U2.out U3.out U4.out
  · have HT := Lib.hid ht
    have HF := Lib.hid (F0.step f1 (fun _ _ h => h))
    clear ht f1 F0
    go_wp2
    go_ret2
    exact .inr ⟨HT.out, rfl, HF.out⟩
end Go.Proofs.Ytdobhicjhgdhnaa
