/-
  The document's slab: Free.
-/
import Derived.Test.YtdobhicjhgdhnaaRef
namespace Go.Proofs.Ytdobhicjhgdhnaa
open Go.RowKit
attribute [local go_sem ↓] Go.wp_at_zero Go.wp_at_succ

theorem RSlab.ne {w : World} {g gs off cap n : Nat} {vf : Value} {l : List Sl} {fr : List Int} {res : Int} (h : RSlab w g (.slice (some ⟨gs, off, none⟩) n cap) vf l fr res) : gs ≠ g ∧ vf.ownBlock ≠ some gs := by
  refine ⟨?_, fun e => h.ol.ne_own h.of (by decide) gs rfl e⟩
  have := h.ol.ne_blk h.blk (by decide)
  simpa [Value.ownBlock] using this
theorem RSlab.setv {w : World} {g gs off cap n : Nat} {vf : Value} {l : List Sl} {fr : List Int} {res : Int} {i : Nat} {x : Sl} (h : RSlab w g (.slice (some ⟨gs, off, none⟩) n cap) vf l fr res) (hn : n = l.length) (hx : l[i]? = some x) (v : Int) :
    RSlab (w.setCell ⟨gs, off + i * 3 + 2, none⟩ (.int .i64 v)) g (.slice (some ⟨gs, off, none⟩) n cap) vf (l.set i { x with v := v }) fr res := by
  subst hn
  obtain ⟨hng, hnf⟩ := h.ne
  have hi := (List.getElem?_eq_some_iff.1 hx).1
  refine ⟨h.blk.far (fun e => hng e.symm) _, ?_, h.of.far hnf _⟩
  have h1 := h.ol.set_ (i * 3 + 2) (.int .i64 v) (by rw [slots_length]; omega)
  rw [← slots_set_v _ _ _ _ hx] at h1
  simp only [List.length_set]
  rw [show off + i * 3 + 2 = off + (i * 3 + 2) by omega]
  exact h1
theorem RSlab.setc {w : World} {g gs off cap n : Nat} {vf : Value} {l : List Sl} {fr : List Int} {res : Int} {i : Nat} {x : Sl} (h : RSlab w g (.slice (some ⟨gs, off, none⟩) n cap) vf l fr res) (hn : n = l.length) (hx : l[i]? = some x) (c : Int) :
    RSlab (w.setCell ⟨gs, off + i * 3, none⟩ (.int .i64 c)) g (.slice (some ⟨gs, off, none⟩) n cap) vf (l.set i { x with c := c }) fr res := by
  subst hn
  obtain ⟨hng, hnf⟩ := h.ne
  have hi := (List.getElem?_eq_some_iff.1 hx).1
  refine ⟨h.blk.far (fun e => hng e.symm) _, ?_, h.of.far hnf _⟩
  have h1 := h.ol.set_ (i * 3) (.int .i64 c) (by rw [slots_length]; omega)
  rw [← slots_set_c _ _ _ _ hx] at h1
  simp only [List.length_set]
  exact h1

theorem rfree_any (g : Nat) (vl vf : Value) (l : List Sl) (fr : List Int) (res : Int) (i : Nat) (x : Sl) (w : World) (hs : RSlab w g vl vf l fr res) (hx : l[i]? = some x) (hn : l.length ≤ 100000) (hf : fr.length ≤ 100000) :
    Calls Try.prog 30 #[.pointer (some ⟨g, 0, none⟩), .int .i64 i] w fun e w' =>
      e = .returned (.tuple #[]) ∧ ∃ vf', RSlab w' g vl vf' (l.set i ⟨0, x.t, 0⟩) (fr ++ [(i : Int)]) res ∧ Keep (fun k => k = g ∨ vl.ownBlock = some k) w w' ∧ ∀ k, vf'.ownBlock = some k → w.heap.size ≤ k := by
  have hil := (List.getElem?_eq_some_iff.1 hx).1
  obtain ⟨gs, off, cap, rfl, lg, hcl, hcm, hc⟩ := hs.ol.form (by omega)
  have hcm : cap ≤ 9223372036854775807 := by unfold maxLen at hcm; omega
  obtain ⟨A2, cap2, rfl, hc2, hcm2⟩ := hs.of.shape
  have hcm2 : cap2 ≤ 9223372036854775807 := by unfold maxLen at hcm2; omega
  obtain ⟨i0, hi, hz0, hz1, hz2⟩ := info_parts info_int
  have h01 : 0 < 1 := by omega
  have hL1 : 0 + fr.length ≤ maxLen := one_le_maxLen (by omega)
  have hL2 : (0 + fr.length) * 8 ≤ 140737488355328 := by omega
  have hL3 : fr.length + 1 ≤ maxLen := one_le_maxLen (by omega)
  have hL4 : (fr.length + 1) * 8 ≤ 140737488355328 := by omega
  obtain ⟨lg2, fz, _, _, _⟩ := hs.ol.at_
  have c0 := hc _ _ (slots_at _ _ _ hx).1
  have c2 := hc _ _ (slots_at _ _ _ hx).2.2
  rw [← Nat.add_assoc] at c2
  have cg := hs.blk.cell
  have fg := hs.blk.frozen
  have lb := hs.blk.lt
  obtain ⟨hne, hne2⟩ := hs.ne
  have hs2 := hs.setc rfl hx 0
  have hs3 := hs2.setv (x := { x with c := 0 }) (i := i) (by simp) (by rw [List.getElem?_set_self hil]) 0
  have H3 := Lib.hid hs3
  have HX := Lib.hid hx
  have hi0 : (0 : Int) ≤ (i : Int) := by omega
  have hi1 : (i : Int) < (l.length : Int) := by omega
  have KX : Hid (Keep (fun k => k = g ∨ (Value.slice (some ⟨gs, off, none⟩) l.length cap).ownBlock = some k) w ((w.setCell ⟨gs, off + i * 3, none⟩ (.int .i64 0)).setCell ⟨gs, off + i * 3 + 2, none⟩ (.int .i64 0))) :=
    Keep.setCell (Keep.setCell (Keep.refl _ _) (p := ⟨gs, off + i * 3, none⟩) (fun _ => .inr rfl) _) (p := ⟨gs, off + i * 3 + 2, none⟩) (fun _ => .inr rfl) _
  obtain ⟨X, hX⟩ : ∃ X, (w.setCell ⟨gs, off + i * 3, none⟩ (.int .i64 0)).setCell ⟨gs, off + i * 3 + 2, none⟩ (.int .i64 0) = X := ⟨_, rfl⟩
  rw [hX] at H3 KX
  have HXX := Lib.hid hX
  have cX := H3.out.blk.cell
  have HSR := Lib.hid H3.out.of.src
  have hsz := KX.out.size
  have FIN : Hid (∀ A4 c4 w4, OwnS w4 3 1 (.slice A4 fr.length c4) fr.length (ints fr) → Keep (fun k => (Value.slice none 0 0).ownBlock = some k) X w4 → (∀ k, (Value.slice A4 fr.length c4).ownBlock = some k → X.heap.size ≤ k) →
      ∀ v5 w5, OwnS w5 3 1 v5 (fr.length + 1) (ints fr ++ ints [(i : Int)]) → Keep (fun k => (Value.slice A4 fr.length c4).ownBlock = some k) (w4.alloc (.cells #[.int .i64 (i : Nat)] 3)) w5 → (∀ k, v5.ownBlock = some k → (Value.slice A4 fr.length c4).ownBlock = some k ∨ (w4.alloc (.cells #[.int .i64 (i : Nat)] 3)).heap.size ≤ k) →
      Blk w5 g 63 #[.slice (some ⟨gs, off, none⟩) l.length cap, .slice A2 fr.length cap2, .int .i64 res] ∧
      ∃ vf', RSlab (w5.setCell ⟨g, 1, none⟩ v5) g (.slice (some ⟨gs, off, none⟩) l.length cap) vf' (l.set i ⟨0, x.t, 0⟩) (fr ++ [(i : Int)]) res ∧ Keep (fun k => k = g ∨ (Value.slice (some ⟨gs, off, none⟩) l.length cap).ownBlock = some k) w (w5.setCell ⟨g, 1, none⟩ v5) ∧ ∀ k, vf'.ownBlock = some k → w.heap.size ≤ k) := fun A4 c4 w4 o4 k4 n4 v5 w5 o5 k5 n5 => by
    have h4 := H3.out.kept k4 (by simp [Value.ownBlock])
    have hs4 := k4.size
    have hgX := H3.out.blk.lt
    have hgsX := H3.out.ol.lt (k := gs) rfl
    have b5 := (h4.blk.alloc (.cells #[.int .i64 (i : Nat)] 3)).keep k5 (fun h => by have := n4 _ h; omega)
    have ol5 := (h4.ol.alloc (.cells #[.int .i64 (i : Nat)] 3)).kept k5 (fun k hk h => by
      simp [Value.ownBlock] at hk
      have := n4 _ h
      omega)
    refine ⟨b5, v5, ⟨?_, ?_, ?_⟩, ?_, fun k hk => ?_⟩
    · have := b5.set_ 1 v5
      simpa using this
    · have := ol5.far (p := ⟨g, 1, none⟩) (ol5.ne_blk b5 (by decide)) v5
      simp only [List.set_set] at this
      simpa using this
    · have := o5.far (p := ⟨g, 1, none⟩) (o5.ne_blk b5 (by decide)) v5
      simpa [ints] using this
    · exact Keep.setCell (((KX.out.step k4 (fun _ _ h => by simp [Value.ownBlock] at h)).alloc _).step k5 (fun k hk h => by have := n4 _ h; omega)) (p := ⟨g, 1, none⟩) (fun _ => .inl rfl) _
    · rcases n5 k hk with h | h
      · have := n4 _ h; omega
      · simp at h; omega
  clear hs hs2 hs3 hx hc hc2
  go_enter Try.func30, Try.ntmps30
  go_wp2_with (at_builtin; first
    | (refine wpList_append_OwnS _ rfl _ _ 29 rfl 3 i0 (.int .i64 0) 1 8 Try.underlying29 hi hz0 hz1 hz2 rfl h01 (.slice none 0 0) 0 [] rfl (OwnS.nil _ _ _) (.slice A2 fr.length cap2) fr.length (ints fr) rfl HSR.out (ints_one _) hL1 hL2 ?_; intro v4 w4 o4 k4 n4; rw [Nat.zero_add, List.nil_append] at o4; obtain ⟨A4, c4, rfl, _, _⟩ := o4.shape; have O4 := Lib.hid o4; have K4 := Lib.hid k4; have N4 := Lib.hid (fun k hk => (n4 k hk).resolve_left (by simp [Value.ownBlock])); have b4 := H3.out.blk.keep k4 (by simp [Value.ownBlock]); have cb4 := b4.cell; clear o4 k4 n4 b4)
    | (refine wpList_append_OwnS _ rfl _ _ 29 rfl 3 i0 (.int .i64 0) 1 8 Try.underlying29 hi hz0 hz1 hz2 rfl h01 (.slice A4 fr.length c4) fr.length (ints fr) rfl (O4.out.alloc _) (.slice (some ⟨w4.heap.size, 0, none⟩) 1 1) 1 (ints [(i : Int)]) rfl (Src.one_new w4 3 1 #[.int .i64 (i : Nat)] rfl) (ints_one _) hL3 hL4 ?_; intro v5 w5 o5 k5 n5; have FF := FIN.out _ _ _ O4.out K4.out N4.out _ _ o5 k5 n5; obtain ⟨A5, c5, rfl, _, _⟩ := o5.shape; have b5 := FF.1; have cb5 := b5.cell; have fb5 := b5.frozen; have lb5 := b5.lt; have HR := Lib.hid FF.2; clear o5 k5 n5 b5 FF))
  go_returns
  exact ⟨rfl, HR.out⟩
end Go.Proofs.Ytdobhicjhgdhnaa
