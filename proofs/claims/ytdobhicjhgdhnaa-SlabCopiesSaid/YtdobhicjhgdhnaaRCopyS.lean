/-
  The document's Copy.
-/
import Derived.Test.YtdobhicjhgdhnaaRFree
import Derived.Deep.DeepCutAuto
namespace Go.Proofs.Ytdobhicjhgdhnaa
open Go.RowKit
attribute [local go_sem ↓] Go.wp_at_zero Go.wp_at_succ

structure CopI (w : World) (l : List Sl) (res : Int) (v1 v2 : Value) (fr : List Int) (W : World) : Prop where
  f : Fresh w W
  b : Blk W w.heap.size 63 #[v1, v2, .int .i64 res]
  o1 : OwnS W 60 3 v1 l.length (slots l)
  o2 : OwnS W 3 1 v2 fr.length (ints fr)
  n1 : ∀ k, v1.ownBlock = some k → w.heap.size < k
  n2 : ∀ k, v2.ownBlock = some k → w.heap.size < k
section
variable {w W Wd w3 : World} {l : List Sl} {fr : List Int} {res : Int} {v1 v2 v' : Value}
theorem CopI.fresh (h : CopI w l res v1 v2 fr W) (f : Fresh W Wd) : CopI w l res v1 v2 fr Wd := ⟨h.f.step f (fun _ _ h => h), f.blk_ h.b, h.o1.fresh f, h.o2.fresh f, h.n1, h.n2⟩
theorem CopI.app1 (h : CopI w [] res (.slice none 0 0) v2 fr W) (o : OwnS w3 60 3 v' (0 + l.length) ([] ++ slots l)) (k : Keep (fun k => (Value.slice none 0 0).ownBlock = some k) W w3) (n : ∀ i, v'.ownBlock = some i → (Value.slice none 0 0).ownBlock = some i ∨ W.heap.size ≤ i) : CopI w l res v' v2 fr (w3.setCell ⟨w.heap.size, 0, none⟩ v') := by
  have f3 : Fresh W w3 := k.more (fun i _ hi => by simp [Value.ownBlock] at hi)
  rw [Nat.zero_add, List.nil_append] at o
  have b3 := f3.blk_ h.b
  have hlt := h.b.lt
  have n' : ∀ k, v'.ownBlock = some k → w.heap.size < k := fun i hi => by
    rcases n i hi with h1 | h1
    · simp [Value.ownBlock] at h1
    · omega
  refine ⟨Keep.setCell (p := ⟨w.heap.size, 0, none⟩) (h.f.step f3 (fun _ _ h => h)) (fun h => by simp at h) _, by simpa using b3.set_ 0 v', o.far (p := ⟨w.heap.size, 0, none⟩) (o.ne_blk b3 (by decide)) v', (h.o2.fresh f3).far (p := ⟨w.heap.size, 0, none⟩) (fun he => absurd (h.n2 _ he) (Nat.lt_irrefl _)) v', n', h.n2⟩
theorem CopI.app2 (h : CopI w l res v1 (.slice none 0 0) [] W) (o : OwnS w3 3 1 v' (0 + fr.length) ([] ++ ints fr)) (k : Keep (fun k => (Value.slice none 0 0).ownBlock = some k) W w3) (n : ∀ i, v'.ownBlock = some i → (Value.slice none 0 0).ownBlock = some i ∨ W.heap.size ≤ i) : CopI w l res v1 v' fr (w3.setCell ⟨w.heap.size, 1, none⟩ v') := by
  have f3 : Fresh W w3 := k.more (fun i _ hi => by simp [Value.ownBlock] at hi)
  rw [Nat.zero_add, List.nil_append] at o
  have b3 := f3.blk_ h.b
  have hlt := h.b.lt
  have n' : ∀ k, v'.ownBlock = some k → w.heap.size < k := fun i hi => by
    rcases n i hi with h1 | h1
    · simp [Value.ownBlock] at h1
    · omega
  refine ⟨Keep.setCell (p := ⟨w.heap.size, 1, none⟩) (h.f.step f3 (fun _ _ h => h)) (fun h => by simp at h) _, by simpa using b3.set_ 1 v', (h.o1.fresh f3).far (p := ⟨w.heap.size, 1, none⟩) (fun he => absurd (h.n1 _ he) (Nat.lt_irrefl _)) v', o.far (p := ⟨w.heap.size, 1, none⟩) (o.ne_blk b3 (by decide)) v', h.n1, n'⟩
end
set_option maxHeartbeats 4000000 in
set_option maxRecDepth 100000 in
theorem rcopy_any (g : Nat) (vl vf : Value) (l : List Sl) (fr : List Int) (res : Int) (w : World) (h : RSlab w g vl vf l fr res) (hl : l.length ≤ 100000) (hf : fr.length ≤ 100000) :
    Calls Try.prog 24 #[.pointer (some ⟨g, 0, none⟩)] w fun e w' => ∃ v1 v2, e = .returned (.pointer (some ⟨w.heap.size, 0, none⟩)) ∧ CopI w l res v1 v2 fr w' := by
  have HS := Lib.hid h
  have hb := h.blk.cell
  have hlt := h.blk.lt
  obtain ⟨A, cap, rfl, hc, hcm⟩ := h.ol.shape
  obtain ⟨B, cbp, rfl, hc2, hcm2⟩ := h.of.shape
  obtain ⟨i0, hi, hz0, hz1, hz2⟩ := info_parts info_rslot
  obtain ⟨i1, hi1, hy0, hy1, hy2⟩ := info_parts info_int
  have h03 : Hid (0 < 3) := Lib.hid (by omega)
  have h01 : Hid (0 < 1) := Lib.hid (by omega)
  have hL1 : 0 + l.length ≤ maxLen := one_le_maxLen (by omega)
  have hL2 : (0 + l.length) * 24 ≤ 140737488355328 := by omega
  have hL3 : 0 + fr.length ≤ maxLen := one_le_maxLen (by omega)
  have hL4 : (0 + fr.length) * 8 ≤ 140737488355328 := by omega
  clear h hc hc2
  go_enter Try.func24, Try.ntmps24
  go_wp2_with fail
  have C0 : CopI w [] res (.slice none 0 0) (.slice none 0 0) [] (w.alloc (.cells #[.slice none 0 0, .slice none 0 0, .int .i64 res] 63)) := ⟨(Keep.refl _ w).alloc _, Blk.new _ _ _, OwnS.nil _ _ _, OwnS.nil _ _ _, by simp [Value.ownBlock], by simp [Value.ownBlock]⟩
  obtain ⟨X, hX⟩ : ∃ X, w.alloc (.cells #[.slice none 0 0, .slice none 0 0, .int .i64 res] 63) = X := ⟨_, rfl⟩
  rw [hX] at C0 ⊢
  have HC := Lib.hid C0
  clear hX hb hlt
  have fD : Fresh X X.drew := (Keep.refl _ X).drew
  have CD := Lib.hid (C0.fresh fD)
  have cX := C0.b.cell
  have zX := C0.b.frozen
  have lX := C0.b.lt
  have cD := CD.out.b.cell
  have zD := CD.out.b.frozen
  have lD := CD.out.b.lt
  have sX := (HS.out.fresh C0.f).blk.cell
  have tX := (HS.out.fresh C0.f).blk.lt
  have sD := (HS.out.fresh CD.out.f).blk.cell
  have tD := (HS.out.fresh CD.out.f).blk.lt
  have HSR := Lib.hid (HS.out.fresh CD.out.f).ol.src
  clear C0
  go_cut [] (fun wx => ∃ v1, CopI w l res v1 (.slice none 0 0) [] wx)
  case first =>
    go_region_law ((refine step_append_OwnS _ (by rfl) _ _ 61 (by rfl) 60 i0 (.agg #[.int .i64 0, .int .i64 0, .int .i64 0]) 3 24 Try.underlying61 hi hz0 hz1 hz2 (by rfl) h03.out (.slice none 0 0) 0 [] (by rfl) (OwnS.nil _ _ _) (.slice A l.length cap) l.length (slots l) (by rfl) HSR.out (slots_one _) hL1 hL2 ?_; intro v4 w4 o4 k4 n4; have S5 := Lib.hid (CD.out.app1 o4 k4 n4); have b4 := CD.out.b.keep k4 (by simp [Value.ownBlock]); have cb4 := b4.cell; have zb4 := b4.frozen; have lb4 := b4.lt; obtain ⟨A4, cap4, rfl, _, _⟩ := o4.shape; clear o4 k4 n4 b4))
    all_goals go_wp2_with fail
    all_goals go_meet
    all_goals (have h5 := S5.out; simp only [Nat.zero_add] at h5; first | exact ⟨_, h5⟩ | exact ⟨_, h5.fresh (Keep.drew (Keep.refl _ _))⟩)
  case rest =>
    obtain ⟨v1, hC⟩ := hcut
    clear cX zX lX cD zD lD sX tX sD tD HSR CD fD HC
    obtain ⟨A5, c5, rfl, _, _⟩ := hC.o1.shape
    have HC := Lib.hid hC
    obtain ⟨Y, hY⟩ : ∃ Y, Y = wc := ⟨_, rfl⟩
    subst hY
    have fD : Fresh Y Y.drew := (Keep.refl _ Y).drew
    have CD := Lib.hid (hC.fresh fD)
    have cX := hC.b.cell
    have zX := hC.b.frozen
    have lX := hC.b.lt
    have cD := CD.out.b.cell
    have zD := CD.out.b.frozen
    have lD := CD.out.b.lt
    have sX := (HS.out.fresh hC.f).blk.cell
    have tX := (HS.out.fresh hC.f).blk.lt
    have sD := (HS.out.fresh CD.out.f).blk.cell
    have tD := (HS.out.fresh CD.out.f).blk.lt
    have HSR := Lib.hid (HS.out.fresh CD.out.f).of.src
    clear hC
    go_wp2_with fail
    go_cut [] (fun wx => ∃ v2, CopI w l res (.slice A5 l.length c5) v2 fr wx)
    case first =>
      go_region_law ((refine step_append_OwnS _ (by rfl) _ _ 29 (by rfl) 3 i1 (.int .i64 0) 1 8 Try.underlying29 hi1 hy0 hy1 hy2 (by rfl) h01.out (.slice none 0 0) 0 [] (by rfl) (OwnS.nil _ _ _) (.slice B fr.length cbp) fr.length (ints fr) (by rfl) HSR.out (ints_one _) hL3 hL4 ?_; intro v4 w4 o4 k4 n4; have S5 := Lib.hid (CD.out.app2 o4 k4 n4); have b4 := CD.out.b.keep k4 (by simp [Value.ownBlock]); have cb4 := b4.cell; have zb4 := b4.frozen; have lb4 := b4.lt; obtain ⟨A4, cap4, rfl, _, _⟩ := o4.shape; clear o4 k4 n4 b4))
      all_goals go_wp2_with fail
      all_goals go_meet
      all_goals (have h5 := S5.out; simp only [Nat.zero_add] at h5; first | exact ⟨_, h5⟩ | exact ⟨_, h5.fresh (Keep.drew (Keep.refl _ _))⟩)
    case rest =>
      obtain ⟨v2, hC2⟩ := hcut
      have HC2 := Lib.hid hC2
      clear hC2
      go_wp2_with fail
      go_ret
      exact ⟨_, v2, rfl, HC2.out⟩
end Go.Proofs.Ytdobhicjhgdhnaa
