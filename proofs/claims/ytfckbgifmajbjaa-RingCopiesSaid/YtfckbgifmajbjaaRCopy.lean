/-
  The document's Copy.
-/
import Derived.Test.YtfckbgifmajbjaaCopy
namespace Go.Proofs.Ytfckbgifmajbjaa
open Go.RowKit
attribute [local go_sem ↓] Go.wp_at_zero Go.wp_at_succ

theorem rcopy_any (g room : Nat) (v : Value) (L : List (Int × Int)) (w : World) (h : RRing w g v room L) (hm : L.length ≤ 4096) :
    Calls Try.prog 23 #[.pointer (some ⟨g, 0, none⟩)] w fun e w' => ∃ v', e = .returned (.pointer (some ⟨w.heap.size, 0, none⟩)) ∧ RRing w' w.heap.size v' room L ∧ Fresh w w' ∧ ∀ k, v'.ownBlock = some k → w.heap.size ≤ k := by
  have hb := h.blk.cell
  have hlt := h.blk.lt
  have HS := Lib.hid h
  obtain ⟨A, cap, rfl, hc, hcm⟩ := h.own.shape
  have hcm : cap ≤ 9223372036854775807 := by unfold maxLen at hcm; omega
  obtain ⟨i0, hi, hz0, hz1, hz2⟩ := info_parts info_thing
  have h02 : 0 < 2 := by omega
  have hL1 : 0 + L.length ≤ maxLen := one_le_maxLen (by omega)
  have hL2 : (0 + L.length) * 16 ≤ 140737488355328 := by omega
  clear h hc
  go_enter Try.func23, Try.ntmps23
  go_wp2_with fail
  have FX : Fresh w (w.alloc (.cells #[.int .i64 room, .slice none 0 0] 33)) := (Keep.refl _ _).alloc _
  have BX : Blk (w.alloc (.cells #[.int .i64 room, .slice none 0 0] 33)) w.heap.size 33 #[.int .i64 room, .slice none 0 0] := Blk.new _ _ _
  obtain ⟨X, hX⟩ : ∃ X, w.alloc (.cells #[.int .i64 room, .slice none 0 0] 33) = X := ⟨_, rfl⟩
  rw [hX] at FX BX ⊢
  have HFX := Lib.hid FX
  have HBX := Lib.hid BX
  have cX := BX.cell
  have zX := BX.frozen
  have lX := BX.lt
  have hbX := (FX.blk_ HS.out.blk).cell
  have hlX := (FX.blk_ HS.out.blk).lt
  have fD : Fresh X X.drew := (Keep.refl _ _).drew
  have HFD := Lib.hid fD
  have HSR := Lib.hid ((HS.out.own.fresh FX).fresh fD).src
  have HBD := Lib.hid (fD.blk_ BX)
  have cD := (fD.blk_ BX).cell
  have zD := (fD.blk_ BX).frozen
  have lD := (fD.blk_ BX).lt
  have hbD := (fD.blk_ (FX.blk_ HS.out.blk)).cell
  have KB : Hid (∀ w2, Keep (fun k => (Value.slice none 0 0).ownBlock = some k) X.drew w2 → Blk w2 w.heap.size 33 #[.int .i64 room, .slice none 0 0]) := fun w2 k2 => HBD.out.keep k2 (by simp [Value.ownBlock])
  have FIN : Hid (∀ v4 w4, OwnS w4 53 2 v4 (0 + L.length) ([] ++ cells L) → Keep (fun k => (Value.slice none 0 0).ownBlock = some k) X.drew w4 → (∀ k, v4.ownBlock = some k → (Value.slice none 0 0).ownBlock = some k ∨ X.drew.heap.size ≤ k) →
      ∃ v', RRing (w4.setCell ⟨w.heap.size, 1, none⟩ v4) w.heap.size v' room L ∧ Fresh w (w4.setCell ⟨w.heap.size, 1, none⟩ v4) ∧ ∀ k, v'.ownBlock = some k → w.heap.size ≤ k) := fun v4 w4 o4 k4 n4 => by
    have b4 := KB.out w4 k4
    have fw4 : Fresh w w4 := (HFX.out.step HFD.out (fun _ _ h => h)).step k4 (fun _ _ h => by simp [Value.ownBlock] at h)
    rw [Nat.zero_add, List.nil_append] at o4
    refine ⟨v4, ⟨?_, ?_⟩, Keep.setCell fw4 (p := ⟨w.heap.size, 1, none⟩) (fun h => by simp at h) _, fun k hk => ?_⟩
    · have := b4.set_ 1 v4
      simpa using this
    · exact o4.far (p := ⟨w.heap.size, 1, none⟩) (o4.ne_blk b4 (by decide)) v4
    · rcases n4 k hk with h | h
      · simp [Value.ownBlock] at h
      · have h1 := HFX.out.size
        have h2 := HFD.out.size
        omega
  clear FX BX hX fD hb hlt
  go_region_law ((refine step_append_OwnS _ (by rfl) _ _ 31 (by rfl) 53 i0 (.agg #[.int .i64 0, .int .i64 0]) 2 16 Try.underlying31 hi hz0 hz1 hz2 (by rfl) h02 (.slice none 0 0) 0 [] (by rfl) (OwnS.nil _ _ _) (.slice A L.length cap) L.length (cells L) (by rfl) HSR.out (cells_one _) hL1 hL2 ?_; intro v4 w4 o4 k4 n4; obtain ⟨A4, c4, rfl, _, _⟩ := o4.shape; have bb := KB.out _ k4; have hb4 := bb.cell; have hf4 := bb.frozen; have hl4 := bb.lt; have O4 := Lib.hid o4; have K4 := Lib.hid k4; have N4 := Lib.hid n4; clear o4 k4 n4 bb))
  all_goals go_wp2_with fail
  all_goals go_ret
  all_goals obtain ⟨v5, h1, h2, h3⟩ := FIN.out _ _ O4.out K4.out N4.out
  all_goals rw [Nat.zero_add] at h1 h2
  all_goals exact ⟨v5, rfl, h1, h2, h3⟩
end Go.Proofs.Ytfckbgifmajbjaa
