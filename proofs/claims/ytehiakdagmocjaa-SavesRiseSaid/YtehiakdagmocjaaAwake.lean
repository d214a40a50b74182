import Derived.Test.YtehiakdagmocjaaFnsInt
import Derived.Test.YtehiakdagmocjaaFnsString
namespace Go.Proofs.Ytehiakdagmocjaa
open Go.RowKit

def sA : ByteArray := ⟨#[97]⟩
def sB : ByteArray := ⟨#[98]⟩
def sC : ByteArray := ⟨#[99]⟩
open R_str in
set_option maxRecDepth 100000 in
set_option maxHeartbeats 4000000 in
theorem awake_any (w : World) : Calls Try.prog 10 #[] w fun e w' => e = .returned (.bool true) ∧ Fresh w w' := by
  go_enter Try.func10, Try.ntmps10
  go_wp2_with fail
  refine (new_any sA _).mono ?_
  rintro e w1 ⟨g, v1, rfl, h1, f1, hg, hv1⟩
  go_wp2_with fail
  refine (save_ok g v1 [] (-1, sA) 3 sB _ h1 (by decide) (by decide) (by decide)).mono ?_
  rintro e w2 ⟨rfl, v2, h2, k2, l2⟩
  go_wp2_with fail
  refine (save_ok g v2 [(-1, sA)] (3, sB) 7 sC _ h2 (by decide) (by decide) (by decide)).mono ?_
  rintro e w3 ⟨rfl, v3, h3, k3, l3⟩
  have f3 : Fresh w w3 := by
    refine Keep.step (Keep.step f1 k2 ?_) k3 ?_
    · rintro i hi (rfl | hk)
      · omega
      · have := hv1 i hk; omega
    · rintro i hi (rfl | hk)
      · omega
      · rcases l2 i hk with h | h
        · have := hv1 i h; omega
        · have := f1.size; omega
  have hv3 : ∀ k, v3.ownBlock = some k → w.heap.size ≤ k := by
    intro k hk
    rcases l3 k hk with h | h
    · rcases l2 k h with h | h
      · exact hv1 k h
      · have := f1.size; omega
    · have := f1.size; have := k2.size; omega
  clear h1 h2 k2 k3 l2 l3 hv1 f1
  go_wp2_with fail
  refine (copy_any g v3 [(-1, sA), (3, sB), (7, sC)] _ h3 (by decide) (by decide)).mono ?_
  rintro e w4 ⟨g', c4, rfl, hc4, f4, hg', hcv⟩
  have h4 := h3.fresh f4
  have lt3 := h3.lt
  have F4 : Fresh w w4 := f3.step f4 (fun _ _ h => h)
  clear h3 f3
  go_wp2_with fail
  refine (last_some g v3 [(-1, sA), (3, sB), (7, sC)] 7 (3, sB) _ h4 (by decide) rfl).mono ?_
  rintro e w5 ⟨rfl, f5⟩
  have h5 := h4.fresh f5
  have hc5 := hc4.fresh f5
  have F5 : Fresh w w5 := F4.step f5 (fun _ _ h => h)
  clear h4 hc4 F4
  go_wp2_with fail
  refine (last_some g v3 [(-1, sA), (3, sB), (7, sC)] 8 (7, sC) _ h5 (by decide) rfl).mono ?_
  rintro e w6 ⟨rfl, f6⟩
  have h6 := h5.fresh f6
  have hc6 := hc5.fresh f6
  have F6 : Fresh w w6 := F5.step f6 (fun _ _ h => h)
  clear h5 hc5 F5
  go_wp2_with fail
  refine (free_any g v3 [(-1, sA), (3, sB), (7, sC)] 8 _ h6 (by decide) (by decide)).mono ?_
  rintro e w7 ⟨rfl, v7, h7, k7, l7⟩
  have hc7 := hc6.kept k7 (fun h => by have := lt3 _ h; omega) (fun k hk h => by have := lt3 _ h; have := hcv k hk; omega)
  have F7 : Fresh w w7 := F6.step k7 (by
    rintro i hi (rfl | hk)
    · omega
    · have := hv3 i hk; omega)
  clear h6 hc6 F6
  go_wp2_with fail
  refine (last_none g v7 [(7, sC)] 7 _ h7 (by decide)).mono ?_
  rintro e w8 ⟨rfl, rfl⟩
  go_wp2_with fail
  refine (cut_any g' c4 [(-1, sA), (3, sB), (7, sC)] 0 _ hc7 (by decide) (by decide)).mono ?_
  rintro e w9 ⟨rfl, v9, h9, k9, l9⟩
  have F9 : Fresh w w9 := F7.step k9 (by
    rintro i hi (rfl | hk)
    · have := f4.size; have := lt3 g (.inl rfl); omega
    · have := hcv i hk; have := lt3 g (.inl rfl); omega)
  go_wp2_with fail
  refine (last_some g' v9 [(-1, sA)] 99 (-1, sA) _ h9 (by decide) rfl).mono ?_
  rintro e w10 ⟨rfl, f10⟩
  have F10 : Fresh w w10 := F9.step f10 (fun _ _ h => h)
  clear F9 h9 k9 l9 F7 h7 k7 l7 hc7
  have tA : (sA.toList == [97]) = true := by decide +kernel
  have tB : (sB.toList == [98]) = true := by decide +kernel
  have tC : (sC.toList == [99]) = true := by decide +kernel
  go_wp2
  go_ret
  exact ⟨rfl, F10⟩

theorem due_any (every since : Int) (w : World) : Calls Try.prog 9 #[.int .i64 every, .int .i64 since] w fun e w' => e = .returned (.bool (decide (0 < every) && decide (every ≤ since))) ∧ w = w' := by
  by_cases h : 0 < every <;> by_cases h2 : every ≤ since
  all_goals
    go_enter Try.func9, Try.ntmps9
    go_wp2
    go_ret
    exact ⟨by simp [h, h2], rfl⟩
end Go.Proofs.Ytehiakdagmocjaa
