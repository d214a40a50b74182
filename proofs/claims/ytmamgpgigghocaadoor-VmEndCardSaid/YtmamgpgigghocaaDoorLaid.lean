/-
  What the rows' list gives: the table's numbers; a world that holds the table.
-/
import Derived.Test.YtmamgpgigghocaaDoorCodeF
namespace Go.Proofs.YtmamgpgigghocaaDoor
open Go.ChangeShapes Go.WideShapes Go.ChangeAt Go.RowKit Go.Deep

theorem gTab : Tryd.prog.globalNamed "boomerang/code.table" = some 0 := by kernel_rfl
theorem gTabType : (Tryd.prog.globals[0]?).map (·.type) = some 63 := by kernel_rfl
theorem cellsAbout : Tryd.prog.cellsOf 62 = 6 := by kernel_rfl
theorem cellsNums : Tryd.prog.cellsOf 23 = 4 := by kernel_rfl
theorem cellsInt : Tryd.prog.cellsOf 3 = 1 := by kernel_rfl
theorem fieldNums : ∃ fs : Array Field, Tryd.prog.underlying 62 = some (.struct fs) ∧ fs.size = 2 ∧ ∃ f, fs[1]? = some f ∧ f.type = 23 ∧ f.offset = 2 := ⟨_, Tryd.underlying62, rfl, _, rfl, rfl, rfl⟩

theorem entry {H : Type} : ∀ i : Nat, 1 ≤ i → i ≤ 15 → ∃ dw : DataW H, (match (Rows.laid_boomerang_code_table : DataW H) with | .agg l => l[i]? | _ => none) = some (.agg [dw, Lib.tabData .i64 (ask i)])
  | 0, h, _ => absurd h (by omega)
  | 1, _, _ => ⟨_, rfl⟩
  | 2, _, _ => ⟨_, rfl⟩
  | 3, _, _ => ⟨_, rfl⟩
  | 4, _, _ => ⟨_, rfl⟩
  | 5, _, _ => ⟨_, rfl⟩
  | 6, _, _ => ⟨_, rfl⟩
  | 7, _, _ => ⟨_, rfl⟩
  | 8, _, _ => ⟨_, rfl⟩
  | 9, _, _ => ⟨_, rfl⟩
  | 10, _, _ => ⟨_, rfl⟩
  | 11, _, _ => ⟨_, rfl⟩
  | 12, _, _ => ⟨_, rfl⟩
  | 13, _, _ => ⟨_, rfl⟩
  | 14, _, _ => ⟨_, rfl⟩
  | 15, _, _ => ⟨_, rfl⟩
  | n + 16, _, h => absurd h (by omega)

theorem tab_of_laid {W : World} (h0 : laidMetH Tryd.prog [("boomerang/code.table", Rows.laid_boomerang_code_table)] W) : Tab W := by
  have h : laidMet Tryd.prog [("boomerang/code.table", Rows.laid_boomerang_code_table)] W := h0
  obtain ⟨ps, ⟨g', t', cs, fuel, p, q, hg', ht', hvar, hd, _, _⟩, _⟩ := h
  obtain rfl := Option.some.inj (gTab.symm.trans hg')
  obtain rfl := Option.some.inj (gTabType.symm.trans ht')
  obtain ⟨xs, m, _, hx, hl, hlen, hf⟩ := DataW.trod_array Tryd.underlying63 hd
  intro i h1 h2 j z hz
  have he := entry (H := Unit) i h1 h2
  have hx1 := congrArg Prod.fst hx
  simp only at hx1
  rw [hx1] at he
  obtain ⟨dw, he⟩ := he
  simp only [List.getElem?_map] at he
  obtain ⟨y, hy, hy1⟩ := Option.map_eq_some_iff.1 he
  have hfi := hf i (by omega)
  rw [hy, cellsAbout] at hfi
  obtain ⟨fs, hu, hs, f, hf1, hft, hfo⟩ := fieldNums
  obtain ⟨ys, m', _, hyx, _, _, hg⟩ := DataW.trod_struct hu hfi
  have hg1 := hg 1 f hf1
  rw [hft, hfo, cellsNums] at hg1
  rw [hyx] at hy1
  simp only [DataW.agg.injEq] at hy1
  have hz1 : (ys.map (·.1))[1]? = some (Lib.tabData .i64 (ask i)) := by rw [hy1]; rfl
  rw [List.getElem?_map] at hz1
  obtain ⟨y2, hy2, hy3⟩ := Option.map_eq_some_iff.1 hz1
  rw [hy2] at hg1
  obtain ⟨d2, p2⟩ := y2
  simp only at hy3
  subst hy3
  have hcells := Lib.cells_of_tab Tryd.underlying23 Tryd.underlying3 cellsInt cellsNums hg1
  have hcell : cs.toList[i * 6 + 2 + j]? = some (.int .i64 z) := by
    have h3 := congrArg (fun l => l[j]?) hcells
    simp only [List.getElem?_map, hz, Option.map_some] at h3
    have hj : j < 4 := by
      obtain ⟨k0, k1, k2, k3, hk⟩ := show ∃ k0 k1 k2 k3, ask (i : Int) = [k0, k1, k2, k3] by
        unfold ask
        repeat' split
        all_goals exact ⟨_, _, _, _, rfl⟩
      rw [hk] at hz
      exact (List.getElem?_eq_some_iff.1 hz).1
    rw [List.getElem?_take, if_pos hj, List.getElem?_drop, List.getElem?_take, if_pos (by omega), List.getElem?_drop] at h3
    rw [← h3]
    congr 1
    omega
  have := World.var?_cell gTab hvar (i * 6 + 2 + j)
  rw [this]
  simpa using hcell

/-- a world for the witness: the settled one, the table holding what its initialiser lays -/
noncomputable def laidWorld (os : Os) : World :=
  { World.holding Tryd.prog os ⟨#[], #[], []⟩ with heap := (World.holding Tryd.prog os ⟨#[], #[], []⟩).heap.modify 0 fun
      | .cells _ t frozen => .cells #[.string ⟨#[]⟩, .int .i64 0, .int .i64 0, .int .i64 0, .int .i64 0, .int .i64 0, .string ⟨#[115, 101, 116]⟩, .int .i64 2, .int .i64 1, .int .i64 2, .int .i64 0, .int .i64 0, .string ⟨#[109, 111, 118, 101]⟩, .int .i64 2, .int .i64 1, .int .i64 1, .int .i64 0, .int .i64 0, .string ⟨#[97, 100, 100]⟩, .int .i64 3, .int .i64 1, .int .i64 1, .int .i64 1, .int .i64 0, .string ⟨#[115, 117, 98]⟩, .int .i64 3, .int .i64 1, .int .i64 1, .int .i64 1, .int .i64 0, .string ⟨#[109, 117, 108]⟩, .int .i64 3, .int .i64 1, .int .i64 1, .int .i64 1, .int .i64 0, .string ⟨#[109, 111, 100]⟩, .int .i64 3, .int .i64 1, .int .i64 1, .int .i64 1, .int .i64 0, .string ⟨#[108, 101, 115, 115]⟩, .int .i64 3, .int .i64 1, .int .i64 1, .int .i64 1, .int .i64 0, .string ⟨#[106, 117, 109, 112]⟩, .int .i64 1, .int .i64 3, .int .i64 0, .int .i64 0, .int .i64 0, .string ⟨#[122, 101, 114, 111]⟩, .int .i64 2, .int .i64 1, .int .i64 3, .int .i64 0, .int .i64 0, .string ⟨#[110, 111, 119]⟩, .int .i64 1, .int .i64 1, .int .i64 0, .int .i64 0, .int .i64 0, .string ⟨#[107, 105, 110, 100]⟩, .int .i64 1, .int .i64 1, .int .i64 0, .int .i64 0, .int .i64 0, .string ⟨#[100, 97, 116, 97]⟩, .int .i64 1, .int .i64 1, .int .i64 0, .int .i64 0, .int .i64 0, .string ⟨#[115, 101, 108, 102]⟩, .int .i64 1, .int .i64 1, .int .i64 0, .int .i64 0, .int .i64 0, .string ⟨#[115, 101, 110, 100]⟩, .int .i64 4, .int .i64 1, .int .i64 1, .int .i64 1, .int .i64 4, .string ⟨#[115, 116, 111, 112]⟩, .int .i64 0, .int .i64 0, .int .i64 0, .int .i64 0, .int .i64 0] t frozen
      | o => o }
end Go.Proofs.YtmamgpgigghocaaDoor
