/-
  strings.Builder at this program: copyCheck, WriteString, WriteByte (the shelf's own proofs, turned to this program: its copyCheck is cut short of the panic), String.
-/
import Derived.Test.YtkhlldmnnakoaaaDoorLibP
import Derived.Test.YtkhlldmnnakoaaaDoorChecks
namespace Go.Proofs.YtkhlldmnnakoaaaDoor
open Go.RowKit
attribute [local go_sem ↓] Go.wp_at_zero Go.wp_at_succ

theorem info_byte : (Tryd.prog.info? 5).map (fun i => (i.zero, i.size, i.bytes)) = some (some (.int .u8 0), 1, 1) := by kernel_rfl
theorem size_builder : (Tryd.prog.info? 51).map (·.size) = some 2 := by kernel_rfl
theorem lies_builder : liesAt Tryd.prog Tryd.prog.depth 51 (2 / Tryd.prog.cellsOf 51) 0 51 1 = true := by kernel_rfl
set_option maxHeartbeats 1000000 in
set_option maxRecDepth 100000 in
theorem copy_used (b : Nat) (w : World) (h0 : w.cell? ⟨b, 0, none⟩ = some (.pointer (some ⟨b, 0, none⟩))) :
    Calls Tryd.prog 33 #[.pointer (some ⟨b, 0, none⟩)] w fun e w' => e = .returned (.tuple #[]) ∧ w' = w := by
  obtain ⟨j, hj, _⟩ := Option.map_eq_some_iff.1 size_builder
  go_enter Tryd.func33, Tryd.ntmps33
  go_wp2
  rw [Lib.run_neq_ptr_same w _ Tryd.underlying48 hj]
  go_wp2
  go_end0
  exact ⟨rfl, rfl⟩
set_option maxHeartbeats 1000000 in
set_option maxRecDepth 100000 in
theorem copy_fresh (b : Nat) (w : World) (h0 : w.cell? ⟨b, 0, none⟩ = some (.pointer none)) (hsh : w.shape? b = some (51, 2)) (hfz : w.frozen? ⟨b, 0, none⟩ = false) :
    Calls Tryd.prog 33 #[.pointer (some ⟨b, 0, none⟩)] w fun e w' => e = .returned (.tuple #[]) ∧ w' = w.setCell ⟨b, 0, none⟩ (.pointer (some ⟨b, 0, none⟩)) := by
  obtain ⟨j, hj, hjs⟩ := Option.map_eq_some_iff.1 size_builder
  go_enter Tryd.func33, Tryd.ntmps33
  go_wp2
  rw [Lib.run_to_unsafe w ⟨b, 0, none⟩ Tryd.underlying48 Tryd.underlying79 hj (by rw [hjs]; decide) hsh (Nat.zero_lt_succ 1)]
  simp only [Result.andThen]
  rw [Oper.upon_value]
  go_wp2
  rw [run_callFunc_extern Tryd.func43 (by kernel_rfl) (by kernel_rfl) (by kernel_rfl) (e := Extern.AbiNoEscape.same) (by kernel_rfl)]
  rw [Lib.run_noEscape]
  simp only [Result.andThen]
  rw [Oper.upon_value]
  go_wp2
  rw [Lib.run_from_unsafe w ⟨b, 0, none⟩ Tryd.underlying79 Tryd.underlying48 hj hsh lies_builder]
  simp only [Result.andThen]
  rw [Oper.upon_value]
  go_wp2
  go_end0
  exact ⟨rfl, rfl⟩
theorem copy_any (B b : Nat) (bs : List Value) (w : World) (h : Lib.IsBuilderF 51 5 B b bs w) :
    Calls Tryd.prog 33 #[.pointer (some ⟨b, 0, none⟩)] w fun e w' => e = .returned (.tuple #[]) ∧ (Lib.BuilderAtF 51 5 B b (.pointer (some ⟨b, 0, none⟩)) bs w' ∧ Below B w w' ∧ Lib.OthersKept 5 (some b) w w') := by
  rcases h with h | h
  · refine (copy_fresh b w h.cell0 h.shape h.frozen0).mono ?_
    rintro e w' ⟨rfl, rfl⟩
    exact ⟨rfl, h.used _, (Below.refl B w).setCell (p := ⟨b, 0, none⟩) h.1 _, (Lib.OthersKept.refl _ _ w).setCell ⟨b, 0, none⟩ rfl _⟩
  · refine (copy_used b w h.cell0).mono ?_
    rintro e w' ⟨rfl, rfl⟩
    exact ⟨rfl, h, Below.refl B _, Lib.OthersKept.refl _ _ _⟩
set_option maxHeartbeats 2000000 in
set_option maxRecDepth 100000 in
theorem wbyte_any (B b : Nat) (bs : List Value) (c : Int) (w : World) (h : Lib.IsBuilderF 51 5 B b bs w) (hlen : bs.length + 1 ≤ 140737488355328) (hBw : B ≤ w.heap.size) :
    Calls Tryd.prog 24 #[.pointer (some ⟨b, 0, none⟩), .int .u8 c] w fun e w' => e = .returned .nilIface ∧ (Lib.BuilderAtF 51 5 B b (.pointer (some ⟨b, 0, none⟩)) (bs ++ [.int .u8 c]) w' ∧ Below B w w' ∧ Lib.OthersKept 5 (some b) w w') := by
  obtain ⟨i0, hi, hz0, hz1, hz2⟩ := info_parts info_byte
  go_enter Tryd.func24, Tryd.ntmps24
  go_wp2_with (go_at_call 33; refine (copy_any B b bs _ h).mono ?_)
  rintro e w1 ⟨rfl, h1, hb1, hk1⟩
  obtain ⟨hB, v, hbk, hown, hne⟩ := h1
  have c0 : w1.cell? ⟨b, 0, none⟩ = some (.pointer (some ⟨b, 0, none⟩)) := by rw [Lib.cell_of_heap hbk]; rfl
  have c1 : w1.cell? ⟨b, 1, none⟩ = some v := by rw [Lib.cell_of_heap hbk]; rfl
  go_wp2_with (at_builtin; refine wpList_append_ownF _ rfl _ _ 49 rfl B 5 i0 (.int .u8 0) 1 1 Tryd.underlying49 hi hz0 hz1 hz2 rfl (by decide) _ _ _ rfl (hown.alloc _) ⟨w1.heap.size, 0, none⟩ 1 1 [.int .u8 c] rfl rfl ?c1 ?c2 ?c3 ?c4 ?c5 ?_)
  case c1 =>
    intro j u hj
    match j, hj with
    | 0, hj => simp at hj; subst hj; simp [Addr.add]
  case c2 => intro u hu; simp at hu; subst hu; rfl
  case c3 => unfold maxLen; omega
  case c4 => omega
  case c5 => have := hb1.size; simp; omega
  intro v' w2 hown' hgrow _
  have hlt : b < w1.heap.size := by
    rcases Nat.lt_or_ge b w1.heap.size with h' | h'
    · exact h'
    · simp [Array.getElem?_eq_none h'] at hbk
  have hb2 : w2.heap[b]? = some (.cells #[.pointer (some ⟨b, 0, none⟩), v] 51 (0, 0)) := by
    rw [hgrow.block b (by simp; omega) (fun e => hne e.symm), Lib.alloc_old w1 _ b hlt]
    exact hbk
  have d0 : w2.cell? ⟨b, 0, none⟩ = some (.pointer (some ⟨b, 0, none⟩)) := by rw [Lib.cell_of_heap hb2]; rfl
  have d1 : w2.cell? ⟨b, 1, none⟩ = some v := by rw [Lib.cell_of_heap hb2]; rfl
  have f1 : w2.frozen? ⟨b, 1, none⟩ = false := Lib.frozen_of_heap hb2 1
  obtain ⟨g, cap, rfl⟩ : ∃ g cap, v' = .slice (some ⟨g, 0, none⟩) (bs.length + 1) cap := by
    rcases hown'.2 with ⟨_, h0⟩ | ⟨g, cap, cur, fz, hv, _⟩
    · omega
    · exact ⟨g, cap, hv⟩
  go_wp2
  go_ret
  refine ⟨rfl, ?_, ?_, ((hk1.alloc _).grown hgrow (Lib.ownsRowF_kind (hown.alloc _))).setCell ⟨b, 1, none⟩ rfl _⟩
  · exact Lib.BuilderAtF.put (T := 51) (e := 5) hB hb2 (bs' := bs ++ [.int .u8 c]) (by simpa using hown') (by decide)
  · exact ((hb1.alloc (by have := hb1.size; omega) _).grown hgrow (by have := hb1.size; simp; omega) (fun k hk => (hown.lt k hk).1)).setCell (p := ⟨b, 1, none⟩) hB _
set_option maxHeartbeats 2000000 in
set_option maxRecDepth 100000 in
theorem wstr_any (B b : Nat) (bs : List Value) (s : ByteArray) (w : World) (h : Lib.IsBuilderF 51 5 B b bs w) (hlen : bs.length + s.size ≤ 140737488355328) (hBw : B ≤ w.heap.size) :
    Calls Tryd.prog 21 #[.pointer (some ⟨b, 0, none⟩), .string s] w fun e w' => e = .returned (.tuple #[.int .i64 s.size, .nilIface]) ∧ (Lib.BuilderAtF 51 5 B b (.pointer (some ⟨b, 0, none⟩)) (bs ++ Lib.strCells s) w' ∧ Below B w w' ∧ Lib.OthersKept 5 (some b) w w') := by
  obtain ⟨i0, hi, hz0, hz1, hz2⟩ := info_parts info_byte
  go_enter Tryd.func21, Tryd.ntmps21
  go_wp2_with (go_at_call 33; refine (copy_any B b bs _ h).mono ?_)
  rintro e w1 ⟨rfl, h1, hb1, hk1⟩
  obtain ⟨hB, v, hbk, hown, hne⟩ := h1
  have c0 : w1.cell? ⟨b, 0, none⟩ = some (.pointer (some ⟨b, 0, none⟩)) := by rw [Lib.cell_of_heap hbk]; rfl
  have c1 : w1.cell? ⟨b, 1, none⟩ = some v := by rw [Lib.cell_of_heap hbk]; rfl
  go_wp2_with (at_builtin; refine Lib.wpList_append_own_stringF _ rfl _ _ 49 9 rfl B 5 i0 Tryd.underlying49 Tryd.underlying9 hi hz0 hz1 hz2 _ _ _ rfl hown s rfl ?c3 ?c4 ?c5 ?_)
  case c3 => unfold maxLen; omega
  case c4 => omega
  case c5 => have := hb1.size; omega
  intro v' w2 hown' hgrow _
  have hlt : b < w1.heap.size := by
    rcases Nat.lt_or_ge b w1.heap.size with h' | h'
    · exact h'
    · simp [Array.getElem?_eq_none h'] at hbk
  have hb2 : w2.heap[b]? = some (.cells #[.pointer (some ⟨b, 0, none⟩), v] 51 (0, 0)) := by
    rw [hgrow.block b hlt (fun e => hne e.symm)]
    exact hbk
  have d0 : w2.cell? ⟨b, 0, none⟩ = some (.pointer (some ⟨b, 0, none⟩)) := by rw [Lib.cell_of_heap hb2]; rfl
  have d1 : w2.cell? ⟨b, 1, none⟩ = some v := by rw [Lib.cell_of_heap hb2]; rfl
  have f1 : w2.frozen? ⟨b, 1, none⟩ = false := Lib.frozen_of_heap hb2 1
  obtain ⟨ao, n', cap, rfl⟩ : ∃ ao n' cap, v' = .slice ao n' cap := by
    rcases hown'.2 with ⟨hv, _⟩ | ⟨g, cap, cur, fz, hv, _⟩
    · exact ⟨_, _, _, hv⟩
    · exact ⟨_, _, _, hv⟩
  go_wp2
  go_ret2
  refine ⟨rfl, ?_, ?_, (hk1.grown hgrow (Lib.ownsRowF_kind hown)).setCell ⟨b, 1, none⟩ rfl _⟩
  · exact Lib.BuilderAtF.put (T := 51) (e := 5) hB hb2 (bs' := bs ++ Lib.strCells s) (by simpa [Lib.strCells_length] using hown') (by decide)
  · exact (hb1.grown hgrow (by have := hb1.size; omega) (fun k hk => (hown.lt k hk).1)).setCell (p := ⟨b, 1, none⟩) hB _

/-- a builder made in this call, and what lies beside it -/
structure Bld (w0 : World) (b : Nat) (l : List UInt8) (W : World) : Prop where
  is : Lib.IsBuilderF 51 5 w0.heap.size b (Lib.byteCells l) W
  f : Fresh w0 W
theorem Bld.new (w : World) : Bld w w.heap.size [] (w.alloc (.cells #[.pointer none, .slice none 0 0] 51)) :=
  ⟨Lib.IsBuilderF.of (Lib.fresh_isBuilder _ _ w), (Keep.refl _ w).alloc _⟩
theorem Bld.step {w0 W W' : World} {b : Nat} {l l' : List UInt8} (h : Bld w0 b l W) (is : Lib.IsBuilderF 51 5 w0.heap.size b (Lib.byteCells l') W') (hb : Below w0.heap.size W W') : Bld w0 b l' W' :=
  ⟨is, ⟨hb.os.trans h.f.os, hb.tape.trans h.f.tape, hb.output.trans h.f.output, Nat.le_trans h.f.size hb.size, fun k hk _ => (hb.block k hk).trans (h.f.block k hk (fun h => h))⟩⟩
theorem Bld.alloc {w0 W : World} {b : Nat} {l : List UInt8} (h : Bld w0 b l W) (o : Obj) : Bld w0 b l (W.alloc o) := ⟨h.is.alloc o, h.f.alloc o⟩
theorem Bld.drew {w0 W : World} {b : Nat} {l : List UInt8} (h : Bld w0 b l W) : Bld w0 b l W.drew := ⟨h.is.elim (fun x => .inl x) (fun x => .inr x), h.f.drew⟩
theorem BuilderAtF.of_fresh {T e : TypeId} {B b : Nat} {p : Value} {bs : List Value} {W W' : World} (h : Lib.BuilderAtF T e B b p bs W) (f : Fresh W W') : Lib.BuilderAtF T e B b p bs W' := by
  obtain ⟨hB, v, hbk, hown, hne⟩ := h
  have hlt : b < W.heap.size := (Array.getElem?_eq_some_iff.1 hbk).1
  refine ⟨hB, v, (f.block b hlt (fun h => h)).trans hbk, ?_, hne⟩
  obtain ⟨h1, h2⟩ := hown
  refine ⟨h1, ?_⟩
  rcases h2 with h2 | ⟨g, cap, cur, fz, hv, hg, hgb, r⟩
  · exact .inl h2
  · have hgl : g < W.heap.size := (Array.getElem?_eq_some_iff.1 hgb).1
    exact .inr ⟨g, cap, cur, fz, hv, hg, (f.block g hgl (fun h => h)).trans hgb, r⟩
theorem Bld.fresh {w0 W W' : World} {b : Nat} {l : List UInt8} (h : Bld w0 b l W) (f : Fresh W W') : Bld w0 b l W' :=
  ⟨h.is.elim (fun x => .inl (BuilderAtF.of_fresh x f)) (fun x => .inr (BuilderAtF.of_fresh x f)), h.f.step f (fun _ _ h => h)⟩
theorem blk_others {W W' : World} {g b : Nat} {t : TypeId} {cs : Array Value} (h : Blk W g t cs) (k : Lib.OthersKept 5 (some b) W W') (hg : g ≠ b) (ht : t ≠ 5) : Blk W' g t cs := by
  unfold Blk at h ⊢
  refine k g _ h (fun e => hg (by injection e)) (fun c fz e => ht ?_)
  injection e
theorem bstr_any {w0 W : World} {b : Nat} {l : List UInt8} (h : Bld w0 b l W) (s : List UInt8) (hl : l.length + s.length ≤ 1000000) :
    Calls Tryd.prog 21 #[.pointer (some ⟨b, 0, none⟩), .string (str s)] W fun e w' => (∃ v, e = .returned (.tuple #[v, .nilIface])) ∧ Bld w0 b (l ++ s) w' ∧ Lib.OthersKept 5 (some b) W w' := by
  have hs : (str s).size = s.length := by simp [str, ByteArray.size]
  refine (wstr_any w0.heap.size b (Lib.byteCells l) (str s) W h.is (by rw [Lib.byteCells_length, hs]; omega) h.f.size).mono ?_
  rintro e w' ⟨rfl, h1, h2, h3⟩
  refine ⟨⟨_, rfl⟩, h.step (.inr ?_) h2, h3⟩
  rw [Lib.byteCells_append]
  exact h1
theorem bbyte_any {w0 W : World} {b : Nat} {l : List UInt8} (h : Bld w0 b l W) (c : UInt8) (hl : l.length ≤ 1000000) :
    Calls Tryd.prog 24 #[.pointer (some ⟨b, 0, none⟩), .int .u8 c.toNat] W fun e w' => e = .returned .nilIface ∧ Bld w0 b (l ++ [c]) w' ∧ Lib.OthersKept 5 (some b) W w' := by
  refine (wbyte_any w0.heap.size b (Lib.byteCells l) c.toNat W h.is (by rw [Lib.byteCells_length]; omega) h.f.size).mono ?_
  rintro e w' ⟨rfl, h1, h2, h3⟩
  refine ⟨rfl, h.step (.inr ?_) h2, h3⟩
  rw [Lib.byteCells_append]
  exact h1
theorem bget_any {w0 W : World} {b : Nat} {l : List UInt8} (h : Bld w0 b l W) :
    Calls Tryd.prog 25 #[.pointer (some ⟨b, 0, none⟩)] W fun e w' => e = .returned (.string (str l)) ∧ Fresh w0 w' := by
  refine (Tryd.Builder_String_any_k w0.heap.size b l W h.is h.f.size).mono ?_
  rintro e w' ⟨rfl, h1, h2, h3⟩
  exact ⟨rfl, (h.step h1 h2).f⟩
end Go.Proofs.YtkhlldmnnakoaaaDoor
