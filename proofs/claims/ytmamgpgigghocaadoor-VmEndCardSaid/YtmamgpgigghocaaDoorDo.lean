/-
  vm.Machine.do: an instruction that may be.
-/
import Derived.Test.YtmamgpgigghocaaDoorMach
namespace Go.Proofs.YtmamgpgigghocaaDoor
open Go.RowKit
attribute [local go_sem ↓] Go.wp_at_zero Go.wp_at_succ

section
variable {w W0 : World} {g : Nat} {e : Ev} {o : Rest} {vp vs : Value} {P : List Ins} {fan : Int} {m : Ma}
theorem post_put (h : Mach W0 g e o vp vs P fan m) (f : Fresh w W0) (a : Nat) (ha : a < 8) (v : Int) :
    DoPost g e o vp vs P fan (m.put a v) w (W0.setCell ⟨g, 8 + a, none⟩ (.int .i64 v)) :=
  ⟨vs, h.put a ha v, Keep.setCell (S := fun k => k = g ∨ vs.ownBlock = some k) (p := ⟨g, 8 + a, none⟩) (f.more (fun _ _ h => h.elim)) (fun _ => .inl rfl) _, fun _ h => .inl h⟩
theorem post_jump (h : Mach W0 g e o vp vs P fan m) (f : Fresh w W0) (k : Nat) :
    DoPost g e o vp vs P fan { m with at_ := k } w (W0.setCell ⟨g, 16, none⟩ (.int .i64 (k : Nat))) :=
  ⟨vs, h.jump k, Keep.setCell (S := fun k => k = g ∨ vs.ownBlock = some k) (p := ⟨g, 16, none⟩) (f.more (fun _ _ h => h.elim)) (fun _ => .inl rfl) _, fun _ h => .inl h⟩
theorem marr_18 (hl : m.cs.length = 8) : (marr e o vp vs fan m)[18]? = some vs := by
  unfold marr
  rw [List.getElem?_toArray, List.getElem?_append_right (by simp [head]), List.getElem?_append_right (by simp [head, nums, hl])]
  simp [head, nums, hl, tail]
theorem DoPost.drew (h : DoPost g e o vp vs P fan m w W0) : DoPost g e o vp vs P fan m w W0.drew := by
  obtain ⟨vs', h1, h2, h3⟩ := h
  exact ⟨vs', h1.fresh ((Keep.refl _ _).drew), h2.drew, h3⟩
theorem DoPost.alloc (h : DoPost g e o vp vs P fan m w W0) (ob : Obj) : DoPost g e o vp vs P fan m w (W0.alloc ob) := by
  obtain ⟨vs', h1, h2, h3⟩ := h
  exact ⟨vs', h1.fresh ((Keep.refl _ _).alloc _), h2.alloc _, h3⟩
theorem post_same (h : Mach W0 g e o vp vs P fan m) (f : Fresh w W0) : DoPost g e o vp vs P fan m w W0 := ⟨vs, h, f.more (fun _ _ h => h.elim), fun _ h => .inl h⟩
end
set_option maxRecDepth 100000 in
set_option maxHeartbeats 4000000 in
theorem do_set (w : World) (g : Nat) (e : Ev) (o : Rest) (vp vs : Value) (P : List Ins) (fan : Int) (m : Ma) (h : Mach w g e o vp vs P fan m) (a : Nat) (b : Int) (c : Int) (d : Int) (ha : a < 8) :
    Calls Tryd.prog 16 #[.pointer (some ⟨g, 0, none⟩), .agg #[.int .i64 1, .int .i64 a, .int .i64 b, .int .i64 c, .int .i64 d]] w fun en w' => en = .returned (.tuple #[]) ∧ DoPost g e o vp vs P fan (m.put a b) w w' := by
  have hg0 := h.blk.lt
  have ha2 : (a : Int) < 8 := by omega
  have f0 : Fresh w (w.alloc (.cells #[.int .i64 1, .int .i64 a, .int .i64 b, .int .i64 c, .int .i64 d] 41)) := (Keep.refl _ _).alloc _
  have b0 := Blk.new w 41 #[.int .i64 1, .int .i64 a, .int .i64 b, .int .i64 c, .int .i64 d]
  have h0 := h.fresh f0
  clear h
  go_enter Tryd.func16, Tryd.ntmps16
  go_wp2
  obtain ⟨W0, hW0⟩ : ∃ W0, w.alloc (.cells #[.int .i64 1, .int .i64 a, .int .i64 b, .int .i64 c, .int .i64 d] 41) = W0 := ⟨_, rfl⟩
  rw [hW0] at f0 b0 h0 ⊢
  have hg := h0.blk.lt
  have hf := h0.blk.frozen
  have hx := b0.cell
  have hxl := b0.lt
  have ca := h0.get a ha
  obtain ⟨k0, k4, k5, k6, k7, k16, k17, k18⟩ := h0.cells
  have H := Lib.hid h0
  have F := Lib.hid f0
  have B := Lib.hid b0
  clear h0 f0 hW0 b0
  go_still_tail 7, (by kernel_rfl)
  go_wp2
  go_returns
  exact ⟨rfl, (post_put H.out F.out a ha _).drew⟩
set_option maxRecDepth 100000 in
set_option maxHeartbeats 4000000 in
theorem do_move (w : World) (g : Nat) (e : Ev) (o : Rest) (vp vs : Value) (P : List Ins) (fan : Int) (m : Ma) (h : Mach w g e o vp vs P fan m) (a : Nat) (b : Nat) (c : Int) (d : Int) (ha : a < 8) (hb : b < 8) :
    Calls Tryd.prog 16 #[.pointer (some ⟨g, 0, none⟩), .agg #[.int .i64 2, .int .i64 a, .int .i64 b, .int .i64 c, .int .i64 d]] w fun en w' => en = .returned (.tuple #[]) ∧ DoPost g e o vp vs P fan (m.put a (m.get b)) w w' := by
  have hg0 := h.blk.lt
  have ha2 : (a : Int) < 8 := by omega
  have hb2 : (b : Int) < 8 := by omega
  have f0 : Fresh w (w.alloc (.cells #[.int .i64 2, .int .i64 a, .int .i64 b, .int .i64 c, .int .i64 d] 41)) := (Keep.refl _ _).alloc _
  have b0 := Blk.new w 41 #[.int .i64 2, .int .i64 a, .int .i64 b, .int .i64 c, .int .i64 d]
  have h0 := h.fresh f0
  clear h
  go_enter Tryd.func16, Tryd.ntmps16
  go_wp2
  obtain ⟨W0, hW0⟩ : ∃ W0, w.alloc (.cells #[.int .i64 2, .int .i64 a, .int .i64 b, .int .i64 c, .int .i64 d] 41) = W0 := ⟨_, rfl⟩
  rw [hW0] at f0 b0 h0 ⊢
  have hg := h0.blk.lt
  have hf := h0.blk.frozen
  have hx := b0.cell
  have hxl := b0.lt
  have ca := h0.get a ha
  have cb := h0.get b hb
  obtain ⟨k0, k4, k5, k6, k7, k16, k17, k18⟩ := h0.cells
  have H := Lib.hid h0
  have F := Lib.hid f0
  have B := Lib.hid b0
  clear h0 f0 hW0 b0
  go_still_tail 11, (by kernel_rfl)
  go_wp2
  go_returns
  exact ⟨rfl, (post_put H.out F.out a ha _).drew⟩
set_option maxRecDepth 100000 in
set_option maxHeartbeats 4000000 in
theorem do_jump (w : World) (g : Nat) (e : Ev) (o : Rest) (vp vs : Value) (P : List Ins) (fan : Int) (m : Ma) (h : Mach w g e o vp vs P fan m) (a : Nat) (b c d : Int) :
    Calls Tryd.prog 16 #[.pointer (some ⟨g, 0, none⟩), .agg #[.int .i64 8, .int .i64 a, .int .i64 b, .int .i64 c, .int .i64 d]] w fun en w' => en = .returned (.tuple #[]) ∧ DoPost g e o vp vs P fan { m with at_ := a } w w' := by
  have hg0 := h.blk.lt
  have hf := h.blk.frozen
  have f0 : Fresh w (w.alloc (.cells #[.int .i64 8, .int .i64 a, .int .i64 b, .int .i64 c, .int .i64 d] 41)) := (Keep.refl _ _).alloc _
  obtain ⟨_, _, _, _, _, k16, _, _⟩ := h.cells
  have H := Lib.hid h
  clear h f0
  go_enter Tryd.func16, Tryd.ntmps16
  go_wp2
  go_returns
  exact ⟨rfl, (post_jump H.out (Keep.refl _ _) a).alloc _⟩
set_option maxRecDepth 100000 in
set_option maxHeartbeats 4000000 in
theorem do_zero_true (w : World) (g : Nat) (e : Ev) (o : Rest) (vp vs : Value) (P : List Ins) (fan : Int) (m : Ma) (h : Mach w g e o vp vs P fan m) (a : Nat) (b : Nat) (c : Int) (d : Int) (ha : a < 8) (hz : (m.get a == 0) = true) :
    Calls Tryd.prog 16 #[.pointer (some ⟨g, 0, none⟩), .agg #[.int .i64 9, .int .i64 a, .int .i64 b, .int .i64 c, .int .i64 d]] w fun en w' => en = .returned (.tuple #[]) ∧ DoPost g e o vp vs P fan ({ m with at_ := b }) w w' := by
  have hg0 := h.blk.lt
  have ha2 : (a : Int) < 8 := by omega
  have f0 : Fresh w (w.alloc (.cells #[.int .i64 9, .int .i64 a, .int .i64 b, .int .i64 c, .int .i64 d] 41)) := (Keep.refl _ _).alloc _
  have b0 := Blk.new w 41 #[.int .i64 9, .int .i64 a, .int .i64 b, .int .i64 c, .int .i64 d]
  have h0 := h.fresh f0
  clear h
  go_enter Tryd.func16, Tryd.ntmps16
  go_wp2
  obtain ⟨W0, hW0⟩ : ∃ W0, w.alloc (.cells #[.int .i64 9, .int .i64 a, .int .i64 b, .int .i64 c, .int .i64 d] 41) = W0 := ⟨_, rfl⟩
  rw [hW0] at f0 b0 h0 ⊢
  have hg := h0.blk.lt
  have hf := h0.blk.frozen
  have hx := b0.cell
  have hxl := b0.lt
  have ca := h0.get a ha
  obtain ⟨k0, k4, k5, k6, k7, k16, k17, k18⟩ := h0.cells
  have H := Lib.hid h0
  have F := Lib.hid f0
  have B := Lib.hid b0
  clear h0 f0 hW0 b0
  generalize hga : m.get a = ga at *
  go_quiet (fail)
  go_wp2
  go_returns
  exact ⟨rfl, post_jump (H.out.fresh ((Keep.refl _ _).drewN nq)) (F.out.drewN nq) b⟩
set_option maxRecDepth 100000 in
set_option maxHeartbeats 4000000 in
theorem do_zero_false (w : World) (g : Nat) (e : Ev) (o : Rest) (vp vs : Value) (P : List Ins) (fan : Int) (m : Ma) (h : Mach w g e o vp vs P fan m) (a : Nat) (b : Nat) (c : Int) (d : Int) (ha : a < 8) (hz : (m.get a == 0) = false) :
    Calls Tryd.prog 16 #[.pointer (some ⟨g, 0, none⟩), .agg #[.int .i64 9, .int .i64 a, .int .i64 b, .int .i64 c, .int .i64 d]] w fun en w' => en = .returned (.tuple #[]) ∧ DoPost g e o vp vs P fan (m) w w' := by
  have hg0 := h.blk.lt
  have ha2 : (a : Int) < 8 := by omega
  have f0 : Fresh w (w.alloc (.cells #[.int .i64 9, .int .i64 a, .int .i64 b, .int .i64 c, .int .i64 d] 41)) := (Keep.refl _ _).alloc _
  have b0 := Blk.new w 41 #[.int .i64 9, .int .i64 a, .int .i64 b, .int .i64 c, .int .i64 d]
  have h0 := h.fresh f0
  clear h
  go_enter Tryd.func16, Tryd.ntmps16
  go_wp2
  obtain ⟨W0, hW0⟩ : ∃ W0, w.alloc (.cells #[.int .i64 9, .int .i64 a, .int .i64 b, .int .i64 c, .int .i64 d] 41) = W0 := ⟨_, rfl⟩
  rw [hW0] at f0 b0 h0 ⊢
  have hg := h0.blk.lt
  have hf := h0.blk.frozen
  have hx := b0.cell
  have hxl := b0.lt
  have ca := h0.get a ha
  obtain ⟨k0, k4, k5, k6, k7, k16, k17, k18⟩ := h0.cells
  have H := Lib.hid h0
  have F := Lib.hid f0
  have B := Lib.hid b0
  clear h0 f0 hW0 b0
  generalize hga : m.get a = ga at *
  go_quiet (fail)
  go_wp2
  go_returns
  exact ⟨rfl, post_same (H.out.fresh ((Keep.refl _ _).drewN nq)) (F.out.drewN nq)⟩
set_option maxRecDepth 100000 in
set_option maxHeartbeats 4000000 in
theorem do_now (w : World) (g : Nat) (e : Ev) (o : Rest) (vp vs : Value) (P : List Ins) (fan : Int) (m : Ma) (h : Mach w g e o vp vs P fan m) (a : Nat) (b : Int) (c : Int) (d : Int) (ha : a < 8) :
    Calls Tryd.prog 16 #[.pointer (some ⟨g, 0, none⟩), .agg #[.int .i64 10, .int .i64 a, .int .i64 b, .int .i64 c, .int .i64 d]] w fun en w' => en = .returned (.tuple #[]) ∧ DoPost g e o vp vs P fan (m.put a e.at_) w w' := by
  have hg0 := h.blk.lt
  have ha2 : (a : Int) < 8 := by omega
  have f0 : Fresh w (w.alloc (.cells #[.int .i64 10, .int .i64 a, .int .i64 b, .int .i64 c, .int .i64 d] 41)) := (Keep.refl _ _).alloc _
  have b0 := Blk.new w 41 #[.int .i64 10, .int .i64 a, .int .i64 b, .int .i64 c, .int .i64 d]
  have h0 := h.fresh f0
  clear h
  go_enter Tryd.func16, Tryd.ntmps16
  go_wp2
  obtain ⟨W0, hW0⟩ : ∃ W0, w.alloc (.cells #[.int .i64 10, .int .i64 a, .int .i64 b, .int .i64 c, .int .i64 d] 41) = W0 := ⟨_, rfl⟩
  rw [hW0] at f0 b0 h0 ⊢
  have hg := h0.blk.lt
  have hf := h0.blk.frozen
  have hx := b0.cell
  have hxl := b0.lt
  have ca := h0.get a ha
  obtain ⟨k0, k4, k5, k6, k7, k16, k17, k18⟩ := h0.cells
  have H := Lib.hid h0
  have F := Lib.hid f0
  have B := Lib.hid b0
  clear h0 f0 hW0 b0
  go_still_tail 11, (by kernel_rfl)
  go_wp2
  go_returns
  exact ⟨rfl, (post_put H.out F.out a ha _).drew⟩
set_option maxRecDepth 100000 in
set_option maxHeartbeats 4000000 in
theorem do_kind (w : World) (g : Nat) (e : Ev) (o : Rest) (vp vs : Value) (P : List Ins) (fan : Int) (m : Ma) (h : Mach w g e o vp vs P fan m) (a : Nat) (b : Int) (c : Int) (d : Int) (ha : a < 8) :
    Calls Tryd.prog 16 #[.pointer (some ⟨g, 0, none⟩), .agg #[.int .i64 11, .int .i64 a, .int .i64 b, .int .i64 c, .int .i64 d]] w fun en w' => en = .returned (.tuple #[]) ∧ DoPost g e o vp vs P fan (m.put a e.kind) w w' := by
  have hg0 := h.blk.lt
  have ha2 : (a : Int) < 8 := by omega
  have f0 : Fresh w (w.alloc (.cells #[.int .i64 11, .int .i64 a, .int .i64 b, .int .i64 c, .int .i64 d] 41)) := (Keep.refl _ _).alloc _
  have b0 := Blk.new w 41 #[.int .i64 11, .int .i64 a, .int .i64 b, .int .i64 c, .int .i64 d]
  have h0 := h.fresh f0
  clear h
  go_enter Tryd.func16, Tryd.ntmps16
  go_wp2
  obtain ⟨W0, hW0⟩ : ∃ W0, w.alloc (.cells #[.int .i64 11, .int .i64 a, .int .i64 b, .int .i64 c, .int .i64 d] 41) = W0 := ⟨_, rfl⟩
  rw [hW0] at f0 b0 h0 ⊢
  have hg := h0.blk.lt
  have hf := h0.blk.frozen
  have hx := b0.cell
  have hxl := b0.lt
  have ca := h0.get a ha
  obtain ⟨k0, k4, k5, k6, k7, k16, k17, k18⟩ := h0.cells
  have H := Lib.hid h0
  have F := Lib.hid f0
  have B := Lib.hid b0
  clear h0 f0 hW0 b0
  go_still_tail 10, (by kernel_rfl)
  go_wp2
  go_returns
  exact ⟨rfl, (post_put H.out F.out a ha _).drew⟩
set_option maxRecDepth 100000 in
set_option maxHeartbeats 4000000 in
theorem do_data (w : World) (g : Nat) (e : Ev) (o : Rest) (vp vs : Value) (P : List Ins) (fan : Int) (m : Ma) (h : Mach w g e o vp vs P fan m) (a : Nat) (b : Int) (c : Int) (d : Int) (ha : a < 8) :
    Calls Tryd.prog 16 #[.pointer (some ⟨g, 0, none⟩), .agg #[.int .i64 12, .int .i64 a, .int .i64 b, .int .i64 c, .int .i64 d]] w fun en w' => en = .returned (.tuple #[]) ∧ DoPost g e o vp vs P fan (m.put a e.data) w w' := by
  have hg0 := h.blk.lt
  have ha2 : (a : Int) < 8 := by omega
  have f0 : Fresh w (w.alloc (.cells #[.int .i64 12, .int .i64 a, .int .i64 b, .int .i64 c, .int .i64 d] 41)) := (Keep.refl _ _).alloc _
  have b0 := Blk.new w 41 #[.int .i64 12, .int .i64 a, .int .i64 b, .int .i64 c, .int .i64 d]
  have h0 := h.fresh f0
  clear h
  go_enter Tryd.func16, Tryd.ntmps16
  go_wp2
  obtain ⟨W0, hW0⟩ : ∃ W0, w.alloc (.cells #[.int .i64 12, .int .i64 a, .int .i64 b, .int .i64 c, .int .i64 d] 41) = W0 := ⟨_, rfl⟩
  rw [hW0] at f0 b0 h0 ⊢
  have hg := h0.blk.lt
  have hf := h0.blk.frozen
  have hx := b0.cell
  have hxl := b0.lt
  have ca := h0.get a ha
  obtain ⟨k0, k4, k5, k6, k7, k16, k17, k18⟩ := h0.cells
  have H := Lib.hid h0
  have F := Lib.hid f0
  have B := Lib.hid b0
  clear h0 f0 hW0 b0
  go_still_tail 10, (by kernel_rfl)
  go_wp2
  go_returns
  exact ⟨rfl, (post_put H.out F.out a ha _).drew⟩
set_option maxRecDepth 100000 in
set_option maxHeartbeats 4000000 in
theorem do_self (w : World) (g : Nat) (e : Ev) (o : Rest) (vp vs : Value) (P : List Ins) (fan : Int) (m : Ma) (h : Mach w g e o vp vs P fan m) (a : Nat) (b : Int) (c : Int) (d : Int) (ha : a < 8) :
    Calls Tryd.prog 16 #[.pointer (some ⟨g, 0, none⟩), .agg #[.int .i64 13, .int .i64 a, .int .i64 b, .int .i64 c, .int .i64 d]] w fun en w' => en = .returned (.tuple #[]) ∧ DoPost g e o vp vs P fan (m.put a e.dst) w w' := by
  have hg0 := h.blk.lt
  have ha2 : (a : Int) < 8 := by omega
  have f0 : Fresh w (w.alloc (.cells #[.int .i64 13, .int .i64 a, .int .i64 b, .int .i64 c, .int .i64 d] 41)) := (Keep.refl _ _).alloc _
  have b0 := Blk.new w 41 #[.int .i64 13, .int .i64 a, .int .i64 b, .int .i64 c, .int .i64 d]
  have h0 := h.fresh f0
  clear h
  go_enter Tryd.func16, Tryd.ntmps16
  go_wp2
  obtain ⟨W0, hW0⟩ : ∃ W0, w.alloc (.cells #[.int .i64 13, .int .i64 a, .int .i64 b, .int .i64 c, .int .i64 d] 41) = W0 := ⟨_, rfl⟩
  rw [hW0] at f0 b0 h0 ⊢
  have hg := h0.blk.lt
  have hf := h0.blk.frozen
  have hx := b0.cell
  have hxl := b0.lt
  have ca := h0.get a ha
  obtain ⟨k0, k4, k5, k6, k7, k16, k17, k18⟩ := h0.cells
  have H := Lib.hid h0
  have F := Lib.hid f0
  have B := Lib.hid b0
  clear h0 f0 hW0 b0
  go_still_tail 10, (by kernel_rfl)
  go_wp2
  go_returns
  exact ⟨rfl, (post_put H.out F.out a ha _).drew⟩
set_option maxRecDepth 100000 in
set_option maxHeartbeats 4000000 in
theorem do_send_no (w : World) (g : Nat) (e : Ev) (o : Rest) (vp vs : Value) (P : List Ins) (fan : Int) (m : Ma) (h : Mach w g e o vp vs P fan m) (a : Nat) (b : Nat) (c : Nat) (d : Int) (ha : a < 8) (hb : b < 8) (hc : c < 8) (hlt : fan ≤ (outs fan m).length) (hsl : m.sent.length ≤ 100000) :
    Calls Tryd.prog 16 #[.pointer (some ⟨g, 0, none⟩), .agg #[.int .i64 14, .int .i64 a, .int .i64 b, .int .i64 c, .int .i64 d]] w fun en w' => en = .returned (.tuple #[]) ∧ DoPost g e o vp vs P fan ({ m with sent := m.sent ++ [⟨m.get a, m.get b, d, m.get c⟩] }) w w' := by
  have hg0 := h.blk.lt
  have ha2 : (a : Int) < 8 := by omega
  have hb2 : (b : Int) < 8 := by omega
  have hc2 : (c : Int) < 8 := by omega
  have f0 : Fresh w (w.alloc (.cells #[.int .i64 14, .int .i64 a, .int .i64 b, .int .i64 c, .int .i64 d] 41)) := (Keep.refl _ _).alloc _
  have b0 := Blk.new w 41 #[.int .i64 14, .int .i64 a, .int .i64 b, .int .i64 c, .int .i64 d]
  have h0 := h.fresh f0
  clear h
  go_enter Tryd.func16, Tryd.ntmps16
  go_wp2
  obtain ⟨W0, hW0⟩ : ∃ W0, w.alloc (.cells #[.int .i64 14, .int .i64 a, .int .i64 b, .int .i64 c, .int .i64 d] 41) = W0 := ⟨_, rfl⟩
  rw [hW0] at f0 b0 h0 ⊢
  have hg := h0.blk.lt
  have hf := h0.blk.frozen
  have hx := b0.cell
  have hxl := b0.lt
  have ca := h0.get a ha
  have cb := h0.get b hb
  have cc := h0.get c hc
  obtain ⟨k0, k4, k5, k6, k7, k16, k17, k18⟩ := h0.cells
  have H := Lib.hid h0
  have F := Lib.hid f0
  have B := Lib.hid b0
  clear h0 f0 hW0 b0
  obtain ⟨Av, capv, rfl, hcv, hmv⟩ := H.out.out.shape
  have hmv : capv ≤ 9223372036854775807 := by unfold maxLen at hmv; omega
  have HL := Lib.hid hlt
  have t1 : decide (((outs fan m).length : Int) < fan) = false := decide_eq_false (by omega)
  obtain ⟨n, hn⟩ : ∃ n, (outs fan m).length = n := ⟨_, rfl⟩
  have HN := Lib.hid hn
  rw [hn] at t1 k18
  clear hn hlt
  go_quiet (fail)
  go_wp2
  go_returns
  have hl := HL.out
  have h1 := post_same (H.out.fresh ((Keep.refl _ _).drewN nq)) (F.out.drewN nq)
  obtain ⟨vs', h2, h3, h4⟩ := h1
  refine ⟨rfl, vs', ⟨h2.blk, h2.prog, ?_, h2.len⟩, h3, h4⟩
  have e : outs fan { m with sent := m.sent ++ [⟨m.get a, m.get b, d, m.get c⟩] } = outs fan m := by
    unfold outs at hl ⊢
    rw [List.length_take] at hl
    simp only
    rw [List.take_append_of_le_length (by omega)]
  rw [e]
  exact h2.out
set_option maxRecDepth 100000 in
set_option maxHeartbeats 4000000 in
theorem do_reck3 (w : World) (g : Nat) (e : Ev) (o : Rest) (vp vs : Value) (P : List Ins) (fan : Int) (m : Ma) (h : Mach w g e o vp vs P fan m) (a : Nat) (b : Nat) (c : Nat) (d : Int) (ha : a < 8) (hb : b < 8) (hc : c < 8) :
    Calls Tryd.prog 16 #[.pointer (some ⟨g, 0, none⟩), .agg #[.int .i64 3, .int .i64 a, .int .i64 b, .int .i64 c, .int .i64 d]] w fun en w' => en = .returned (.tuple #[]) ∧ DoPost g e o vp vs P fan (m.put a (reck 3 (m.get b) (m.get c))) w w' := by
  have hg0 := h.blk.lt
  have ha2 : (a : Int) < 8 := by omega
  have hb2 : (b : Int) < 8 := by omega
  have hc2 : (c : Int) < 8 := by omega
  have f0 : Fresh w (w.alloc (.cells #[.int .i64 3, .int .i64 a, .int .i64 b, .int .i64 c, .int .i64 d] 41)) := (Keep.refl _ _).alloc _
  have b0 := Blk.new w 41 #[.int .i64 3, .int .i64 a, .int .i64 b, .int .i64 c, .int .i64 d]
  have h0 := h.fresh f0
  clear h
  go_enter Tryd.func16, Tryd.ntmps16
  go_wp2
  obtain ⟨W0, hW0⟩ : ∃ W0, w.alloc (.cells #[.int .i64 3, .int .i64 a, .int .i64 b, .int .i64 c, .int .i64 d] 41) = W0 := ⟨_, rfl⟩
  rw [hW0] at f0 b0 h0 ⊢
  have hg := h0.blk.lt
  have hf := h0.blk.frozen
  have hx := b0.cell
  have hxl := b0.lt
  have ca := h0.get a ha
  have cb := h0.get b hb
  have cc := h0.get c hc
  obtain ⟨k0, k4, k5, k6, k7, k16, k17, k18⟩ := h0.cells
  have H := Lib.hid h0
  have F := Lib.hid f0
  have B := Lib.hid b0
  clear h0 f0 hW0 b0
  obtain ⟨r, hr⟩ : ∃ r, reck 3 (m.get b) (m.get c) = r := ⟨_, rfl⟩
  have HR : Hid (∀ W, Calls Tryd.prog 22 #[.int .i64 3, .int .i64 (m.get b), .int .i64 (m.get c)] W fun e w' => e = .returned (.int .i64 r) ∧ W = w') := fun W => hr ▸ reckon_any 3 (m.get b) (m.get c) (by omega) W
  have HQ := Lib.hid hr
  clear hr
  go_still_tail 20, (by kernel_rfl)
  still_call ((HR.out W0.drew).mono fun _ _ h => ⟨h.1, h.2.symm⟩)
  repeat still_step
  refine wpStill_nil ?_
  change wpList _ _ _ _ _ W0.drew
  go_wp2
  go_returns
  refine ⟨rfl, ?_⟩
  rw [HQ.out]
  exact (post_put H.out F.out a ha r).drew
set_option maxRecDepth 100000 in
set_option maxHeartbeats 4000000 in
theorem do_reck4 (w : World) (g : Nat) (e : Ev) (o : Rest) (vp vs : Value) (P : List Ins) (fan : Int) (m : Ma) (h : Mach w g e o vp vs P fan m) (a : Nat) (b : Nat) (c : Nat) (d : Int) (ha : a < 8) (hb : b < 8) (hc : c < 8) :
    Calls Tryd.prog 16 #[.pointer (some ⟨g, 0, none⟩), .agg #[.int .i64 4, .int .i64 a, .int .i64 b, .int .i64 c, .int .i64 d]] w fun en w' => en = .returned (.tuple #[]) ∧ DoPost g e o vp vs P fan (m.put a (reck 4 (m.get b) (m.get c))) w w' := by
  have hg0 := h.blk.lt
  have ha2 : (a : Int) < 8 := by omega
  have hb2 : (b : Int) < 8 := by omega
  have hc2 : (c : Int) < 8 := by omega
  have f0 : Fresh w (w.alloc (.cells #[.int .i64 4, .int .i64 a, .int .i64 b, .int .i64 c, .int .i64 d] 41)) := (Keep.refl _ _).alloc _
  have b0 := Blk.new w 41 #[.int .i64 4, .int .i64 a, .int .i64 b, .int .i64 c, .int .i64 d]
  have h0 := h.fresh f0
  clear h
  go_enter Tryd.func16, Tryd.ntmps16
  go_wp2
  obtain ⟨W0, hW0⟩ : ∃ W0, w.alloc (.cells #[.int .i64 4, .int .i64 a, .int .i64 b, .int .i64 c, .int .i64 d] 41) = W0 := ⟨_, rfl⟩
  rw [hW0] at f0 b0 h0 ⊢
  have hg := h0.blk.lt
  have hf := h0.blk.frozen
  have hx := b0.cell
  have hxl := b0.lt
  have ca := h0.get a ha
  have cb := h0.get b hb
  have cc := h0.get c hc
  obtain ⟨k0, k4, k5, k6, k7, k16, k17, k18⟩ := h0.cells
  have H := Lib.hid h0
  have F := Lib.hid f0
  have B := Lib.hid b0
  clear h0 f0 hW0 b0
  obtain ⟨r, hr⟩ : ∃ r, reck 4 (m.get b) (m.get c) = r := ⟨_, rfl⟩
  have HR : Hid (∀ W, Calls Tryd.prog 22 #[.int .i64 4, .int .i64 (m.get b), .int .i64 (m.get c)] W fun e w' => e = .returned (.int .i64 r) ∧ W = w') := fun W => hr ▸ reckon_any 4 (m.get b) (m.get c) (by omega) W
  have HQ := Lib.hid hr
  clear hr
  go_still_tail 20, (by kernel_rfl)
  still_call ((HR.out W0.drew).mono fun _ _ h => ⟨h.1, h.2.symm⟩)
  repeat still_step
  refine wpStill_nil ?_
  change wpList _ _ _ _ _ W0.drew
  go_wp2
  go_returns
  refine ⟨rfl, ?_⟩
  rw [HQ.out]
  exact (post_put H.out F.out a ha r).drew
set_option maxRecDepth 100000 in
set_option maxHeartbeats 4000000 in
theorem do_reck5 (w : World) (g : Nat) (e : Ev) (o : Rest) (vp vs : Value) (P : List Ins) (fan : Int) (m : Ma) (h : Mach w g e o vp vs P fan m) (a : Nat) (b : Nat) (c : Nat) (d : Int) (ha : a < 8) (hb : b < 8) (hc : c < 8) :
    Calls Tryd.prog 16 #[.pointer (some ⟨g, 0, none⟩), .agg #[.int .i64 5, .int .i64 a, .int .i64 b, .int .i64 c, .int .i64 d]] w fun en w' => en = .returned (.tuple #[]) ∧ DoPost g e o vp vs P fan (m.put a (reck 5 (m.get b) (m.get c))) w w' := by
  have hg0 := h.blk.lt
  have ha2 : (a : Int) < 8 := by omega
  have hb2 : (b : Int) < 8 := by omega
  have hc2 : (c : Int) < 8 := by omega
  have f0 : Fresh w (w.alloc (.cells #[.int .i64 5, .int .i64 a, .int .i64 b, .int .i64 c, .int .i64 d] 41)) := (Keep.refl _ _).alloc _
  have b0 := Blk.new w 41 #[.int .i64 5, .int .i64 a, .int .i64 b, .int .i64 c, .int .i64 d]
  have h0 := h.fresh f0
  clear h
  go_enter Tryd.func16, Tryd.ntmps16
  go_wp2
  obtain ⟨W0, hW0⟩ : ∃ W0, w.alloc (.cells #[.int .i64 5, .int .i64 a, .int .i64 b, .int .i64 c, .int .i64 d] 41) = W0 := ⟨_, rfl⟩
  rw [hW0] at f0 b0 h0 ⊢
  have hg := h0.blk.lt
  have hf := h0.blk.frozen
  have hx := b0.cell
  have hxl := b0.lt
  have ca := h0.get a ha
  have cb := h0.get b hb
  have cc := h0.get c hc
  obtain ⟨k0, k4, k5, k6, k7, k16, k17, k18⟩ := h0.cells
  have H := Lib.hid h0
  have F := Lib.hid f0
  have B := Lib.hid b0
  clear h0 f0 hW0 b0
  obtain ⟨r, hr⟩ : ∃ r, reck 5 (m.get b) (m.get c) = r := ⟨_, rfl⟩
  have HR : Hid (∀ W, Calls Tryd.prog 22 #[.int .i64 5, .int .i64 (m.get b), .int .i64 (m.get c)] W fun e w' => e = .returned (.int .i64 r) ∧ W = w') := fun W => hr ▸ reckon_any 5 (m.get b) (m.get c) (by omega) W
  have HQ := Lib.hid hr
  clear hr
  go_still_tail 20, (by kernel_rfl)
  still_call ((HR.out W0.drew).mono fun _ _ h => ⟨h.1, h.2.symm⟩)
  repeat still_step
  refine wpStill_nil ?_
  change wpList _ _ _ _ _ W0.drew
  go_wp2
  go_returns
  refine ⟨rfl, ?_⟩
  rw [HQ.out]
  exact (post_put H.out F.out a ha r).drew
set_option maxRecDepth 100000 in
set_option maxHeartbeats 4000000 in
theorem do_reck6 (w : World) (g : Nat) (e : Ev) (o : Rest) (vp vs : Value) (P : List Ins) (fan : Int) (m : Ma) (h : Mach w g e o vp vs P fan m) (a : Nat) (b : Nat) (c : Nat) (d : Int) (ha : a < 8) (hb : b < 8) (hc : c < 8) :
    Calls Tryd.prog 16 #[.pointer (some ⟨g, 0, none⟩), .agg #[.int .i64 6, .int .i64 a, .int .i64 b, .int .i64 c, .int .i64 d]] w fun en w' => en = .returned (.tuple #[]) ∧ DoPost g e o vp vs P fan (m.put a (reck 6 (m.get b) (m.get c))) w w' := by
  have hg0 := h.blk.lt
  have ha2 : (a : Int) < 8 := by omega
  have hb2 : (b : Int) < 8 := by omega
  have hc2 : (c : Int) < 8 := by omega
  have f0 : Fresh w (w.alloc (.cells #[.int .i64 6, .int .i64 a, .int .i64 b, .int .i64 c, .int .i64 d] 41)) := (Keep.refl _ _).alloc _
  have b0 := Blk.new w 41 #[.int .i64 6, .int .i64 a, .int .i64 b, .int .i64 c, .int .i64 d]
  have h0 := h.fresh f0
  clear h
  go_enter Tryd.func16, Tryd.ntmps16
  go_wp2
  obtain ⟨W0, hW0⟩ : ∃ W0, w.alloc (.cells #[.int .i64 6, .int .i64 a, .int .i64 b, .int .i64 c, .int .i64 d] 41) = W0 := ⟨_, rfl⟩
  rw [hW0] at f0 b0 h0 ⊢
  have hg := h0.blk.lt
  have hf := h0.blk.frozen
  have hx := b0.cell
  have hxl := b0.lt
  have ca := h0.get a ha
  have cb := h0.get b hb
  have cc := h0.get c hc
  obtain ⟨k0, k4, k5, k6, k7, k16, k17, k18⟩ := h0.cells
  have H := Lib.hid h0
  have F := Lib.hid f0
  have B := Lib.hid b0
  clear h0 f0 hW0 b0
  obtain ⟨r, hr⟩ : ∃ r, reck 6 (m.get b) (m.get c) = r := ⟨_, rfl⟩
  have HR : Hid (∀ W, Calls Tryd.prog 22 #[.int .i64 6, .int .i64 (m.get b), .int .i64 (m.get c)] W fun e w' => e = .returned (.int .i64 r) ∧ W = w') := fun W => hr ▸ reckon_any 6 (m.get b) (m.get c) (by omega) W
  have HQ := Lib.hid hr
  clear hr
  go_still_tail 20, (by kernel_rfl)
  still_call ((HR.out W0.drew).mono fun _ _ h => ⟨h.1, h.2.symm⟩)
  repeat still_step
  refine wpStill_nil ?_
  change wpList _ _ _ _ _ W0.drew
  go_wp2
  go_returns
  refine ⟨rfl, ?_⟩
  rw [HQ.out]
  exact (post_put H.out F.out a ha r).drew
set_option maxRecDepth 100000 in
set_option maxHeartbeats 4000000 in
theorem do_reck7 (w : World) (g : Nat) (e : Ev) (o : Rest) (vp vs : Value) (P : List Ins) (fan : Int) (m : Ma) (h : Mach w g e o vp vs P fan m) (a : Nat) (b : Nat) (c : Nat) (d : Int) (ha : a < 8) (hb : b < 8) (hc : c < 8) :
    Calls Tryd.prog 16 #[.pointer (some ⟨g, 0, none⟩), .agg #[.int .i64 7, .int .i64 a, .int .i64 b, .int .i64 c, .int .i64 d]] w fun en w' => en = .returned (.tuple #[]) ∧ DoPost g e o vp vs P fan (m.put a (reck 7 (m.get b) (m.get c))) w w' := by
  have hg0 := h.blk.lt
  have ha2 : (a : Int) < 8 := by omega
  have hb2 : (b : Int) < 8 := by omega
  have hc2 : (c : Int) < 8 := by omega
  have f0 : Fresh w (w.alloc (.cells #[.int .i64 7, .int .i64 a, .int .i64 b, .int .i64 c, .int .i64 d] 41)) := (Keep.refl _ _).alloc _
  have b0 := Blk.new w 41 #[.int .i64 7, .int .i64 a, .int .i64 b, .int .i64 c, .int .i64 d]
  have h0 := h.fresh f0
  clear h
  go_enter Tryd.func16, Tryd.ntmps16
  go_wp2
  obtain ⟨W0, hW0⟩ : ∃ W0, w.alloc (.cells #[.int .i64 7, .int .i64 a, .int .i64 b, .int .i64 c, .int .i64 d] 41) = W0 := ⟨_, rfl⟩
  rw [hW0] at f0 b0 h0 ⊢
  have hg := h0.blk.lt
  have hf := h0.blk.frozen
  have hx := b0.cell
  have hxl := b0.lt
  have ca := h0.get a ha
  have cb := h0.get b hb
  have cc := h0.get c hc
  obtain ⟨k0, k4, k5, k6, k7, k16, k17, k18⟩ := h0.cells
  have H := Lib.hid h0
  have F := Lib.hid f0
  have B := Lib.hid b0
  clear h0 f0 hW0 b0
  obtain ⟨r, hr⟩ : ∃ r, reck 7 (m.get b) (m.get c) = r := ⟨_, rfl⟩
  have HR : Hid (∀ W, Calls Tryd.prog 22 #[.int .i64 7, .int .i64 (m.get b), .int .i64 (m.get c)] W fun e w' => e = .returned (.int .i64 r) ∧ W = w') := fun W => hr ▸ reckon_any 7 (m.get b) (m.get c) (by omega) W
  have HQ := Lib.hid hr
  clear hr
  go_still_tail 20, (by kernel_rfl)
  still_call ((HR.out W0.drew).mono fun _ _ h => ⟨h.1, h.2.symm⟩)
  repeat still_step
  refine wpStill_nil ?_
  change wpList _ _ _ _ _ W0.drew
  go_wp2
  go_returns
  refine ⟨rfl, ?_⟩
  rw [HQ.out]
  exact (post_put H.out F.out a ha r).drew
end Go.Proofs.YtmamgpgigghocaaDoor
