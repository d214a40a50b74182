/-
  vm.Machine.do: Send, where there is room.
-/
import Derived.Test.YtmamgpgigghocaaDoorRegT
namespace Go.Proofs.YtmamgpgigghocaaDoor
open Go.RowKit
attribute [local go_sem ↓] Go.wp_at_zero Go.wp_at_succ

/-- what was read at W1 is read at W, but for one cell, and a block -/
def Reads (W1 : World) (g i : Nat) (B : Option Nat) (W : World) : Prop := ∀ b k v, W1.cell? ⟨b, k, none⟩ = some v → (b = g → k ≠ i) → B ≠ some b → W.cell? ⟨b, k, none⟩ = some v
def SendS (W1 : World) (g : Nat) (B : Option Nat) (u : Value) (W : World) : Prop := Reads W1 g 18 B W ∧ W.cell? ⟨g, 18, none⟩ = some u
theorem Reads.refl (W1 : World) (g i : Nat) (B : Option Nat) : Reads W1 g i B W1 := fun _ _ _ h _ _ => h
theorem Reads.fresh {W1 W W' : World} {g i : Nat} {B : Option Nat} (h : Reads W1 g i B W) (f : Fresh W W') : Reads W1 g i B W' := fun b k v hv h1 h2 => f.cell_ (h b k v hv h1 h2)
theorem Reads.kept {W1 W W' : World} {g i : Nat} {B : Option Nat} (h : Reads W1 g i B W) (f : Keep (fun k => B = some k) W W') : Reads W1 g i B W' := fun b k v hv h1 h2 => by
  have h3 := h b k v hv h1 h2
  exact (f.cell (p := ⟨b, k, none⟩) (World.block_lt_of_cell? W _ h3) h2).trans h3
theorem Reads.set {W1 W : World} {g i : Nat} {B : Option Nat} (h : Reads W1 g i B W) (u : Value) : Reads W1 g i B (W.setCell ⟨g, i, none⟩ u) := fun b k v hv h1 h2 => by
  have h3 := h b k v hv h1 h2
  by_cases hb : b = g
  · subst hb
    exact (World.cell?_setCell_other _ _ _ _ (by intro e; injection e with _ e _; exact h1 rfl e.symm)).trans h3
  · exact (World.cell?_setCell_other _ _ _ _ (by intro e; injection e with e _ _; exact hb e.symm)).trans h3

set_option maxRecDepth 100000 in
set_option maxHeartbeats 4000000 in
theorem do_send_yes (w : World) (g : Nat) (e : Ev) (o : Rest) (vp vs : Value) (P : List Ins) (fan : Int) (m : Ma) (h : Mach w g e o vp vs P fan m) (a : Nat) (b : Nat) (c : Nat) (d : Int) (ha : a < 8) (hb : b < 8) (hc : c < 8) (hlt : ((outs fan m).length : Int) < fan) (hsl : m.sent.length ≤ 100000) :
    Calls Tryd.prog 16 #[.pointer (some ⟨g, 0, none⟩), .agg #[.int .i64 14, .int .i64 a, .int .i64 b, .int .i64 c, .int .i64 d]] w fun en w' => en = .returned (.tuple #[]) ∧ DoPost g e o vp vs P fan ({ m with sent := m.sent ++ [⟨m.get a, m.get b, d, m.get c⟩] }) w w' := by
  have hg0 := h.blk.lt
  have ha2 : (a : Int) < 8 := by omega
  have hb2 : (b : Int) < 8 := by omega
  have hc2 : (c : Int) < 8 := by omega
  have f0 : Fresh w (w.alloc (.cells #[.int .i64 14, .int .i64 a, .int .i64 b, .int .i64 c, .int .i64 d] 41)) := (Keep.refl _ _).alloc _
  have b0 := Blk.new w 41 #[.int .i64 14, .int .i64 a, .int .i64 b, .int .i64 c, .int .i64 d]
  have h0 := h.fresh f0
  clear h
  go_enter Tryd.func16, Tryd.ntmps16
  go_wp2
  obtain ⟨W0, hW0⟩ : ∃ W0, w.alloc (.cells #[.int .i64 14, .int .i64 a, .int .i64 b, .int .i64 c, .int .i64 d] 41) = W0 := ⟨_, rfl⟩
  rw [hW0] at f0 b0 h0 ⊢
  have hg := h0.blk.lt
  have hf := h0.blk.frozen
  have hx := b0.cell
  have hxl := b0.lt
  have ca := h0.get a ha
  have cb := h0.get b hb
  have cc := h0.get c hc
  obtain ⟨k0, k4, k5, k6, k7, k16, k17, k18⟩ := h0.cells
  have H := Lib.hid h0
  have F := Lib.hid f0
  have B := Lib.hid b0
  clear h0 f0 hW0 b0
  obtain ⟨Av, capv, rfl, hcv, hmv⟩ := H.out.out.shape
  have hmv : capv ≤ 9223372036854775807 := by unfold maxLen at hmv; omega
  have HL := Lib.hid hlt
  have t1 : decide (((outs fan m).length : Int) < fan) = true := decide_eq_true hlt
  obtain ⟨n, hn⟩ : ∃ n, (outs fan m).length = n := ⟨_, rfl⟩
  have HN := Lib.hid hn
  rw [hn] at t1 k18
  clear hn hlt
  go_quiet (fail)
  obtain ⟨W1, hW1⟩ : ∃ W1, W0.drewN nq = W1 := ⟨_, rfl⟩
  have F1 := Lib.hid (F.out.drewN nq)
  have h1 := H.out.fresh ((Keep.refl _ _).drewN nq)
  have b1 := B.out.drewN nq
  rw [hW1] at F1 h1 b1 ⊢
  have ho := h1.out
  have hoff := h1.off
  rw [HN.out] at h1 ho hoff
  have hle : n ≤ 100000 := by
    have := HN.out
    unfold outs at this
    rw [List.length_take] at this
    omega
  have hg1 := h1.blk.lt
  have hf1 := h1.blk.frozen
  have hx1 := b1.cell
  have hxl1 := b1.lt
  have ca1 := h1.get a ha
  have cb1 := h1.get b hb
  have cc1 := h1.get c hc
  obtain ⟨_, _, _, _, _, _, _, k18'⟩ := h1.cells
  have B1 := Lib.hid b1
  have H1 := Lib.hid h1
  have HO := Lib.hid ho
  have OFF := Lib.hid hoff
  have XB : Hid ((Value.slice Av n capv).ownBlock ≠ some w.heap.size) := ho.ne_blk b1 (by decide)
  clear hW1 h1 b1 ho hoff k0 k4 k5 k6 k7 k16 k17 k18 ca cb cc hx hf hg hxl t1 hcv
  have Ho : Hid (OwnS (W1.drew.alloc (.cells #[.int .i64 (m.get a), .int .i64 (m.get b), .int .i64 d, .int .i64 (m.get c)] 37)) 37 4 (.slice Av n capv) n (ecells (outs fan m))) := HO.out.drew.alloc _
  have HC : Hid (Src (W1.drew.alloc (.cells #[.int .i64 (m.get a), .int .i64 (m.get b), .int .i64 d, .int .i64 (m.get c)] 37)) 4 (.slice (some ⟨W1.heap.size, 0, none⟩) 1 1) 1 (ecells [⟨m.get a, m.get b, d, m.get c⟩])) := Src.one_new W1.drew 37 4 #[.int .i64 (m.get a), .int .i64 (m.get b), .int .i64 d, .int .i64 (m.get c)] rfl
  have HB : Hid (∀ w3, Keep (fun k => (Value.slice Av n capv).ownBlock = some k) (W1.drew.alloc (.cells #[.int .i64 (m.get a), .int .i64 (m.get b), .int .i64 d, .int .i64 (m.get c)] 37)) w3 → Blk w3 g 52 (marr e o vp (.slice Av n capv) fan m)) := fun w3 k3 => ((H1.out.blk.drew).alloc _).keep k3 OFF.out.2.1
  obtain ⟨i0, hi, hz0, hz1, hz2⟩ := info_parts info_emit
  have h04 : 0 < 4 := by omega
  have hL1 : n + 1 ≤ maxLen := one_le_maxLen (by omega)
  have hL2 : (n + 1) * 32 ≤ 140737488355328 := by omega
  have FIN : Hid (∀ (A3 : Option Addr) (cap3 : Nat) (w3 : World), OwnS w3 37 4 (.slice A3 (n + 1) cap3) (n + 1) (ecells (outs fan m) ++ ecells [⟨m.get a, m.get b, d, m.get c⟩]) → Keep (fun k => (Value.slice Av n capv).ownBlock = some k) (W1.drew.alloc (.cells #[.int .i64 (m.get a), .int .i64 (m.get b), .int .i64 d, .int .i64 (m.get c)] 37)) w3 →
      (∀ k, (Value.slice A3 (n + 1) cap3).ownBlock = some k → (Value.slice Av n capv).ownBlock = some k ∨ (W1.drew.alloc (.cells #[.int .i64 (m.get a), .int .i64 (m.get b), .int .i64 d, .int .i64 (m.get c)] 37)).heap.size ≤ k) →
      Blk w3 g 52 (marr e o vp (.slice Av n capv) fan m) → DoPost g e o vp (.slice Av (outs fan m).length capv) P fan { m with sent := m.sent ++ [⟨m.get a, m.get b, d, m.get c⟩] } w (w3.setCell ⟨g, 18, none⟩ (.slice A3 (n + 1) cap3))) := fun A3 cap3 w3 o3 k3 n3 b3 => by
    have hl := HL.out
    have hn := HN.out
    have hne := o3.ne_blk b3 (by decide)
    have e2 : outs fan { m with sent := m.sent ++ [⟨m.get a, m.get b, d, m.get c⟩] } = outs fan m ++ [⟨m.get a, m.get b, d, m.get c⟩] := by
      unfold outs at hl hn ⊢
      rw [List.length_take] at hl hn
      simp only
      rw [List.take_append, List.take_of_length_le (l := m.sent) (by omega), List.take_of_length_le (by simp; omega)]
    rw [hn]
    refine ⟨.slice A3 (n + 1) cap3, ⟨?_, ?_, ?_, H1.out.len⟩, ?_, ?_⟩
    · have := b3.set_ 18 (.slice A3 (n + 1) cap3)
      rw [marr_out H1.out.len _ (m.sent ++ [⟨m.get a, m.get b, d, m.get c⟩])] at this
      exact this
    · exact ((H1.out.prog.drew.alloc _).kept k3 OFF.out.2.2).far (p := ⟨g, 18, none⟩) OFF.out.1 _
    · have := o3.far (p := ⟨g, 18, none⟩) hne (.slice A3 (n + 1) cap3)
      rw [e2, ecells_append, List.length_append, hn]
      exact this
    · exact (((F1.out.more (fun _ _ h => h.elim)).drew.alloc _).step k3 (fun k _ hk => .inr hk)).setCell (fun _ => .inl rfl) _
    · intro k hk
      rcases n3 k hk with h | h
      · exact .inl h
      · right
        have := F1.out.size
        simp at h
        omega
  have a0 : (0 : Int) ≤ (a : Int) := by omega
  have b0 : (0 : Int) ≤ (b : Int) := by omega
  have c0 : (0 : Int) ≤ (c : Int) := by omega
  go_wp2_with fail
  have KA := (Reads.refl W1 g 18 (Value.slice Av n capv).ownBlock)
  have kx := fun (W : World) (h : SendS W1 g (Value.slice Av n capv).ownBlock (.slice Av n capv) W) => h.1 g (8 + a) _ ca1 (fun _ => by omega) OFF.out.2.1
  have ky := fun (W : World) (h : SendS W1 g (Value.slice Av n capv).ownBlock (.slice Av n capv) W) => h.1 g (8 + b) _ cb1 (fun _ => by omega) OFF.out.2.1
  have kz := fun (W : World) (h : SendS W1 g (Value.slice Av n capv).ownBlock (.slice Av n capv) W) => h.1 g (8 + c) _ cc1 (fun _ => by omega) OFF.out.2.1
  have ki := fun (W : World) (h : SendS W1 g (Value.slice Av n capv).ownBlock (.slice Av n capv) W) (i : Nat) (u : Value) (hu : #[.int .i64 14, .int .i64 a, .int .i64 b, .int .i64 c, .int .i64 d][i]? = some u) => h.1 w.heap.size i u ((hx1 i).trans hu) (fun e => absurd e (by omega)) XB.out
  have kj1 := fun (W : World) (h : SendS W1 g (Value.slice Av n capv).ownBlock (.slice Av n capv) W) => ki W h 1 (.int .i64 a) rfl
  have kj2 := fun (W : World) (h : SendS W1 g (Value.slice Av n capv).ownBlock (.slice Av n capv) W) => ki W h 2 (.int .i64 b) rfl
  have kj3 := fun (W : World) (h : SendS W1 g (Value.slice Av n capv).ownBlock (.slice Av n capv) W) => ki W h 3 (.int .i64 c) rfl
  have kj4 := fun (W : World) (h : SendS W1 g (Value.slice Av n capv).ownBlock (.slice Av n capv) W) => ki W h 4 (.int .i64 d) rfl
  have RK : Hid (∀ w3, Keep (fun k => (Value.slice Av n capv).ownBlock = some k) (W1.drew.alloc (.cells #[.int .i64 (m.get a), .int .i64 (m.get b), .int .i64 d, .int .i64 (m.get c)] 37)) w3 → Reads W1 g 18 (Value.slice Av n capv).ownBlock w3) := fun w3 k3 => (KA.fresh ((Keep.refl _ _).drew.alloc _)).kept k3
  have R0 : Hid (∀ W, Fresh W1 W → Reads W1 g 18 (Value.slice Av n capv).ownBlock W) := fun W f => KA.fresh f
  clear ki KA
  have k18 := fun (W : World) (h : SendS W1 g (Value.slice Av n capv).ownBlock (.slice Av n capv) W) => h.2
  have HS1 : Hid (SendS W1 g (Value.slice Av n capv).ownBlock (.slice Av n capv) W1.drew) := ⟨R0.out _ ((Keep.refl _ _).drew), k18'⟩
  refine region_T (S := SendS W1 g (Value.slice Av n capv).ownBlock (.slice Av n capv)) (T := [28, 29, 30]) (by kernel_rfl) ?_
  refine anyT_take (i := 0) (oi := _) (v := ?v0) rfl (by kernel_rfl) (by kernel_rfl) (by kernel_rfl) (by kernel_rfl) (fun _ _ _ h => h) (Or.inl ⟨by rfl, ?hy0⟩) HS1.out ?rest0
  case hy0 => (intro W hSw; go_simp; try with_reducible rfl)
  try simp only [List.getElem_toArray, List.getElem_cons_zero, List.getElem_cons_succ, Act.put, List.setIfInBounds_toArray, List.set_cons_zero, List.set_cons_succ]
  refine anyT_take (i := 1) (oi := _) (v := ?v1) rfl (by kernel_rfl) (by kernel_rfl) (by kernel_rfl) (by kernel_rfl) (fun _ _ _ h => h) (Or.inl ⟨by rfl, ?hy1⟩) HS1.out ?rest1
  case hy1 => (intro W hSw; go_simp; try with_reducible rfl)
  try simp only [List.getElem_toArray, List.getElem_cons_zero, List.getElem_cons_succ, Act.put, List.setIfInBounds_toArray, List.set_cons_zero, List.set_cons_succ]
  refine anyT_take (i := 2) (oi := _) (v := ?v2) rfl (by kernel_rfl) (by kernel_rfl) (by kernel_rfl) (by kernel_rfl) (fun _ _ _ h => h) (Or.inl ⟨by rfl, ?hy2⟩) HS1.out ?rest2
  case hy2 => (intro W hSw; go_simp; try with_reducible rfl)
  try simp only [List.getElem_toArray, List.getElem_cons_zero, List.getElem_cons_succ, Act.put, List.setIfInBounds_toArray, List.set_cons_zero, List.set_cons_succ]
  refine anyT_take (i := 3) (oi := _) (v := ?v3) rfl (by kernel_rfl) (by kernel_rfl) (by kernel_rfl) (by kernel_rfl) (fun _ _ _ h => h) (Or.inl ⟨by rfl, ?hy3⟩) HS1.out ?rest3
  case hy3 => (intro W hSw; go_simp; try with_reducible rfl)
  try simp only [List.getElem_toArray, List.getElem_cons_zero, List.getElem_cons_succ, Act.put, List.setIfInBounds_toArray, List.set_cons_zero, List.set_cons_succ]
  refine anyT_take (i := 4) (oi := _) (v := ?v4) rfl (by kernel_rfl) (by kernel_rfl) (by kernel_rfl) (by kernel_rfl) (fun _ _ _ h => h) (Or.inl ⟨by rfl, ?hy4⟩) HS1.out ?rest4
  case hy4 => (intro W hSw; go_simp; try with_reducible rfl)
  try simp only [List.getElem_toArray, List.getElem_cons_zero, List.getElem_cons_succ, Act.put, List.setIfInBounds_toArray, List.set_cons_zero, List.set_cons_succ]
  refine anyT_take (i := 5) (oi := _) (v := ?v5) rfl (by kernel_rfl) (by kernel_rfl) (by kernel_rfl) (by kernel_rfl) (fun _ _ _ h => h) (Or.inl ⟨by rfl, ?hy5⟩) HS1.out ?rest5
  case hy5 => (intro W hSw; go_simp; try with_reducible rfl)
  try simp only [List.getElem_toArray, List.getElem_cons_zero, List.getElem_cons_succ, Act.put, List.setIfInBounds_toArray, List.set_cons_zero, List.set_cons_succ]
  refine anyT_take (i := 6) (oi := _) (v := ?v6) rfl (by kernel_rfl) (by kernel_rfl) (by kernel_rfl) (by kernel_rfl) (fun _ _ _ h => h) (Or.inl ⟨by rfl, ?hy6⟩) HS1.out ?rest6
  case hy6 => (intro W hSw; go_simp; try with_reducible rfl)
  try simp only [List.getElem_toArray, List.getElem_cons_zero, List.getElem_cons_succ, Act.put, List.setIfInBounds_toArray, List.set_cons_zero, List.set_cons_succ]
  refine anyT_take (i := 7) (oi := _) (v := ?v7) rfl (by kernel_rfl) (by kernel_rfl) (by kernel_rfl) (by kernel_rfl) (fun _ _ _ h => h) (Or.inl ⟨by rfl, ?hy7⟩) HS1.out ?rest7
  case hy7 => (intro W hSw; go_simp; try with_reducible rfl)
  try simp only [List.getElem_toArray, List.getElem_cons_zero, List.getElem_cons_succ, Act.put, List.setIfInBounds_toArray, List.set_cons_zero, List.set_cons_succ]
  refine anyT_take (i := 8) (oi := _) (v := ?v8) rfl (by kernel_rfl) (by kernel_rfl) (by kernel_rfl) (by kernel_rfl) (fun _ _ _ h => h) (Or.inl ⟨by rfl, ?hy8⟩) HS1.out ?rest8
  case hy8 => (intro W hSw; go_simp; try with_reducible rfl)
  try simp only [List.getElem_toArray, List.getElem_cons_zero, List.getElem_cons_succ, Act.put, List.setIfInBounds_toArray, List.set_cons_zero, List.set_cons_succ]
  refine anyT_take (i := 9) (oi := _) (v := ?v9) rfl (by kernel_rfl) (by kernel_rfl) (by kernel_rfl) (by kernel_rfl) (fun _ _ _ h => h) (Or.inl ⟨by rfl, ?hy9⟩) HS1.out ?rest9
  case hy9 => (intro W hSw; go_simp; try with_reducible rfl)
  try simp only [List.getElem_toArray, List.getElem_cons_zero, List.getElem_cons_succ, Act.put, List.setIfInBounds_toArray, List.set_cons_zero, List.set_cons_succ]
  refine anyT_take (i := 10) (oi := _) (v := ?v10) rfl (by kernel_rfl) (by kernel_rfl) (by kernel_rfl) (by kernel_rfl) (fun _ _ _ h => h) (Or.inl ⟨by rfl, ?hy10⟩) HS1.out ?rest10
  case hy10 => (intro W hSw; go_simp; try with_reducible rfl)
  try simp only [List.getElem_toArray, List.getElem_cons_zero, List.getElem_cons_succ, Act.put, List.setIfInBounds_toArray, List.set_cons_zero, List.set_cons_succ]
  refine anyT_take (i := 11) (oi := _) (v := ?v11) rfl (by kernel_rfl) (by kernel_rfl) (by kernel_rfl) (by kernel_rfl) (fun _ _ _ h => h) (Or.inl ⟨by rfl, ?hy11⟩) HS1.out ?rest11
  case hy11 => (intro W hSw; go_simp; try with_reducible rfl)
  try simp only [List.getElem_toArray, List.getElem_cons_zero, List.getElem_cons_succ, Act.put, List.setIfInBounds_toArray, List.set_cons_zero, List.set_cons_succ]
  refine anyT_take (i := 12) (oi := _) (v := ?v12) rfl (by kernel_rfl) (by kernel_rfl) (by kernel_rfl) (by kernel_rfl) (fun _ _ _ h => h) (Or.inl ⟨by rfl, ?hy12⟩) HS1.out ?rest12
  case hy12 => (intro W hSw; go_simp; try with_reducible rfl)
  try simp only [List.getElem_toArray, List.getElem_cons_zero, List.getElem_cons_succ, Act.put, List.setIfInBounds_toArray, List.set_cons_zero, List.set_cons_succ]
  refine anyT_take (i := 13) (oi := _) (v := ?v13) rfl (by kernel_rfl) (by kernel_rfl) (by kernel_rfl) (by kernel_rfl) (fun _ _ _ h => h) (Or.inl ⟨by rfl, ?hy13⟩) HS1.out ?rest13
  case hy13 => (intro W hSw; go_simp; try with_reducible rfl)
  try simp only [List.getElem_toArray, List.getElem_cons_zero, List.getElem_cons_succ, Act.put, List.setIfInBounds_toArray, List.set_cons_zero, List.set_cons_succ]
  refine anyT_take (i := 14) (oi := _) (v := ?v14) rfl (by kernel_rfl) (by kernel_rfl) (by kernel_rfl) (by kernel_rfl) (fun _ _ _ h => h) (Or.inl ⟨by rfl, ?hy14⟩) HS1.out ?rest14
  case hy14 => (intro W hSw; go_simp; try with_reducible rfl)
  try simp only [List.getElem_toArray, List.getElem_cons_zero, List.getElem_cons_succ, Act.put, List.setIfInBounds_toArray, List.set_cons_zero, List.set_cons_succ]
  refine anyT_take (i := 15) (oi := _) (v := ?v15) rfl (by kernel_rfl) (by kernel_rfl) (by kernel_rfl) (by kernel_rfl) (fun _ _ _ h => h) (Or.inl ⟨by rfl, ?hy15⟩) HS1.out ?rest15
  case hy15 => (intro W hSw; go_simp; try with_reducible rfl)
  try simp only [List.getElem_toArray, List.getElem_cons_zero, List.getElem_cons_succ, Act.put, List.setIfInBounds_toArray, List.set_cons_zero, List.set_cons_succ]
  refine anyT_take (i := 16) (oi := _) (v := ?v16) rfl (by kernel_rfl) (by kernel_rfl) (by kernel_rfl) (by kernel_rfl) (fun _ _ _ h => h) (Or.inl ⟨by rfl, ?hy16⟩) HS1.out ?rest16
  case hy16 => (intro W hSw; go_simp; try with_reducible rfl)
  try simp only [List.getElem_toArray, List.getElem_cons_zero, List.getElem_cons_succ, Act.put, List.setIfInBounds_toArray, List.set_cons_zero, List.set_cons_succ]
  refine anyT_take (i := 17) (oi := _) (v := ?v17) rfl (by kernel_rfl) (by kernel_rfl) (by kernel_rfl) (by kernel_rfl) (fun _ _ _ h => h) (Or.inl ⟨by rfl, ?hy17⟩) HS1.out ?rest17
  case hy17 => (intro W hSw; go_simp; try with_reducible rfl)
  try simp only [List.getElem_toArray, List.getElem_cons_zero, List.getElem_cons_succ, Act.put, List.setIfInBounds_toArray, List.set_cons_zero, List.set_cons_succ]
  refine anyT_take (i := 18) (oi := _) (v := ?v18) rfl (by kernel_rfl) (by kernel_rfl) (by kernel_rfl) (by kernel_rfl) (fun _ _ _ h => h) (Or.inl ⟨by rfl, ?hy18⟩) HS1.out ?rest18
  case hy18 => (intro W hSw; go_simp; try with_reducible rfl)
  try simp only [List.getElem_toArray, List.getElem_cons_zero, List.getElem_cons_succ, Act.put, List.setIfInBounds_toArray, List.set_cons_zero, List.set_cons_succ]
  refine anyT_take (i := 19) (oi := _) (v := ?v19) rfl (by kernel_rfl) (by kernel_rfl) (by kernel_rfl) (by kernel_rfl) (fun _ _ _ h => h) (Or.inl ⟨by rfl, ?hy19⟩) HS1.out ?rest19
  case hy19 => (intro W hSw; go_simp; try with_reducible rfl)
  try simp only [List.getElem_toArray, List.getElem_cons_zero, List.getElem_cons_succ, Act.put, List.setIfInBounds_toArray, List.set_cons_zero, List.set_cons_succ]
  refine anyT_take (i := 20) (oi := _) (v := ?v20) rfl (by kernel_rfl) (by kernel_rfl) (by kernel_rfl) (by kernel_rfl) (fun _ _ _ h => h) (Or.inl ⟨by rfl, ?hy20⟩) HS1.out ?rest20
  case hy20 => (intro W hSw; go_simp; try with_reducible rfl)
  try simp only [List.getElem_toArray, List.getElem_cons_zero, List.getElem_cons_succ, Act.put, List.setIfInBounds_toArray, List.set_cons_zero, List.set_cons_succ]
  refine anyT_take (i := 21) (oi := _) (v := ?v21) rfl (by kernel_rfl) (by kernel_rfl) (by kernel_rfl) (by kernel_rfl) (fun _ _ _ h => h) (Or.inl ⟨by rfl, ?hy21⟩) HS1.out ?rest21
  case hy21 => (intro W hSw; go_simp; try with_reducible rfl)
  try simp only [List.getElem_toArray, List.getElem_cons_zero, List.getElem_cons_succ, Act.put, List.setIfInBounds_toArray, List.set_cons_zero, List.set_cons_succ]
  refine anyT_take (i := 22) (oi := _) (v := ?v22) rfl (by kernel_rfl) (by kernel_rfl) (by kernel_rfl) (by kernel_rfl) (fun _ _ _ h => h) (Or.inl ⟨by rfl, ?hy22⟩) HS1.out ?rest22
  case hy22 => (intro W hSw; go_simp; try with_reducible rfl)
  try simp only [List.getElem_toArray, List.getElem_cons_zero, List.getElem_cons_succ, Act.put, List.setIfInBounds_toArray, List.set_cons_zero, List.set_cons_succ]
  refine anyT_take (i := 23) (oi := _) (v := ?v23) rfl (by kernel_rfl) (by kernel_rfl) (by kernel_rfl) (by kernel_rfl) (fun _ _ _ h => h) (Or.inl ⟨by rfl, ?hy23⟩) HS1.out ?rest23
  case hy23 => (intro W hSw; go_simp; try with_reducible rfl)
  try simp only [List.getElem_toArray, List.getElem_cons_zero, List.getElem_cons_succ, Act.put, List.setIfInBounds_toArray, List.set_cons_zero, List.set_cons_succ]
  refine anyT_take (i := 24) (oi := _) (v := ?v24) rfl (by kernel_rfl) (by kernel_rfl) (by kernel_rfl) (by kernel_rfl) (fun _ _ _ h => h) (Or.inl ⟨by rfl, ?hy24⟩) HS1.out ?rest24
  case hy24 => (intro W hSw; go_simp; try with_reducible rfl)
  try simp only [List.getElem_toArray, List.getElem_cons_zero, List.getElem_cons_succ, Act.put, List.setIfInBounds_toArray, List.set_cons_zero, List.set_cons_succ]
  refine anyT_take (i := 25) (oi := _) (v := ?v25) rfl (by kernel_rfl) (by kernel_rfl) (by kernel_rfl) (by kernel_rfl) (fun _ _ _ h => h) (Or.inl ⟨by rfl, ?hy25⟩) HS1.out ?rest25
  case hy25 => (intro W hSw; go_simp; try with_reducible rfl)
  try simp only [List.getElem_toArray, List.getElem_cons_zero, List.getElem_cons_succ, Act.put, List.setIfInBounds_toArray, List.set_cons_zero, List.set_cons_succ]
  clear hx1 ca1 cb1 cc1 hf1 hg1 hxl1
  refine anyT_one (i := 26) (by kernel_rfl) rfl rfl (fun K hK => ?_)
  go_simp
  refine hK.out _ _ ?_ ?_
  · exact ⟨R0.out _ ((Keep.refl _ _).drew.alloc _), (Fresh.cell_ ((Keep.refl _ W1.drew).alloc _) k18')⟩
  clear hK K
  try simp only [List.getElem_toArray, List.getElem_cons_zero, List.getElem_cons_succ, Act.put, List.setIfInBounds_toArray, List.set_cons_zero, List.set_cons_succ]
  refine anyT_one (i := 27) (by kernel_rfl) rfl rfl (fun K hK => ?_)
  refine wp_append_OwnS _ (.tmp 144) (.tmp 166) 33 rfl 37 i0 _ 4 32 Tryd.underlying33 hi hz0 hz1 hz2 rfl h04 (.slice Av n capv) n (ecells (outs fan m)) rfl Ho.out (.slice (some ⟨W1.heap.size, 0, none⟩) 1 1) 1 (ecells [⟨m.get a, m.get b, d, m.get c⟩]) rfl HC.out (ecells_one _) hL1 hL2 ?_
  intro v3 w3 o3 k3 n3
  obtain ⟨A3, cap3, rfl, _, _⟩ := o3.shape
  have b3 := HB.out _ k3
  have c3 := (b3.cell 18).trans (marr_18 H1.out.len)
  have f3 := b3.frozen
  have l3 := b3.lt
  refine hK.out _ _ ⟨RK.out _ k3, c3⟩ ?_
  have U1 := Lib.hid o3
  have U2 := Lib.hid k3
  have U3 := Lib.hid n3
  have U4 := Lib.hid b3
  clear hK K o3 k3 n3 b3 kx ky kz kj1 kj2 kj3 kj4 k18
  try simp only [List.getElem_toArray, List.getElem_cons_zero, List.getElem_cons_succ, Act.put, List.setIfInBounds_toArray, List.set_cons_zero, List.set_cons_succ]
  refine anyT_tail (k := 28) rfl (by decide) (by kernel_rfl) ?_
  simp only [List.drop_succ_cons, List.drop_zero]
  go_wp2_with fail
  go_returns
  exact ⟨rfl, FIN.out A3 cap3 w3 U1.out U2.out U3.out U4.out⟩
end Go.Proofs.YtmamgpgigghocaaDoor
