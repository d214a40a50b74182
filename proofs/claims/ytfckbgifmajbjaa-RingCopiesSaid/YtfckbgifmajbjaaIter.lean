/-
  ring.Ring[int].All: what it hands back, and how its rounds go.
-/
import Derived.Test.YtfckbgifmajbjaaOpsP
import Derived.Test.YtfckbgifmajbjaaIterKit
namespace Go.Proofs.Ytfckbgifmajbjaa
open Go.RowKit Go.Shelf
attribute [local go_sem ↓] Go.wp_at_zero Go.wp_at_succ

set_option maxHeartbeats 4000000 in
theorem all_any (g gs off cap room : Nat) (L : List (Int × Int)) (w : World) (h : Held g gs off cap room L w) :
    Calls Try.prog 18 #[.pointer (some ⟨g, 0, none⟩)] w fun e w' => ∃ v', e = .returned (.func (.func 35) #[] #[.pointer (some ⟨w.heap.size, 0, none⟩)]) ∧ Blk w' w.heap.size 58 #[v'] ∧ OwnS w' 66 2 v' L.length (cells L) ∧ Fresh w w' ∧ (∀ k, v'.ownBlock = some k → w.heap.size ≤ k) := by
  obtain ⟨c, first, h⟩ := h
  have hmf : ∀ (fn : Fn) (first cap : Array Value) (w : World), (Instr.makeFunc fn first cap).run Try.prog w = .ok (.func fn first cap) w := fun _ _ _ _ => rfl
  have hl := h.r.len
  have hp := h.r.pos
  have hf := h.r.fst
  have hm := h.r.many
  have f0 : Fresh w (w.alloc (.cells #[.slice none 0 0] 58)) := (Keep.refl _ _).alloc _
  have HS := Lib.hid h
  have F0 := Lib.hid f0
  have B0 := Lib.hid (Blk.new w 58 #[.slice none 0 0])
  have hb := (h.fresh f0).s.blk.cell
  obtain ⟨i0, hi, hz0, hz1, hz2⟩ := info_parts info_row
  have h02 : 0 < 2 := by omega
  clear h f0
  go_enter Try.func18, Try.ntmps18
  go_wp2_with fail
  go_loopg [4, 11] L.length (fun gk a u wr => ∃ (q : Nat) (v' : Value), q ≤ L.length ∧ gk = L.length - q ∧ u = .int .i64 q ∧ Blk wr w.heap.size 58 #[v'] ∧ OwnS wr 66 2 v' q (cells (L.take q)) ∧ Fresh w wr ∧ (∀ k, v'.ownBlock = some k → w.heap.size ≤ k))
  case atStart => exact ⟨0, _, by omega, rfl, rfl, B0.out, OwnS.nil _ _ _, F0.out, by simp [Value.ownBlock]⟩
  case round =>
    obtain ⟨q, v', hq, rfl, rfl, hB, hO, hF, hN⟩ := hrel
    have HB := Lib.hid hB
    have HO := Lib.hid hO
    have HF := Lib.hid hF
    have HN := Lib.hid hN
    have R := Lib.hid (HS.out.fresh hF)
    clear hB hO hF hN hb
    have hb := R.out.s.blk.cell
    have hlt := R.out.s.blk.lt
    have hx := HB.out.cell
    have hxl := HB.out.lt
    have hxf := HB.out.frozen
    obtain ⟨A', cap', rfl, hcv, hmv⟩ := HO.out.shape
    by_cases hqn : q < L.length
    · obtain ⟨x, hxq⟩ : ∃ x, L[q]? = some x := ⟨_, List.getElem?_eq_getElem hqn⟩
      have hnth : c[(first + q) % c.length]? = some x := by
        have := R.out.r.at_ q hqn
        unfold nth at this
        rw [this]
        exact hxq
      have hpl : (first + q) % c.length < c.length := Nat.mod_lt _ (by omega)
      have PL : Hid (∀ W, Fresh wr W → Calls Try.prog 34 #[.pointer (some ⟨g, 0, none⟩), .int .i64 (q : Nat)] W fun e w' => e = .returned (.int .i64 (((first + q) % c.length : Nat) : Int)) ∧ Fresh W w') := fun W f => by
        have hs := (R.out.fresh f).s
        rw [← hl] at hs
        exact place_any g _ c first L.length q W hs (by omega) (by omega) (by omega) (by omega)
      obtain ⟨r, hr⟩ : ∃ r, (first + q) % c.length = r := ⟨_, rfl⟩
      rw [hr] at PL hnth hpl
      obtain ⟨xa, xb⟩ := x
      have CELL : Hid (∀ W, Fresh wr W → (∀ i, W.cell? ⟨g, i, none⟩ = #[.slice (some ⟨gs, off, none⟩) room cap, .int .i64 (first : Nat), .int .i64 (L.length : Nat)][i]?) ∧ (∀ i, W.cell? ⟨w.heap.size, i, none⟩ = #[.slice A' q cap'][i]?) ∧ W.cell? ⟨gs, off + r * 2, none⟩ = some (.int .i64 xa) ∧ W.cell? ⟨gs, off + r * 2 + 1, none⟩ = some (.int .i64 xb) ∧ (∀ i, W.frozen? ⟨w.heap.size, i, none⟩ = false)) := fun W f => by
        obtain ⟨c0, c1⟩ := cells_at _ _ _ hnth
        have ho := (R.out.fresh f).s.own
        rw [hl] at ho
        obtain ⟨_, _, _, _, hc⟩ := ho.at_
        have c0 := hc _ _ c0
        have c1 := hc _ _ c1
        rw [← Nat.add_assoc] at c1
        exact ⟨(R.out.fresh f).s.blk.cell, (f.blk_ HB.out).cell, c0, c1, (f.blk_ HB.out).frozen⟩
      have hr2 : r < room := by omega
      clear hnth hr hpl
      have hM1 : q + 1 ≤ maxLen := one_le_maxLen (by omega)
      have hM2 : (q + 1) * 16 ≤ 140737488355328 := by omega
      have FDR : Fresh wr wr.drew := (Keep.refl _ _).drew
      have HXQ := Lib.hid hxq
      clear hxq
      have OW : Hid (∀ W, Fresh wr W → OwnS W 66 2 (.slice A' q cap') q (cells (L.take q))) := fun W f => HO.out.fresh f
      obtain ⟨d1, d2, d3, d4, d5⟩ := CELL.out _ FDR
      have hcap : q + 1 ≤ 4096 := by omega
      have BX : Hid (∀ W W', Fresh wr W → Keep (fun k => (Value.slice A' q cap').ownBlock = some k) W W' → Blk W' w.heap.size 58 #[.slice A' q cap']) := fun W W' f k =>
        (f.blk_ HB.out).keep k (HO.out.ne_blk HB.out (by decide))
      have FIN : Hid (∀ (wp w3 : World) (A3 : Option Addr) (cap3 : Nat), Fresh wr wp → OwnS w3 66 2 (.slice A3 (q + 1) cap3) (q + 1) (cells (L.take q) ++ cells [(xa, xb)]) → Keep (fun k => (Value.slice A' q cap').ownBlock = some k) (wp.alloc (.cells #[.int .i64 xa, .int .i64 xb] 66)) w3 →
          (∀ k, (Value.slice A3 (q + 1) cap3).ownBlock = some k → (Value.slice A' q cap').ownBlock = some k ∨ (wp.alloc (.cells #[.int .i64 xa, .int .i64 xb] 66)).heap.size ≤ k) →
          Blk (w3.setCell ⟨w.heap.size, 0, none⟩ (.slice A3 (q + 1) cap3)) w.heap.size 58 #[.slice A3 (q + 1) cap3] ∧ OwnS (w3.setCell ⟨w.heap.size, 0, none⟩ (.slice A3 (q + 1) cap3)) 66 2 (.slice A3 (q + 1) cap3) (q + 1) (cells (L.take (q + 1))) ∧ Fresh w (w3.setCell ⟨w.heap.size, 0, none⟩ (.slice A3 (q + 1) cap3)) ∧ (∀ k, (Value.slice A3 (q + 1) cap3).ownBlock = some k → w.heap.size ≤ k)) := fun wp w3 A3 cap3 fp o3 k3 n3 => by
        have fq : Fresh wr (wp.alloc (.cells #[.int .i64 xa, .int .i64 xb] 66)) := fp.alloc _
        have b3 := BX.out _ _ fq k3
        have hne := o3.ne_blk b3 (by decide)
        have hs1 := HF.out.size
        have hs2 := fq.size
        refine ⟨?_, ?_, ?_, ?_⟩
        · have := b3.set_ 0 (.slice A3 (q + 1) cap3)
          simpa using this
        · have := o3.far (p := ⟨w.heap.size, 0, none⟩) hne (.slice A3 (q + 1) cap3)
          rw [List.take_add_one, HXQ.out, show (some (xa, xb)).toList = [(xa, xb)] from rfl, cells_append]
          exact this
        · have f3 : Fresh w w3 := (HF.out.step fq (fun _ _ h => h)).step k3 (fun i hi e => by have := HN.out i e; omega)
          exact Keep.setCell f3 (p := ⟨w.heap.size, 0, none⟩) (fun h => by simp at h) _
        · intro k hk
          rcases n3 k hk with e | e
          · exact HN.out k e
          · omega
      go_wp2_with fail
      go_region_law (first
        | (refine step_append_OwnS _ (by rfl) _ _ 58 (by rfl) 66 i0 _ 2 16 Try.underlying58 hi hz0 hz1 hz2 (by rfl) h02 (.slice A' q cap') q (cells (L.take q)) (by rfl) (OW.out _ (Keep.alloc fp _)) (.slice (some ⟨wp.heap.size, 0, none⟩) 1 1) 1 (cells [(xa, xb)]) (by rfl) (Src.one_new wp 66 2 #[.int .i64 xa, .int .i64 xb] rfl) (cells_one _) hM1 hM2 ?_; intro v3 w3 o3 k3 n3; obtain ⟨A3, cap3, rfl, _, _⟩ := o3.shape; have b3 := BX.out _ _ (Keep.alloc fp _) k3; have cb3 := b3.cell; have fb3 := b3.frozen; have lb3 := b3.lt; have O3 := Lib.hid (FIN.out _ _ _ _ fp o3 k3 n3); clear o3 k3 n3 b3)
        | (rw [if_pos (by simp [Region.wanted])]; go_simp; go_at_call 34; (with_reducible refine (PL.out _ FDR).mono ?_); rintro e wp ⟨rfl, fp⟩; have fp := FDR.step fp (fun _ _ h => h); obtain ⟨p1, p2, p3, p4, p5⟩ := CELL.out _ fp; have lp := (Fresh.blk_ fp HB.out).lt; have lp2 := (R.out.fresh fp).s.blk.lt))
      all_goals go_wp2_with fail
      all_goals go_roundg (L.length - (q + 1))
      all_goals first
        | omega
        | exact ⟨q + 1, _, by omega, rfl, by go_num, O3.out.1, O3.out.2.1, O3.out.2.2.1, O3.out.2.2.2⟩
    · obtain rfl : q = L.length := by omega
      go_wp2_with fail
      go_ret
      refine ⟨_, rfl, HB.out, ?_, HF.out, HN.out⟩
      have := HO.out
      rw [List.take_length] at this
      exact this
end Go.Proofs.Ytfckbgifmajbjaa
