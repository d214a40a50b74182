/-
  mail.Net[int].those, as To calls it.
-/
import Derived.Test.YtgakggkffapnlaaIterInt
namespace Go.Proofs.Ytgakggkffapnlaa.R_int
open Go.RowKit Go.Shelf
attribute [local go_sem ↓] Go.wp_at_zero Go.wp_at_succ

/-- what those leaves -/
def ThosePTo (l : List Pk) (pr : Pk → Bool) (w : World) (e : Ending) (w' : World) : Prop :=
  ∃ v', e = .returned (.func (.func 45) #[] #[.pointer (some ⟨w.heap.size, 0, none⟩)]) ∧ Blk w' w.heap.size 58 #[v'] ∧ OwnS w' 41 4 v' (l.filter pr).length (cells (l.filter pr)) ∧ Fresh w w' ∧ (∀ k, v'.ownBlock = some k → w.heap.size ≤ k)
theorem thoseTo_nil (fv : Value) (w : World) :
    Calls Try.prog 30 #[.pointer none, fv] w fun e w' => e = .returned (.func (.func 45) #[] #[.pointer (some ⟨w.heap.size, 0, none⟩)]) ∧ w' = w.alloc (.cells #[.slice none 0 0] 58) := by
  have hmf : ∀ (fn : Fn) (first cap : Array Value) (w : World), (Instr.makeFunc fn first cap).run Try.prog w = .ok (.func fn first cap) w := fun _ _ _ _ => rfl
  go_enter Try.func30, Try.ntmps30
  go_wp2
  go_ret
  exact ⟨rfl, rfl⟩
set_option maxHeartbeats 2000000 in
theorem thoseTo_any (g : Nat) (v : Value) (bx nx : Int) (l : List Pk) (bn : Nat) (pr : Pk → Bool) (w : World) (h : SNet w g v bx nx l) (hl : l.length ≤ 100000)
    (hcl : ∀ (W : World) (p : Pk), Fresh w W → Calls Try.prog 31 #[.agg #[.int .i64 p.no, .int .i64 p.fr, .int .i64 p.to, Value.int .i64 p.x], .pointer (some ⟨bn, 0, none⟩)] W fun e w' => e = .returned (.bool (pr p)) ∧ Fresh W w') :
    Calls Try.prog 30 #[.pointer (some ⟨g, 0, none⟩), .func (.func 31) #[] #[.pointer (some ⟨bn, 0, none⟩)]] w (ThosePTo l pr w) := by
  have hmf : ∀ (fn : Fn) (first cap : Array Value) (w : World), (Instr.makeFunc fn first cap).run Try.prog w = .ok (.func fn first cap) w := fun _ _ _ _ => rfl
  have F0 : Fresh w (w.alloc (.cells #[.slice none 0 0] 58)) := (Keep.refl _ _).alloc _
  have hc := (h.fresh F0).blk.cell
  obtain ⟨A, cap, rfl, hnc, hmc⟩ := h.own.shape
  have hmc : cap ≤ 9223372036854775807 := by unfold maxLen at hmc; omega
  have H := Lib.hid h
  have HC := Lib.hid hcl
  have HF := Lib.hid F0
  have HB := Lib.hid (Blk.new w 58 #[.slice none 0 0])
  obtain ⟨i0, hi, hz0, hz1, hz2⟩ := info_parts info_pk
  have h04 : 0 < 4 := by omega
  clear h hcl F0
  go_enter Try.func30, Try.ntmps30
  go_wp2_with fail
  clear hc
  go_loopg [15] l.length (fun gk u wr => ∃ (k : Nat) (v' : Value), k ≤ l.length ∧ gk = l.length - k ∧ u = .int .i64 k ∧ Blk wr w.heap.size 58 #[v'] ∧ OwnS wr 41 4 v' ((l.take k).filter pr).length (cells ((l.take k).filter pr)) ∧ Fresh w wr ∧ (∀ k, v'.ownBlock = some k → w.heap.size ≤ k))
  case atStart => exact ⟨0, _, Nat.zero_le _, rfl, rfl, HB.out, OwnS.nil _ _ _, HF.out, by simp [Value.ownBlock]⟩
  case round =>
    obtain ⟨k, v', hk, rfl, rfl, hB, hO, hF, hN⟩ := hrel
    have B := Lib.hid hB
    have O := Lib.hid hO
    have F := Lib.hid hF
    have N := Lib.hid hN
    clear hB hO hF hN
    by_cases hlt : k < l.length
    · obtain ⟨p, hp⟩ : ∃ p, l[k]? = some p := ⟨_, List.getElem?_eq_getElem hlt⟩
      obtain ⟨g', off, cap', hv, _, _, _, hc⟩ := (H.out.own.fresh F.out).form (by omega)
      injection hv with e1 e2 e3
      subst e1 e3
      obtain ⟨c0, c1, c2, c3⟩ := cells_at l k p hp
      have c0 := hc _ _ c0
      have c1 := hc _ _ c1
      have c2 := hc _ _ c2
      have c3 := hc _ _ c3
      rw [← Nat.add_assoc] at c1 c2 c3
      have FT : Fresh wr (wr.alloc (.cells #[.int .i64 p.no, .int .i64 p.fr, .int .i64 p.to, Value.int .i64 p.x] 41)) := (Keep.refl _ _).alloc _
      have hcall := HC.out _ p (F.out.step FT (fun _ _ h => h))
      have htk : (l.take (k + 1)).filter pr = (l.take k).filter pr ++ (if pr p then [p] else []) := by
        rw [List.take_add_one, hp, List.filter_append]
        congr 1
        cases hq : pr p <;> simp [hq]
      have TK := Lib.hid htk
      have BT := Lib.hid (Blk.new wr 41 #[.int .i64 p.no, .int .i64 p.fr, .int .i64 p.to, Value.int .i64 p.x])
      have HT := Lib.hid FT
      clear hc hp htk FT
      cases hq : pr p
      · rw [hq] at hcall TK
        have CC := Lib.hid hcall
        have E : Hid ((l.take (k + 1)).filter pr = (l.take k).filter pr) := Lib.hid (by have := TK.out; simpa using this)
        clear hcall hq TK
        go_wp2_with (go_at_call 31; (with_reducible refine CC.out.mono ?_); rintro e w1 ⟨rfl, f1⟩)
        go_roundg (l.length - (k + 1))
        case measure => omega
        case rel =>
          have f2 := HT.out.step f1 (fun _ _ h => h)
          exact ⟨k + 1, v', by omega, rfl, by go_num, Fresh.blk_ f2 B.out, by rw [E.out]; exact O.out.fresh f2, F.out.step f2 (fun _ _ h => h), N.out⟩
      · rw [hq] at hcall TK
        have CC := Lib.hid hcall
        have E : Hid ((l.take (k + 1)).filter pr = (l.take k).filter pr ++ [p]) := Lib.hid (by have := TK.out; simpa using this)
        have hlen : ((l.take k).filter pr).length ≤ k := by
          have h1 := List.length_filter_le pr (l.take k)
          rw [List.length_take] at h1
          omega
        obtain ⟨L, hL⟩ : ∃ L, (l.take k).filter pr = L := ⟨_, rfl⟩
        obtain ⟨m, hm⟩ : ∃ m, L.length = m := ⟨_, rfl⟩
        rw [hL] at O E hlen
        rw [hm] at O hlen
        have HM := Lib.hid hm
        obtain ⟨A2, cap2, rfl, hc2, hm2⟩ := O.out.shape
        have hM1 : m + 1 ≤ maxLen := one_le_maxLen (by omega)
        have hM2 : (m + 1) * 32 ≤ 140737488355328 := by omega
        have NE : Hid ((Value.slice A2 m cap2).ownBlock ≠ some w.heap.size) := Lib.hid (O.out.ne_blk B.out (by decide))
        clear hcall hq TK hL hm
        go_wp2_with (first
          | (go_at_call 31; (with_reducible refine CC.out.mono ?_); rintro e w1 ⟨rfl, f1⟩; have b1 := f1.blk_ (HT.out.blk_ B.out); have t1 := f1.blk_ BT.out; have cb1 := b1.cell; have fb1 := b1.frozen; have lb1 := b1.lt; have ct1 := t1.cell; have lt1 := t1.lt; have F1 := Lib.hid (HT.out.step f1 (fun _ _ h => h)); have B1 := Lib.hid b1; clear f1 b1 t1)
          | (at_builtin; refine wpList_append_OwnS _ rfl _ _ 58 rfl 41 i0 (.agg #[.int .i64 0, .int .i64 0, .int .i64 0, .int .i64 0]) 4 32 Try.underlying58 hi hz0 hz1 hz2 rfl h04 (.slice A2 m cap2) m (cells L) rfl ((O.out.fresh F1.out).alloc _) (.slice (some ⟨w1.heap.size, 0, none⟩) 1 1) 1 (cells [p]) rfl (Src.one_new w1 41 4 #[.int .i64 p.no, .int .i64 p.fr, .int .i64 p.to, Value.int .i64 p.x] rfl) (cells_one _) hM1 hM2 ?_; intro v3 w3 o3 k3 n3; obtain ⟨A3, cap3, rfl, _, _⟩ := o3.shape; have b3 := (B1.out.alloc _).keep k3 NE.out; have c3' := b3.cell; have f3' := b3.frozen; have l3' := b3.lt; have U1 := Lib.hid o3; have U2 := Lib.hid k3; have U3 := Lib.hid n3; have U4 := Lib.hid b3; clear o3 k3 n3 b3 cb1 fb1 ct1))
        go_roundg (l.length - (k + 1))
        case measure => omega
        case rel =>
          refine ⟨k + 1, .slice A3 (m + 1) cap3, by omega, rfl, by go_num, U4.out.set_ 0 _, ?_, ?_, ?_⟩
          · have := U1.out.far (p := ⟨w.heap.size, 0, none⟩) (U1.out.ne_blk U4.out (by decide)) (.slice A3 (m + 1) cap3)
            rw [E.out, cells_append, List.length_append, HM.out]
            exact this
          · have k1 : Fresh w (w1.alloc (.cells #[.int .i64 p.no, .int .i64 p.fr, .int .i64 p.to, Value.int .i64 p.x] 41)) := (F.out.step F1.out (fun _ _ h => h)).alloc _
            exact Keep.setCell (k1.step U2.out (fun i hi e => by have := N.out i e; omega)) (p := ⟨w.heap.size, 0, none⟩) (fun h => by simp at h) _
          · intro i hi
            rcases U3.out i hi with h | h
            · exact N.out i h
            · have := F.out.size
              have := F1.out.size
              simp at h
              omega
    · obtain rfl : k = l.length := by omega
      have hz := O.out
      rw [List.take_length] at hz
      have HZ := Lib.hid hz
      clear hz
      go_wp2_with fail
      go_ret
      exact ⟨v', rfl, B.out, HZ.out, F.out, N.out⟩
end Go.Proofs.Ytgakggkffapnlaa.R_int
