/-
  The document's ring: Upto, Front, Back.
-/
import Derived.Test.YtfckbgifmajbjaaRef
namespace Go.Proofs.Ytfckbgifmajbjaa
open Go.RowKit
attribute [local go_sem ↓] Go.wp_at_zero Go.wp_at_succ

theorem ups_take {L : List (Int × Int)} (h : Asc L) (t : Int) {q : Nat} {x : Int × Int} (hx : L[q]? = some x) : ups (L.take (q + 1)) t = if x.1 ≤ t then q + 1 else ups (L.take q) t := by
  have hq := (List.getElem?_eq_some_iff.1 hx).1
  have e : L.take (q + 1) = L.take q ++ [x] := by rw [List.take_add_one, hx]; rfl
  unfold ups
  rw [e, List.countP_append, List.countP_singleton]
  by_cases hc : x.1 ≤ t
  · rw [if_pos (by simpa using hc), if_pos hc]
    have : (L.take q).countP (fun s => decide (s.1 ≤ t)) = (L.take q).length := by
      rw [List.countP_eq_length]
      intro y hy
      obtain ⟨i, hi, rfl⟩ := List.mem_iff_getElem.1 hy
      have hi' : i < q := by simp at hi; omega
      have h3 := h.le (List.getElem?_eq_getElem (show i < L.length by omega)) hx (by omega)
      rw [List.getElem_take]
      exact decide_eq_true (by omega)
    rw [this, List.length_take]
    omega
  · rw [if_neg (by simpa using hc), if_neg hc]
    rfl
theorem rupto_any (g room : Nat) (v : Value) (L : List (Int × Int)) (t : Int) (w : World) (h : RRing w g v room L) (hasc : Asc L) (hm : L.length ≤ 4096) :
    Calls Try.prog 30 #[.pointer (some ⟨g, 0, none⟩), .int .i64 t] w fun e w' => e = .returned (.int .i64 ((ups L t : Int) - 1)) ∧ Fresh w w' := by
  have HS := Lib.hid h
  obtain ⟨A, cap, rfl, hca, hcm⟩ := h.own.shape
  have hcm : cap ≤ 9223372036854775807 := by unfold maxLen at hcm; omega
  have HA := Lib.hid hasc
  clear h hasc
  go_enter Try.func30, Try.ntmps30
  go_wp2_with fail
  go_loopg [5, 6] L.length (fun gk m u wr => ∃ (q n : Nat), q ≤ L.length ∧ gk = L.length - q ∧ n ≤ q ∧ m = .int .i64 ((n : Int) - 1) ∧ u = .int .i64 q ∧ Fresh w wr ∧ Hid (ups (L.take q) t = n))
  case atStart => exact ⟨0, 0, by omega, rfl, by omega, rfl, rfl, Keep.refl _ _, Lib.hid rfl⟩
  case round =>
    obtain ⟨q, n, hq, rfl, hnq, rfl, rfl, hF, HN⟩ := hrel
    have hb := (HS.out.fresh hF).blk.cell
    have HF := Lib.hid hF
    clear hF
    by_cases hlt : q < L.length
    · obtain ⟨x, hx⟩ : ∃ x, L[q]? = some x := ⟨_, List.getElem?_eq_getElem hlt⟩
      obtain ⟨gn, off, cap', hv, lt0, _, _, hc⟩ := (HS.out.fresh HF.out).own.form (by omega)
      injection hv with hv1 _ hv3
      subst hv1 hv3
      have c0 := hc _ _ (cells_at _ _ _ hx).1
      have HU := Lib.hid (ups_take HA.out t hx)
      clear hc hx
      obtain ⟨xa, xb⟩ := x
      simp only at c0
      by_cases he : xa ≤ t
      · have t1 : decide (xa ≤ t) = true := decide_eq_true he
        have HU2 : Hid (ups (L.take (q + 1)) t = q + 1) := by have := HU.out; rw [if_pos he] at this; exact this
        clear he HU HN
        go_wp2_with fail
        go_roundg (L.length - (q + 1))
        case measure => omega
        case rel => exact ⟨q + 1, q + 1, by omega, rfl, by omega, by congr 1; omega, by go_num, HF.out, HU2⟩
      · have t1 : decide (xa ≤ t) = false := decide_eq_false he
        have HU2 : Hid (ups (L.take (q + 1)) t = n) := by have := HU.out; rw [if_neg he, HN.out] at this; exact this
        clear he HU HN
        go_wp2_with fail
        go_roundg (L.length - (q + 1))
        case measure => omega
        case rel => exact ⟨q + 1, n, by omega, rfl, by omega, rfl, by go_num, HF.out, HU2⟩
    · obtain rfl : q = L.length := by omega
      go_wp2_with fail
      go_ret
      exact ⟨by have := HN.out; rw [List.take_length] at this; rw [this]; rfl, HF.out⟩

/-- what Back and Front leave of the document's ring -/
def RPartP (g : Nat) (v : Value) (room : Nat) (rest : List (Int × Int)) (out : List Int) (w : World) (e : Ending) (w' : World) : Prop := ∃ u, e = .returned u ∧ Given w w' u out ∧ RPost g v room rest w w'
theorem lows_step {L : List (Int × Int)} (h : Asc L) (t : Int) : (∀ x L', L = x :: L' → (x.1 < t ↔ 0 < lows L t)) := by
  rintro x L' rfl
  unfold Asc at h
  rw [List.pairwise_cons] at h
  unfold lows
  rw [List.countP_pos_iff]
  constructor
  · intro hx
    exact ⟨x, by simp, by simpa using hx⟩
  · rintro ⟨y, hy, hyt⟩
    simp at hyt
    rcases List.mem_cons.1 hy with rfl | hy
    · exact hyt
    · have := h.1 y hy
      omega
theorem lows_drop {L : List (Int × Int)} (h : Asc L) (t : Int) {q : Nat} (hq : q < L.length) {x : Int × Int} (hx : L[q]? = some x) : x.1 < t ↔ q < lows L t := by
  have hf := countP_asc (L := L) (p := fun a => decide (a < t)) (fun a b hab hb => by simp at hb ⊢; omega) h
  have hc : L.countP (fun s => decide (s.1 < t)) = lows L t := rfl
  rw [hc] at hf
  constructor
  · intro hxt
    apply Classical.byContradiction
    intro hn
    have : x ∈ L.drop (lows L t) := by
      rw [List.mem_iff_getElem?]
      exact ⟨q - lows L t, by rw [List.getElem?_drop, show lows L t + (q - lows L t) = q by omega]; exact hx⟩
    rw [← hf.2, List.mem_filter] at this
    simp at this
    omega
  · intro hq'
    have : x ∈ L.take (lows L t) := by
      rw [List.mem_iff_getElem?]
      exact ⟨q, by rw [List.getElem?_take, if_pos hq']; exact hx⟩
    rw [← hf.1, List.mem_filter] at this
    simpa using this.2
theorem RRing.cutFront {w : World} {g room gr off off' n cap : Nat} {x : Int × Int} {L : List (Int × Int)} (h : RRing w g (.slice (some ⟨gr, off, none⟩) n cap) room (x :: L)) (hn : n = L.length + 1) (ho : off' = off + 2 ∨ (cap = 1 ∧ off' = off)) :
    RRing (w.setCell ⟨g, 1, none⟩ (.slice (some ⟨gr, off', none⟩) (n - 1) (cap - 1))) g (.slice (some ⟨gr, off', none⟩) (n - 1) (cap - 1)) room L := by
  have hng : gr ≠ g := by
    have := h.own.ne_blk h.blk (by decide)
    simpa [Value.ownBlock] using this
  have ho1 := h.own
  rw [List.length_cons, ← hn] at ho1
  have hcut := ho1.cut (lo := 1) (hi := n) (off' := off') (by omega) (Nat.le_refl _) (by simpa using ho)
  have e : ((cells (x :: L)).drop (1 * 2)).take ((n - 1) * 2) = cells L := by
    have : cells (x :: L) = .int .i64 x.1 :: .int .i64 x.2 :: cells L := rfl
    rw [this]
    simp only [Nat.one_mul, List.drop_succ_cons, List.drop_zero]
    rw [List.take_of_length_le (by rw [cells_length]; omega)]
  rw [e] at hcut
  refine ⟨?_, ?_⟩
  · have := h.blk.set_ 1 (.slice (some ⟨gr, off', none⟩) (n - 1) (cap - 1))
    simpa using this
  · have := hcut.far (p := ⟨g, 1, none⟩) (by simpa [Value.ownBlock] using hng) (.slice (some ⟨gr, off', none⟩) (n - 1) (cap - 1))
    rw [show L.length = n - 1 by omega]
    exact this
set_option maxHeartbeats 4000000 in
theorem rfront_any (g room : Nat) (v : Value) (L : List (Int × Int)) (t : Int) (w : World) (h : RRing w g v room L) (hasc : Asc L) (hm : L.length ≤ 4096) :
    Calls Try.prog 28 #[.pointer (some ⟨g, 0, none⟩), .int .i64 t] w (RPartP g v room (L.drop (lows L t)) (vals (L.take (lows L t))) w) := by
  have hle : lows L t ≤ L.length := List.countP_le_length
  have HS := Lib.hid h
  have HA := Lib.hid hasc
  have HLT := Lib.hid h.lt
  clear h hasc
  obtain ⟨i0, hi, hz0, hz1, hz2⟩ := info_parts info_int
  have h01 : 0 < 1 := by omega
  go_enter Try.func28, Try.ntmps28
  go_wp2_with fail
  go_loopg [5] (lows L t) (fun gk a wr => ∃ (q : Nat) (u v' : Value), q ≤ lows L t ∧ gk = lows L t - q ∧ a = u ∧ RRing wr g v' room (L.drop q) ∧ Given w wr u (vals (L.take q)) ∧ Keep (foot g v) w wr ∧ Later w g v v')
  case atStart => exact ⟨0, _, v, by omega, rfl, rfl, by rw [List.drop_zero]; exact HS.out, ⟨by rw [List.take_zero]; exact OwnS.nil _ _ _, by simp [Value.ownBlock]⟩, Keep.refl _ _, fun k hk => .inl hk⟩
  case round =>
    obtain ⟨q, u, v', hq, rfl, rfl, hR, hG, hK, hLa⟩ := hrel
    have HR := Lib.hid hR
    have HG := Lib.hid hG
    have HK := Lib.hid hK
    have HLa := Lib.hid hLa
    have hb := hR.blk.cell
    have hfz := hR.blk.frozen
    have hlt := hR.blk.lt
    have hld : (L.drop q).length = L.length - q := List.length_drop
    clear hR hG hK hLa
    by_cases hql : q < L.length
    · obtain ⟨x, hx⟩ : ∃ x, L[q]? = some x := ⟨_, List.getElem?_eq_getElem hql⟩
      have hx0 : (L.drop q)[0]? = some x := by rw [List.getElem?_drop, Nat.add_zero]; exact hx
      obtain ⟨gr, off, cap, rfl, lr, hc1, hc2, hcc⟩ := HR.out.own.form (by rw [hld]; omega)
      obtain ⟨c0, c1⟩ := cells_at _ _ _ hx0
      have c0 := hcc _ _ c0
      have c1 := hcc _ _ c1
      simp only [Nat.zero_mul, Nat.add_zero, Nat.zero_add] at c0 c1
      have hc2 : cap ≤ 9223372036854775807 := by unfold maxLen at hc2; omega
      have hiff := lows_drop HA.out t hql hx
      have t0 : decide ((0 : Int) < ((L.drop q).length : Int)) = true := decide_eq_true (by omega)
      have t0' : decide (0 < (L.drop q).length) = true := decide_eq_true (by omega)
      have n3 : (0 : Int) < ((L.drop q).length : Int) := by omega
      have HX := Lib.hid hx
      obtain ⟨xa, xb⟩ := x
      simp only at c0 c1 hiff
      by_cases hqn : q < lows L t
      · have t1 : decide (xa < t) = true := decide_eq_true (hiff.2 hqn)
        obtain ⟨Av, capv, rfl, hcv, hmv⟩ := HG.out.1.shape
        have hvl : (vals (L.take q)).length ≤ 4096 := by simp [vals]; omega
        have hL1 : (vals (L.take q)).length + 1 ≤ maxLen := one_le_maxLen (by omega)
        have hL2 : ((vals (L.take q)).length + 1) * 8 ≤ 140737488355328 := by omega
        have HV3 := Lib.hid (HG.out.1.alloc (.cells #[.int .i64 xb] 3))
        have HSR : Hid (Src (wr.alloc (.cells #[.int .i64 xb] 3)) 1 (.slice (some ⟨wr.heap.size, 0, none⟩) 1 1) 1 (ints [xb])) := Src.one_new wr 3 1 #[.int .i64 xb] rfl
        have KB : Hid (∀ w2, Keep (fun k => (Value.slice Av (vals (L.take q)).length capv).ownBlock = some k) (wr.alloc (.cells #[.int .i64 xb] 3)) w2 → RRing w2 g (.slice (some ⟨gr, off, none⟩) (L.drop q).length cap) room (L.drop q)) := fun w2 k2 =>
          (HR.out.fresh ((Keep.refl _ _).alloc _)).kept k2 (by
            rintro k (rfl | hk) e
            · exact HG.out.1.ne_blk HR.out.blk (by decide) e
            · exact HG.out.1.ne_own HR.out.own (by decide) k e hk)
        have d1 : (1 : Int) ≤ ((L.drop q).length : Int) := by omega
        have d2 : (1 : Int) ≤ (cap : Int) := by omega
        have hnq : q + 1 ≤ lows L t := hqn
        clear hiff hx hcc hx0
        have hdr : L.drop q = (xa, xb) :: L.drop (q + 1) := by
          rw [List.drop_eq_getElem_cons (by omega)]
          have hx := HX.out
          rw [List.getElem?_eq_getElem (by omega)] at hx
          injection hx with hx
          rw [hx]
        have htk : vals (L.take (q + 1)) = vals (L.take q) ++ [xb] := by
          rw [List.take_add_one, HX.out]
          simp [vals]
        have HDR := Lib.hid hdr
        have HTK := Lib.hid htk
        clear hdr htk
        have hcq : (cap = 1) ∨ (((cap : Int) == 1) = false ∧ (cap == 1) = false ∧ ¬ (cap : Int) = 1) := by
          by_cases hcap : cap = 1
          · exact .inl hcap
          · exact .inr ⟨by rw [beq_eq_false_iff_ne]; omega, by rw [beq_eq_false_iff_ne]; exact hcap, by omega⟩
        have FIN : Hid (∀ (w4 : World) (A4 : Option Addr) (cap4 off' : Nat), OwnS w4 3 1 (.slice A4 ((vals (L.take q)).length + 1) cap4) ((vals (L.take q)).length + 1) (ints (vals (L.take q)) ++ ints [xb]) → Keep (fun k => (Value.slice Av (vals (L.take q)).length capv).ownBlock = some k) (wr.alloc (.cells #[.int .i64 xb] 3)) w4 →
            (∀ k, (Value.slice A4 ((vals (L.take q)).length + 1) cap4).ownBlock = some k → (Value.slice Av (vals (L.take q)).length capv).ownBlock = some k ∨ (wr.alloc (.cells #[.int .i64 xb] 3)).heap.size ≤ k) → (off' = off + 2 ∨ (cap = 1 ∧ off' = off)) →
            RRing (w4.setCell ⟨g, 1, none⟩ (.slice (some ⟨gr, off', none⟩) (L.length - q - 1) (cap - 1))) g (.slice (some ⟨gr, off', none⟩) (L.length - q - 1) (cap - 1)) room (L.drop (q + 1)) ∧
            Given w (w4.setCell ⟨g, 1, none⟩ (.slice (some ⟨gr, off', none⟩) (L.length - q - 1) (cap - 1))) (.slice A4 ((vals (L.take q)).length + 1) cap4) (vals (L.take (q + 1))) ∧
            Keep (foot g v) w (w4.setCell ⟨g, 1, none⟩ (.slice (some ⟨gr, off', none⟩) (L.length - q - 1) (cap - 1))) ∧ Later w g v (.slice (some ⟨gr, off', none⟩) (L.length - q - 1) (cap - 1))) := by
          intro w4 A4 cap4 off' o4 k4 n4 ho
          have rr := KB.out w4 k4
          have hg4 : (Value.slice A4 ((vals (L.take q)).length + 1) cap4).ownBlock ≠ some g := o4.ne_blk rr.blk (by decide)
          have rr2 := rr
          rw [HDR.out] at rr2
          have hlen : (L.drop (q + 1)).length + 1 = L.length - q := by rw [List.length_drop]; omega
          refine ⟨?_, ⟨?_, ?_⟩, ?_, ?_⟩
          · have := rr2.cutFront (off' := off') (by simp) ho
            rw [List.length_cons, hlen] at this
            exact this
          · have := o4.far (p := ⟨g, 1, none⟩) hg4 (.slice (some ⟨gr, off', none⟩) (L.length - q - 1) (cap - 1))
            rw [HTK.out, ints_append, List.length_append, List.length_singleton]
            exact this
          · intro i hi
            rcases n4 i hi with e | e
            · exact HG.out.2 i e
            · have h1 := HK.out.size
              simp at e
              omega
          · have ka : Keep (foot g v) w (wr.alloc (.cells #[.int .i64 xb] 3)) := HK.out.alloc _
            exact (ka.step k4 (fun i hi e => by have := HG.out.2 i e; omega)).setCell (fun _ => .inl rfl) _
          · rintro k (rfl | hk)
            · exact .inl (.inl rfl)
            · simp [Value.ownBlock] at hk
              subst hk
              exact HLa.out gr (.inr rfl)
        rcases hcq with rfl | ⟨dc, dc', dc2⟩
        · go_wp2_with (at_builtin; refine wpList_append_OwnS _ rfl (.tmp 23) (.tmp 31) 47 rfl 3 i0 (.int .i64 0) 1 8 Try.underlying47 hi hz0 hz1 hz2 rfl h01 (.slice Av (vals (L.take q)).length capv) (vals (L.take q)).length (ints (vals (L.take q))) rfl HV3.out (.slice (some ⟨wr.heap.size, 0, none⟩) 1 1) 1 (ints [xb]) rfl HSR.out (ints_one _) hL1 hL2 ?_; intro v4 w4 o4 k4 n4; obtain ⟨A4, cap4, rfl, _, _⟩ := o4.shape; have rr := KB.out _ k4; have hb4 := rr.blk.cell; have hf4 := rr.blk.frozen; have hl4 := rr.blk.lt; have RR := Lib.hid rr; have O4 := Lib.hid o4; have K4 := Lib.hid k4; have N4 := Lib.hid n4; clear o4 k4 n4 rr)
          obtain ⟨r1, r2, r3, r4⟩ := FIN.out w4 A4 cap4 off O4.out K4.out N4.out (.inr ⟨by trivial, rfl⟩)
          have R1 := Lib.hid r1
          have R2 := Lib.hid r2
          have R3 := Lib.hid r3
          have R4 := Lib.hid r4
          clear r1 r2 r3 r4 hb4 hf4 hl4
          go_roundg (lows L t - (q + 1))
          case measure => omega
          case rel => exact ⟨q + 1, _, _, by omega, rfl, rfl, R1.out, R2.out, R3.out, R4.out⟩
        · go_wp2_with (at_builtin; refine wpList_append_OwnS _ rfl (.tmp 23) (.tmp 31) 47 rfl 3 i0 (.int .i64 0) 1 8 Try.underlying47 hi hz0 hz1 hz2 rfl h01 (.slice Av (vals (L.take q)).length capv) (vals (L.take q)).length (ints (vals (L.take q))) rfl HV3.out (.slice (some ⟨wr.heap.size, 0, none⟩) 1 1) 1 (ints [xb]) rfl HSR.out (ints_one _) hL1 hL2 ?_; intro v4 w4 o4 k4 n4; obtain ⟨A4, cap4, rfl, _, _⟩ := o4.shape; have rr := KB.out _ k4; have hb4 := rr.blk.cell; have hf4 := rr.blk.frozen; have hl4 := rr.blk.lt; have RR := Lib.hid rr; have O4 := Lib.hid o4; have K4 := Lib.hid k4; have N4 := Lib.hid n4; clear o4 k4 n4 rr)
          obtain ⟨r1, r2, r3, r4⟩ := FIN.out w4 A4 cap4 (off + 2) O4.out K4.out N4.out (.inl rfl)
          have R1 := Lib.hid r1
          have R2 := Lib.hid r2
          have R3 := Lib.hid r3
          have R4 := Lib.hid r4
          clear r1 r2 r3 r4 hb4 hf4 hl4
          go_roundg (lows L t - (q + 1))
          case measure => omega
          case rel => exact ⟨q + 1, _, _, by omega, rfl, rfl, R1.out, R2.out, R3.out, R4.out⟩
      · have t1 : decide (xa < t) = false := decide_eq_false (fun h => hqn (hiff.1 h))
        obtain rfl : q = lows L t := by omega
        clear hiff hx hcc hx0
        go_wp2_with fail
        go_ret
        exact ⟨_, rfl, HG.out, _, HR.out, HK.out, HLa.out⟩
    · obtain rfl : q = lows L t := by omega
      have hz : L.length - lows L t = 0 := by omega
      obtain ⟨A0, cap0, rfl, _, _⟩ := HR.out.own.shape
      have t0 : decide ((0 : Int) < ((L.drop (lows L t)).length : Int)) = false := decide_eq_false (by omega)
      have t0' : decide (0 < (L.drop (lows L t)).length) = false := decide_eq_false (by omega)
      rw [hld, hz] at hb
      clear hz
      go_wp2_with fail
      go_ret
      exact ⟨_, rfl, HG.out, _, HR.out, HK.out, HLa.out⟩
end Go.Proofs.Ytfckbgifmajbjaa
