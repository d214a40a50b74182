/-
  ring.Ring[int]: Front.
-/
import Derived.Test.YtfckbgifmajbjaaParts
namespace Go.Proofs.Ytfckbgifmajbjaa
open Go.RowKit
attribute [local go_sem ↓] Go.wp_at_zero Go.wp_at_succ

theorem SRing.on {w : World} {g : Nat} {v : Value} {c : List (Int × Int)} {first many : Nat} (h : SRing w g v c first (many + 1)) (hne : v.ownBlock ≠ some g) (f : Nat) : SRing ((w.setCell ⟨g, 1, none⟩ (.int .i64 (f : Nat))).setCell ⟨g, 2, none⟩ (.int .i64 (many : Nat))) g v c f many := by
  refine ⟨?_, (h.own.far (p := ⟨g, 1, none⟩) hne _).far (p := ⟨g, 2, none⟩) hne _⟩
  have := (h.blk.set_ 1 (.int .i64 (f : Nat))).set_ 2 (.int .i64 (many : Nat))
  simpa using this
set_option maxHeartbeats 2000000 in
theorem front_any (g gs off cap room : Nat) (L : List (Int × Int)) (at_ : Int) (w : World) (h : Held g gs off cap room L w) :
    Calls Try.prog 20 #[.pointer (some ⟨g, 0, none⟩), .int .i64 at_] w (PartP g gs off cap room (L.drop (lows L at_)) (vals (L.take (lows L at_))) w) := by
  obtain ⟨c, first, h⟩ := h
  have f0 : Fresh w (w.alloc (.cells #[.int .i64 at_] 3)) := (Keep.refl _ _).alloc _
  have hfind := fr_find w.heap.size g gs off cap room c first L at_ _ (h.fresh f0) ((Blk.new w 3 #[.int .i64 at_]).cell_ 0 rfl)
  have e1 : L.countP (fun s => !(fun t : Int => decide (at_ ≤ t)) s.1) = lows L at_ := by
    unfold lows
    apply List.countP_congr
    intro s _
    simp
  rw [e1] at hfind
  have hle : lows L at_ ≤ L.length := List.countP_le_length
  have hm := h.r.many
  have hp := h.r.pos
  have hne := h.ne
  obtain ⟨n, hn⟩ : ∃ n, lows L at_ = n := ⟨_, rfl⟩
  rw [hn] at hfind hle ⊢
  have HF := Lib.hid hfind
  have F0 := Lib.hid f0
  have HR := Lib.hid h
  clear hfind f0 e1 hn h
  obtain ⟨i0, hi, hz0, hz1, hz2⟩ := info_parts info_int
  have h01 : 0 < 1 := by omega
  go_enter Try.func20, Try.ntmps20
  go_wp2_with (go_at_call 32; refine HF.out.mono ?_; rintro e w1 ⟨rfl, f1⟩; have F1 := Lib.hid (F0.out.step f1 (fun _ _ h => h)); clear f1)
  go_loopg [5, 11] n (fun gk a u wr => ∃ (q : Nat) (v : Value) (c : List (Int × Int)) (first : Nat), q ≤ n ∧ gk = n - q ∧ a = v ∧ u = .int .i64 q ∧ Ring wr g gs off cap room c first (L.drop q) ∧ Given w wr v (vals (L.take q)) ∧ Keep (fun k => k = g ∨ k = gs) w wr)
  case atStart => exact ⟨0, _, c, first, by omega, rfl, rfl, rfl, by rw [List.drop_zero]; exact HR.out.fresh F1.out, ⟨by rw [List.take_zero]; exact OwnS.nil _ _ _, by simp [Value.ownBlock]⟩, F1.out.more (fun _ _ h => h.elim)⟩
  case round =>
    clear HR HF
    obtain ⟨q, v, c, first, hq, rfl, rfl, rfl, hR, hG, hK⟩ := hrel
    have HR2 := Lib.hid hR
    have HG := Lib.hid hG
    have HK := Lib.hid hK
    clear hR hG hK
    by_cases hqn : q < n
    · obtain ⟨x, hx⟩ : ∃ x, L[q]? = some x := ⟨_, List.getElem?_eq_getElem (by omega)⟩
      have hdr : L.drop q = x :: L.drop (q + 1) := by
        rw [List.drop_eq_getElem_cons (by omega)]
        rw [List.getElem?_eq_getElem (by omega)] at hx
        injection hx with hx
        rw [hx]
      have hld : (L.drop (q + 1)).length = L.length - (q + 1) := List.length_drop
      obtain ⟨p, hpp⟩ : ∃ p, L.length - (q + 1) = p := ⟨_, rfl⟩
      have hR := HR2.out
      rw [hdr] at hR
      obtain ⟨hn1, hrl⟩ := hR.r.shift
      have hs := hR.s
      rw [List.length_cons, hld, hpp] at hs
      have hl := hR.r.len
      have hT := take_any g gs off cap room c first (p + 1) 0 x wr hs hR.r.len hR.r.pos hR.r.fst (by omega) hn1
      have hasc : Asc (L.drop (q + 1)) := by
        have := hR.asc
        unfold Asc at this
        rw [List.pairwise_cons] at this
        exact this.2
      have htk : L.take (q + 1) = L.take q ++ [x] := by rw [List.take_add_one, hx]; rfl
      have hPL : ∀ W, SRing W g (.slice (some ⟨gs, off, none⟩) room cap) (c.set ((first + 0) % c.length) (0, 0)) first (p + 1) → Calls Try.prog 34 #[.pointer (some ⟨g, 0, none⟩), .int .i64 1] W fun e w' => e = .returned (.int .i64 (((first + 1) % c.length : Nat) : Int)) ∧ Fresh W w' := fun W hW => by
        have hl2 : (c.set ((first + 0) % c.length) (0, 0)).length = room := by rw [List.length_set]; exact hl
        have hlr := hR.r.fst
        rw [← hl2] at hW
        have := place_any g _ (c.set ((first + 0) % c.length) (0, 0)) first (p + 1) 1 W hW (by omega) (by omega) (by omega) (by omega)
        rw [List.length_set] at this
        exact this
      have HPL := Lib.hid hPL
      have HT := Lib.hid hT
      have HRL := Lib.hid hrl
      have HASC := Lib.hid hasc
      have HTK := Lib.hid htk
      have HLD : Hid ((L.drop (q + 1)).length = p) := hld.trans hpp
      obtain ⟨FST, hFST⟩ : ∃ FST, (first + 1) % c.length = FST := ⟨_, rfl⟩
      rw [hFST] at HPL HRL
      obtain ⟨Av, capv, rfl, hcv, hmv⟩ := HG.out.1.shape
      have hvl : (vals (L.take q)).length ≤ 4096 := by simp [vals]; omega
      obtain ⟨xa, xb⟩ := x
      have t1 : decide ((q : Int) < (n : Int)) = true := decide_eq_true (by omega)
      have t1' : decide (q < n) = true := decide_eq_true hqn
      have p1 : (p : Int) ≤ 4096 := by omega
      have hL1 : (vals (L.take q)).length + 1 ≤ maxLen := one_le_maxLen (by omega)
      have hL2 : ((vals (L.take q)).length + 1) * 8 ≤ 140737488355328 := by omega
      have hnp : q + 1 ≤ n := by omega
      clear hT hrl hasc hdr htk hn1 hR hx hqn hs hpp hld hPL hFST
      go_wp2_with fail
      refine HT.out.mono ?_
      rintro e w3 ⟨rfl, s3, k3⟩
      have hv3 : OwnS w3 3 1 (.slice Av (vals (L.take q)).length capv) (vals (L.take q)).length (ints (vals (L.take q))) := HG.out.1.kept k3 (fun i hi e => by
        subst e
        exact HG.out.1.ne_own HR2.out.s.own (by decide) _ hi rfl)
      have b3 := s3.blk
      have HS3 := Lib.hid s3
      have HV3 := Lib.hid (hv3.alloc (.cells #[.int .i64 xb] 3))
      have HSR : Hid (Src (w3.alloc (.cells #[.int .i64 xb] 3)) 1 (.slice (some ⟨w3.heap.size, 0, none⟩) 1 1) 1 (ints [xb])) := Src.one_new w3 3 1 #[.int .i64 xb] rfl
      have HGV : Hid ((Value.slice Av (vals (L.take q)).length capv).ownBlock ≠ some g) := hv3.ne_blk b3 (by decide)
      have HGW : Hid ((Value.slice Av (vals (L.take q)).length capv).ownBlock ≠ some gs) := fun e => hv3.ne_own s3.own (by decide) gs e rfl
      have K3 := Lib.hid k3
      clear s3 hv3 b3 k3 HT
      go_wp2_with (first
        | (at_builtin; refine wpList_append_OwnS _ rfl (.tmp 13) (.tmp 16) 47 rfl 3 i0 (.int .i64 0) 1 8 Try.underlying47 hi hz0 hz1 hz2 rfl h01 (.slice Av (vals (L.take q)).length capv) (vals (L.take q)).length (ints (vals (L.take q))) rfl HV3.out (.slice (some ⟨w3.heap.size, 0, none⟩) 1 1) 1 (ints [xb]) rfl HSR.out (ints_one _) hL1 hL2 ?_; intro v4 w4 o4 k4 n4; obtain ⟨A4, cap4, rfl, _, _⟩ := o4.shape; have s4 := (HS3.out.kept ((Keep.refl (fun _ => False) w3).alloc (.cells #[.int .i64 xb] 3)) (fun h => h) (fun _ _ h => h)).kept k4 HGV.out (fun i hi e => by (simp [Value.ownBlock] at hi; subst hi; exact HGW.out e)); have S4 := Lib.hid s4; have O4 := Lib.hid o4; have K4 := Lib.hid k4; have N4 := Lib.hid n4; clear o4 k4 n4 s4)
        | (go_at_call 34; refine (HPL.out _ S4.out).mono ?_; rintro e w5 ⟨rfl, f5⟩; have s5 := S4.out.fresh f5; have hb5 : ∀ i, w5.cell? ⟨g, i, none⟩ = #[.slice (some ⟨gs, off, none⟩) room cap, .int .i64 first, .int .i64 ((p : Int) + 1)][i]? := (fun i => by have := s5.blk.cell i; simpa using this); have hf5 := s5.blk.frozen; have hl5 := s5.blk.lt; have S5 := Lib.hid s5; have F5 := Lib.hid f5; clear s5 f5))
      have hng4 : (Value.slice A4 ((vals (L.take q)).length + 1) cap4).ownBlock ≠ some g := O4.out.ne_blk S4.out.blk (by decide)
      have hon := S5.out.on (by simpa [Value.ownBlock] using hne) FST
      have hR5 : Ring ((w5.setCell ⟨g, 1, none⟩ (.int .i64 (FST : Nat))).setCell ⟨g, 2, none⟩ (.int .i64 (p : Nat))) g gs off cap room (c.set ((first + 0) % c.length) (0, 0)) FST (L.drop (q + 1)) := ⟨by rw [HLD.out]; exact hon, HRL.out, HASC.out⟩
      have hO5 : OwnS ((w5.setCell ⟨g, 1, none⟩ (.int .i64 (FST : Nat))).setCell ⟨g, 2, none⟩ (.int .i64 (p : Nat))) 3 1 (.slice A4 ((vals (L.take q)).length + 1) cap4) (vals (L.take (q + 1))).length (ints (vals (L.take (q + 1)))) := by
        have := ((O4.out.fresh F5.out).far (p := ⟨g, 1, none⟩) hng4 (.int .i64 (FST : Nat))).far (p := ⟨g, 2, none⟩) hng4 (.int .i64 (p : Nat))
        rw [← ints_append] at this
        rw [HTK.out]
        have e : (vals (L.take q ++ [(xa, xb)])).length = (vals (L.take q)).length + 1 := by simp [vals]
        rw [e, show vals (L.take q ++ [(xa, xb)]) = vals (L.take q) ++ [xb] by simp [vals]]
        exact this
      have hK5 : Keep (fun k => k = g ∨ k = gs) w ((w5.setCell ⟨g, 1, none⟩ (.int .i64 (FST : Nat))).setCell ⟨g, 2, none⟩ (.int .i64 (p : Nat))) := by
        have ka : Keep (fun k => k = g ∨ k = gs) w (w3.alloc (.cells #[.int .i64 xb] 3)) := (HK.out.step K3.out (fun i _ e => .inr e)).alloc _
        have kb : Keep (fun k => k = g ∨ k = gs) w w5 := (ka.step K4.out (fun i hi e => by have := HG.out.2 i e; omega)).step F5.out (fun _ _ h => h.elim)
        exact Keep.setCell (p := ⟨g, 2, none⟩) (Keep.setCell (p := ⟨g, 1, none⟩) kb (fun _ => .inl rfl) _) (fun _ => .inl rfl) _
      have hG5 : Given w ((w5.setCell ⟨g, 1, none⟩ (.int .i64 (FST : Nat))).setCell ⟨g, 2, none⟩ (.int .i64 (p : Nat))) (.slice A4 ((vals (L.take q)).length + 1) cap4) (vals (L.take (q + 1))) := ⟨hO5, fun i hi => by
        rcases N4.out i hi with e | e
        · exact HG.out.2 i e
        · have h1 := HK.out.size
          have h2 := K3.out.size
          simp at e
          omega⟩
      have R5 := Lib.hid hR5
      have G5 := Lib.hid hG5
      have K5 := Lib.hid hK5
      clear hng4 hon hR5 hO5 hK5 hG5 hb5 hf5 hl5
      go_roundg (n - (q + 1))
      case measure => omega
      case rel => exact ⟨q + 1, _, _, _, by omega, rfl, rfl, by go_num, R5.out, G5.out, K5.out⟩
    · obtain rfl : q = n := by omega
      go_wp2_with fail
      go_ret
      exact ⟨_, rfl, HG.out, ⟨_, _, HR2.out⟩, HK.out⟩
end Go.Proofs.Ytfckbgifmajbjaa
