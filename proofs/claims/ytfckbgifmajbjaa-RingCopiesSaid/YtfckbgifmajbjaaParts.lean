/-
  ring.Ring[int]: Push, Back, Front, whatever comes.
-/
import Derived.Test.YtfckbgifmajbjaaTake
namespace Go.Proofs.Ytfckbgifmajbjaa
open Go.RowKit
attribute [local go_sem ↓] Go.wp_at_zero Go.wp_at_succ

/-- what Push answers, and the list behind it -/
def pushL (L : List (Int × Int)) (room : Nat) (x : Int × Int) : Int × List (Int × Int) := if L.any (fun y => decide (x.1 < y.1)) = true then (18, L) else if L.length = room then (11, L) else (0, L ++ [x])
def Held (g gs off cap room : Nat) (L : List (Int × Int)) (w : World) : Prop := ∃ c first, Ring w g gs off cap room c first L
theorem Held.fresh {g gs off cap room : Nat} {L : List (Int × Int)} {w w' : World} (h : Held g gs off cap room L w) (f : Fresh w w') : Held g gs off cap room L w' := by
  obtain ⟨c, first, h⟩ := h
  exact ⟨c, first, h.fresh f⟩
theorem Held.kept {g gs off cap room : Nat} {L : List (Int × Int)} {w w' : World} {S : Nat → Prop} (h : Held g gs off cap room L w) (k : Keep S w w') (h1 : ¬ S g) (h2 : ¬ S gs) : Held g gs off cap room L w' := by
  obtain ⟨c, first, h⟩ := h
  exact ⟨c, first, h.kept k h1 h2⟩
theorem Held.asc {g gs off cap room : Nat} {L : List (Int × Int)} {w : World} (h : Held g gs off cap room L w) : Asc L := let ⟨_, _, h⟩ := h; h.asc
theorem Held.lt {g gs off cap room : Nat} {L : List (Int × Int)} {w : World} (h : Held g gs off cap room L w) : g < w.heap.size ∧ gs < w.heap.size := let ⟨_, _, h⟩ := h; h.lt
theorem Held.ne {g gs off cap room : Nat} {L : List (Int × Int)} {w : World} (h : Held g gs off cap room L w) : gs ≠ g := let ⟨_, _, h⟩ := h; h.ne
theorem Held.room {g gs off cap room : Nat} {L : List (Int × Int)} {w : World} (h : Held g gs off cap room L w) : (1 ≤ room ∧ room ≤ 4096) ∧ L.length ≤ room := let ⟨_, _, h⟩ := h; ⟨h.r.pos, h.r.many⟩
/-- of an ascending list: some time is later just if the last one's is -/
theorem any_last {L : List (Int × Int)} (h : Asc L) {y : Int × Int} (hy : L.getLast? = some y) (t : Int) : L.any (fun y => decide (t < y.1)) = decide (t < y.1) := by
  have hl := List.getLast?_eq_getElem? (l := L)
  rw [hy] at hl
  by_cases ht : t < y.1
  · rw [decide_eq_true ht, List.any_eq_true]
    exact ⟨y, List.mem_of_getElem? hl.symm, decide_eq_true ht⟩
  · rw [decide_eq_false ht, List.any_eq_false]
    intro z hz
    obtain ⟨i, hi, rfl⟩ := List.mem_iff_getElem.1 hz
    have := h.le (List.getElem?_eq_getElem hi) hl.symm (by omega)
    simp
    omega
theorem push_any (g gs off cap room : Nat) (L : List (Int × Int)) (a b : Int) (w : World) (h : Held g gs off cap room L w) :
    Calls Try.prog 24 #[.pointer (some ⟨g, 0, none⟩), .int .i64 a, .int .i64 b] w fun e w' => e = .returned (.int .i64 (pushL L room (a, b)).1) ∧ Held g gs off cap room (pushL L room (a, b)).2 w' ∧ Keep (fun k => k = g ∨ k = gs) w w' := by
  obtain ⟨c, first, h⟩ := h
  have hl := h.r.len
  have hp := h.r.pos
  have hf := h.r.fst
  have hm := h.r.many
  have hs := h.s
  rw [← hl] at hs
  have same : ∀ w', Fresh w w' → Held g gs off cap room L w' ∧ Keep (fun k => k = g ∨ k = gs) w w' := fun w' f => ⟨⟨c, first, h.fresh f⟩, f.more (fun _ _ h => h.elim)⟩
  have kk : ∀ w', Keep (fun k => k = g ∨ (Value.slice (some ⟨gs, off, none⟩) c.length cap).ownBlock = some k) w w' → Keep (fun k => k = g ∨ k = gs) w w' := fun w' k => k.more (fun i _ e => e.imp id (fun e => by simp [Value.ownBlock] at e; exact e.symm))
  unfold pushL
  rcases List.eq_nil_or_concat L with rfl | ⟨L', y, rfl⟩
  · simp only [List.any_nil, Bool.false_eq_true, if_false, List.length_nil, List.nil_append]
    rw [if_neg (by omega)]
    refine (push_empty g _ c first a b w hs (by omega) (by omega) (by omega)).mono fun e w' ⟨e1, e2, e3⟩ => ⟨e1, ⟨_, first, ?_, h.r.push (by simp; omega) (a, b), by simp [Asc]⟩, kk _ e3⟩
    rw [hl] at e2
    simpa [hl] using e2
  · rw [List.concat_eq_append] at h hm hs same ⊢
    have hy : (L' ++ [y]).getLast? = some y := by simp
    rw [any_last h.asc hy]
    have hn : nth c first ((L' ++ [y]).length - 1) = some y := by
      have := h.r.at_ ((L' ++ [y]).length - 1) (by simp)
      rw [this]
      simp
    have hpos : 0 < (L' ++ [y]).length := by simp
    by_cases h1 : a < y.1
    · simp only [decide_eq_true h1, if_true]
      refine (push_time g _ c first _ a b y w hs (by omega) (by omega) (by omega) hpos hn h1).mono fun e w' ⟨e1, e2⟩ => ⟨e1, same _ e2⟩
    · simp only [decide_eq_false h1, Bool.false_eq_true, if_false]
      by_cases h2 : (L' ++ [y]).length = room
      · rw [if_pos h2]
        exact (push_full g _ c first _ a b y w hs (by omega) (by omega) (by omega) hpos hn h1).mono fun e w' ⟨e1, e2⟩ => ⟨e1, same _ e2⟩
      · rw [if_neg h2]
        refine (push_ok g _ c first _ a b y w hs (by omega) (by omega) (by omega) hpos hn h1).mono fun e w' ⟨e1, e2, e3⟩ => ⟨e1, ⟨_, first, ?_, h.r.push (by omega) (a, b), h.asc.push (fun z hz => ?_)⟩, kk _ e3⟩
        · rw [hl] at e2
          have e4 : (L' ++ [y] ++ [(a, b)]).length = (L' ++ [y]).length + 1 := by simp
          rw [e4]
          rw [hl]
          exact e2
        · rw [hy] at hz
          injection hz with hz
          subst hz
          simp only
          omega
/-- the things of a list -/
def vals (l : List (Int × Int)) : List Int := l.map (·.2)
def ints (l : List Int) : List Value := l.map fun x => .int .i64 x
theorem ints_one (l : List Int) : ∀ u ∈ ints l, u.oneCell' = true := by
  intro u hu
  simp only [ints, List.mem_map] at hu
  obtain ⟨x, _, rfl⟩ := hu
  rfl
theorem ints_append (l m : List Int) : ints (l ++ m) = ints l ++ ints m := by simp [ints]
theorem info_int : (Try.prog.info? 3).map (fun i => (i.zero, i.size, i.bytes)) = some (some (.int .i64 0), 1, 8) := by kernel_rfl
/-- a slice of the call's own that holds some numbers -/
def Given (w0 w : World) (v : Value) (l : List Int) : Prop := OwnS w 3 1 v l.length (ints l) ∧ ∀ k, v.ownBlock = some k → w0.heap.size ≤ k
/-- what Back and Front leave -/
def PartP (g gs off cap room : Nat) (rest : List (Int × Int)) (out : List Int) (w : World) (e : Ending) (w' : World) : Prop :=
  ∃ v, e = .returned v ∧ Given w w' v out ∧ Held g gs off cap room rest w' ∧ Keep (fun k => k = g ∨ k = gs) w w'
theorem SRing.less {w : World} {g : Nat} {v : Value} {c : List (Int × Int)} {first many : Nat} (h : SRing w g v c first (many + 1)) (hne : v.ownBlock ≠ some g) : SRing (w.setCell ⟨g, 2, none⟩ (.int .i64 (many : Nat))) g v c first many := by
  refine ⟨?_, h.own.far (p := ⟨g, 2, none⟩) hne _⟩
  have := h.blk.set_ 2 (.int .i64 (many : Nat))
  simpa using this
set_option maxHeartbeats 2000000 in
theorem back_any (g gs off cap room : Nat) (L : List (Int × Int)) (at_ : Int) (w : World) (h : Held g gs off cap room L w) :
    Calls Try.prog 19 #[.pointer (some ⟨g, 0, none⟩), .int .i64 at_] w (PartP g gs off cap room (L.take (lows L at_)) (vals (L.drop (lows L at_)).reverse) w) := by
  obtain ⟨c, first, h⟩ := h
  have f0 : Fresh w (w.alloc (.cells #[.int .i64 at_] 3)) := (Keep.refl _ _).alloc _
  have hfind := bk_find w.heap.size g gs off cap room c first L at_ _ (h.fresh f0) ((Blk.new w 3 #[.int .i64 at_]).cell_ 0 rfl)
  have e1 : L.countP (fun s => !(fun t : Int => decide (at_ ≤ t)) s.1) = lows L at_ := by
    unfold lows
    apply List.countP_congr
    intro s _
    simp
  rw [e1] at hfind
  have hle : lows L at_ ≤ L.length := List.countP_le_length
  have hm := h.r.many
  have hp := h.r.pos
  have hne := h.ne
  obtain ⟨n, hn⟩ : ∃ n, lows L at_ = n := ⟨_, rfl⟩
  rw [hn] at hfind hle ⊢
  have HF := Lib.hid hfind
  have F0 := Lib.hid f0
  have HR := Lib.hid h
  clear hfind f0 e1 hn h
  obtain ⟨i0, hi, hz0, hz1, hz2⟩ := info_parts info_int
  have h01 : 0 < 1 := by omega
  go_enter Try.func19, Try.ntmps19
  go_wp2_with (go_at_call 32; refine HF.out.mono ?_; rintro e w1 ⟨rfl, f1⟩; have F1 := Lib.hid (F0.out.step f1 (fun _ _ h => h)); clear f1)
  go_loopg [5] (L.length - n) (fun gk a wr => ∃ (q : Nat) (v : Value) (c : List (Int × Int)), n ≤ q ∧ q ≤ L.length ∧ gk = q - n ∧ a = v ∧ Ring wr g gs off cap room c first (L.take q) ∧ Given w wr v (vals (L.drop q).reverse) ∧ Keep (fun k => k = g ∨ k = gs) w wr)
  case atStart => exact ⟨L.length, _, c, hle, Nat.le_refl _, rfl, rfl, by rw [List.take_length]; exact HR.out.fresh F1.out, ⟨by rw [List.drop_length]; exact OwnS.nil _ _ _, by simp [Value.ownBlock]⟩, F1.out.more (fun _ _ h => h.elim)⟩
  case round =>
    obtain ⟨q, v, c, hnq, hq, rfl, rfl, hR, hG, hK⟩ := hrel
    have hb := hR.s.blk.cell
    have hfz := hR.s.blk.frozen
    have hlt := hR.s.blk.lt
    have hlq : (L.take q).length = q := by rw [List.length_take]; omega
    rw [hlq] at hb
    have HR2 := Lib.hid hR
    have HG := Lib.hid hG
    have HK := Lib.hid hK
    have HLQ := Lib.hid hlq
    clear hR hG hK hlq HR
    by_cases hqn : n < q
    · obtain ⟨p, rfl⟩ : ∃ p, q = p + 1 := ⟨q - 1, by omega⟩
      obtain ⟨x, hx⟩ : ∃ x, L[p]? = some x := ⟨_, List.getElem?_eq_getElem (by omega)⟩
      have htk : L.take (p + 1) = L.take p ++ [x] := by rw [List.take_add_one, hx]; rfl
      have hlp : (L.take p).length = p := by rw [List.length_take]; omega
      have hR := HR2.out
      rw [htk] at hR
      obtain ⟨hn1, hrl⟩ := hR.r.pop
      rw [hlp] at hn1 hrl
      have hT := take_any g gs off cap room c first (p + 1) p x wr (by have := hR.s; rw [List.length_append, hlp] at this; exact this) hR.r.len hR.r.pos hR.r.fst (by omega) hn1
      have hasc : Asc (L.take p) := by
        have := hR.asc
        unfold Asc at this
        rw [List.pairwise_append] at this
        exact this.1
      have hdr : (L.drop p).reverse = (L.drop (p + 1)).reverse ++ [x] := by
        rw [List.drop_eq_getElem_cons (by omega), List.reverse_cons]
        rw [List.getElem?_eq_getElem (by omega)] at hx
        injection hx with hx
        rw [hx]
      have HT := Lib.hid hT
      have HRL := Lib.hid hrl
      have HASC := Lib.hid hasc
      have HDR := Lib.hid hdr
      have HLP := Lib.hid hlp
      obtain ⟨Av, capv, rfl, hcv, hmv⟩ := HG.out.1.shape
      have hvl : (vals (L.drop (p + 1)).reverse).length ≤ 4096 := by simp [vals]; omega
      obtain ⟨xa, xb⟩ := x
      have t1 : decide ((n : Int) < (p : Int) + 1) = true := decide_eq_true (by omega)
      have t1' : decide (n < p + 1) = true := decide_eq_true hqn
      have p1 : (p : Int) ≤ 4096 := by omega
      have hL1 : (vals (L.drop (p + 1)).reverse).length + 1 ≤ maxLen := one_le_maxLen (by omega)
      have hL2 : ((vals (L.drop (p + 1)).reverse).length + 1) * 8 ≤ 140737488355328 := by omega
      have hb' : ∀ i, wr.cell? ⟨g, i, none⟩ = #[.slice (some ⟨gs, off, none⟩) room cap, .int .i64 first, .int .i64 ((p : Int) + 1)][i]? := by
        intro i
        have := hb i
        simpa using this
      have hnp : n ≤ p := by omega
      clear hT hrl hasc hdr hlp hn1 hR htk hx hb hqn hfz
      go_wp2_with fail
      refine HT.out.mono ?_
      rintro e w3 ⟨rfl, s3, k3⟩
      have hv3 : OwnS w3 3 1 (.slice Av (vals (L.drop (p + 1)).reverse).length capv) (vals (L.drop (p + 1)).reverse).length (ints (vals (L.drop (p + 1)).reverse)) := HG.out.1.kept k3 (fun i hi e => by
        subst e
        exact HG.out.1.ne_own HR2.out.s.own (by decide) _ hi rfl)
      have b3 := s3.blk
      have HS3 := Lib.hid s3
      have HV3 := Lib.hid (hv3.alloc (.cells #[.int .i64 xb] 3))
      have HSR : Hid (Src (w3.alloc (.cells #[.int .i64 xb] 3)) 1 (.slice (some ⟨w3.heap.size, 0, none⟩) 1 1) 1 (ints [xb])) := Src.one_new w3 3 1 #[.int .i64 xb] rfl
      have HGV : Hid ((Value.slice Av (vals (L.drop (p + 1)).reverse).length capv).ownBlock ≠ some g) := hv3.ne_blk b3 (by decide)
      have HGW : Hid ((Value.slice Av (vals (L.drop (p + 1)).reverse).length capv).ownBlock ≠ some gs) := fun e => hv3.ne_own s3.own (by decide) gs e rfl
      have K3 := Lib.hid k3
      clear s3 hv3 b3 k3 HT
      go_wp2_with (at_builtin; refine wpList_append_OwnS _ rfl (.tmp 18) (.tmp 26) 47 rfl 3 i0 (.int .i64 0) 1 8 Try.underlying47 hi hz0 hz1 hz2 rfl h01 (.slice Av (vals (L.drop (p + 1)).reverse).length capv) (vals (L.drop (p + 1)).reverse).length (ints (vals (L.drop (p + 1)).reverse)) rfl HV3.out (.slice (some ⟨w3.heap.size, 0, none⟩) 1 1) 1 (ints [xb]) rfl HSR.out (ints_one _) hL1 hL2 ?_; intro v4 w4 o4 k4 n4; obtain ⟨A4, cap4, rfl, _, _⟩ := o4.shape; have s4 := (HS3.out.kept ((Keep.refl (fun _ => False) w3).alloc (.cells #[.int .i64 xb] 3)) (fun h => h) (fun _ _ h => h)).kept k4 HGV.out (fun i hi e => by (simp [Value.ownBlock] at hi; subst hi; exact HGW.out e)); have hb4 : ∀ i, w4.cell? ⟨g, i, none⟩ = #[.slice (some ⟨gs, off, none⟩) room cap, .int .i64 first, .int .i64 ((p : Int) + 1)][i]? := (fun i => by have := s4.blk.cell i; simpa using this); have hf4 := s4.blk.frozen; have hl4 := s4.blk.lt; have S4 := Lib.hid s4; have O4 := Lib.hid o4; have K4 := Lib.hid k4; have N4 := Lib.hid n4; clear o4 k4 n4 s4 hb')
      have hng4 : (Value.slice A4 ((vals (L.drop (p + 1)).reverse).length + 1) cap4).ownBlock ≠ some g := O4.out.ne_blk S4.out.blk (by decide)
      have hless := S4.out.less (by simpa [Value.ownBlock] using hne)
      have hR5 : Ring (w4.setCell ⟨g, 2, none⟩ (.int .i64 (p : Nat))) g gs off cap room (c.set ((first + p) % c.length) (0, 0)) first (L.take p) := ⟨by rw [HLP.out]; exact hless, HRL.out, HASC.out⟩
      have hO5 : OwnS (w4.setCell ⟨g, 2, none⟩ (.int .i64 (p : Nat))) 3 1 (.slice A4 ((vals (L.drop (p + 1)).reverse).length + 1) cap4) (vals (L.drop p).reverse).length (ints (vals (L.drop p).reverse)) := by
        have := O4.out.far (p := ⟨g, 2, none⟩) hng4 (.int .i64 (p : Nat))
        rw [← ints_append] at this
        rw [HDR.out]
        simpa [vals] using this
      have hK5 : Keep (fun k => k = g ∨ k = gs) w (w4.setCell ⟨g, 2, none⟩ (.int .i64 (p : Nat))) := by
        have ka : Keep (fun k => k = g ∨ k = gs) w (w3.alloc (.cells #[.int .i64 xb] 3)) := (HK.out.step K3.out (fun i _ e => .inr e)).alloc _
        exact (ka.step K4.out (fun i hi e => by have := HG.out.2 i e; omega)).setCell (fun _ => .inl rfl) _
      have hG5 : Given w (w4.setCell ⟨g, 2, none⟩ (.int .i64 (p : Nat))) (.slice A4 ((vals (L.drop (p + 1)).reverse).length + 1) cap4) (vals (L.drop p).reverse) := ⟨hO5, fun i hi => by
        rcases N4.out i hi with e | e
        · exact HG.out.2 i e
        · have h1 := HK.out.size
          have h2 := K3.out.size
          simp at e
          omega⟩
      have R5 := Lib.hid hR5
      have G5 := Lib.hid hG5
      have K5 := Lib.hid hK5
      clear hng4 hless hR5 hO5 hK5 hG5 hb4 hf4 hl4
      go_roundg (p - n)
      case measure => omega
      case rel => exact ⟨p, _, _, by omega, by omega, rfl, rfl, R5.out, G5.out, K5.out⟩
    · obtain rfl : q = n := by omega
      have t1 : decide ((q : Int) < (q : Int)) = false := by simp
      have t1' : decide (q < q) = false := by simp
      go_wp2_with fail
      go_ret
      exact ⟨_, rfl, HG.out, ⟨_, _, HR2.out⟩, HK.out⟩
end Go.Proofs.Ytfckbgifmajbjaa
