/-
  The document's worker: Acked.
-/
import Derived.Test.YtegffmnenicldaaRef3
namespace Go.Proofs.Ytegffmnenicldaa
open Go.RowKit Go.Maps
attribute [local go_sem ↓] Go.wp_at_zero Go.wp_at_succ run_min

theorem dropKey_erase : ∀ (l : List (Int × Int)) (j : Nat) (p : Int × Int), (l.map (·.1)).Nodup → l[j]? = some p → dropKey l p.1 = l.eraseIdx j
  | [], _, _, _, h => by simp at h
  | q :: l, 0, p, hn, h => by
    simp at h
    subst h
    simp only [List.map_cons, List.nodup_cons] at hn
    have : dropKey l q.1 = l := by
      unfold dropKey
      rw [List.filter_eq_self]
      intro r hr
      have : r.1 ≠ q.1 := fun e => hn.1 (by rw [← e]; exact List.mem_map_of_mem hr)
      simpa using this
    have e2 : dropKey (q :: l) q.1 = dropKey l q.1 := by simp [dropKey]
    rw [e2, this]
    rfl
  | q :: l, j + 1, p, hn, h => by
    simp only [List.map_cons, List.nodup_cons] at hn
    have h' : l[j]? = some p := by simpa using h
    have hne : (q.1 == p.1) = false := by
      rw [beq_eq_false_iff_ne]
      intro e
      exact hn.1 (by rw [e]; exact List.mem_map_of_mem (List.mem_of_getElem? h'))
    have e2 : dropKey (q :: l) p.1 = q :: dropKey l p.1 := by simp [dropKey, hne]
    rw [e2, dropKey_erase l j p hn.2 h']
    rfl
/-- what is copied of the first q, without number j -/
def part (l : List (Int × Int)) (j q : Nat) : List (Int × Int) := (l.take q).eraseIdx j
theorem part_zero (l : List (Int × Int)) (j : Nat) : part l j 0 = [] := by simp [part]
theorem part_all (l : List (Int × Int)) (j : Nat) : part l j l.length = l.eraseIdx j := by simp [part]
theorem part_skip (l : List (Int × Int)) (j : Nat) : part l j (j + 1) = part l j j := by
  unfold part
  by_cases h : j < l.length
  · rw [List.take_add_one, List.getElem?_eq_getElem h]
    have hl : (l.take j).length = j := by rw [List.length_take]; omega
    rw [List.eraseIdx_append_of_length_le (by omega), hl, Nat.sub_self]
    have h2 := List.eraseIdx_of_length_le (show (l.take j).length ≤ j by omega)
    rw [h2]
    simp
  · rw [List.take_of_length_le (by omega), List.take_of_length_le (by omega)]
theorem part_more (l : List (Int × Int)) (j q : Nat) (p : Int × Int) (hp : l[q]? = some p) (hne : q ≠ j) : part l j (q + 1) = part l j q ++ [p] := by
  unfold part
  have hq := (List.getElem?_eq_some_iff.1 hp).1
  have hl : (l.take q).length = q := by rw [List.length_take]; omega
  rw [List.take_add_one, hp]
  by_cases h : j < q
  · rw [List.eraseIdx_append_of_lt_length (by omega)]
    rfl
  · rw [List.eraseIdx_of_length_le (by simp; omega), List.eraseIdx_of_length_le (by omega)]
    rfl
theorem part_len (l : List (Int × Int)) (j q : Nat) : (part l j q).length ≤ l.length := by
  unfold part
  have := List.length_eraseIdx_le (l.take q) j
  have := List.length_take_le' q l
  omega

/-- the copies so far -/
structure AInv (w1 : World) (g : Nat) (vn va : Value) (s : GW) (j q : Nat) (v1 v2 : Value) (wr : World) : Prop where
  rw_ : RWork wr g vn va s
  o1 : OwnS wr 3 1 v1 (part s.l j q).length (ints (fsts (part s.l j q)))
  o2 : OwnS wr 3 1 v2 (part s.l j q).length (ints (snds (part s.l j q)))
  ne : ∀ k, v1.ownBlock = some k → v2.ownBlock ≠ some k
  fr : Fresh w1 wr
  n1 : ∀ k, v1.ownBlock = some k → w1.heap.size ≤ k
  n2 : ∀ k, v2.ownBlock = some k → w1.heap.size ≤ k
section
variable {w1 wr w2 w3 : World} {g j q : Nat} {vn va v1 v2 v1' v2' : Value} {s : GW}
theorem AInv.skip (h : AInv w1 g vn va s j j v1 v2 wr) : AInv w1 g vn va s j (j + 1) v1 v2 wr :=
  ⟨h.rw_, by rw [part_skip]; exact h.o1, by rw [part_skip]; exact h.o2, h.ne, h.fr, h.n1, h.n2⟩
theorem AInv.step {o o' : Obj} {p : Int × Int} (h : AInv w1 g vn va s j q v1 v2 wr) (hw : ∀ k, foot g vn va k → k < w1.heap.size) (hp : s.l[q]? = some p) (hne : q ≠ j)
    (a2 : OwnS w2 3 1 v1' ((part s.l j q).length + 1) (ints (fsts (part s.l j q)) ++ ints [p.1])) (k2 : Keep (fun k => v1.ownBlock = some k) (wr.alloc o) w2) (m2 : ∀ k, v1'.ownBlock = some k → v1.ownBlock = some k ∨ (wr.alloc o).heap.size ≤ k)
    (a3 : OwnS w3 3 1 v2' ((part s.l j q).length + 1) (ints (snds (part s.l j q)) ++ ints [p.2])) (k3 : Keep (fun k => v2.ownBlock = some k) (w2.alloc o') w3) (m3 : ∀ k, v2'.ownBlock = some k → v2.ownBlock = some k ∨ (w2.alloc o').heap.size ≤ k) :
    AInv w1 g vn va s j (q + 1) v1' v2' w3 := by
  have f1 : Fresh w1 (wr.alloc o) := h.fr.alloc o
  have f2 : Fresh w1 w2 := f1.step k2 (fun i hi e => by have := h.n1 i e; omega)
  have f3 : Fresh w1 w3 := (f2.alloc o').step k3 (fun i hi e => by have := h.n2 i e; omega)
  have hne2 : ∀ k, v1'.ownBlock = some k → v2.ownBlock ≠ some k := by
    intro k hk hv
    rcases m2 k hk with e | e
    · exact h.ne k e hv
    · have := h.o2.lt hv
      simp at e
      omega
  have b2 := (a2.alloc o').kept k3 (fun k hk hh => hne2 k hk hh)
  refine ⟨?_, ?_, ?_, ?_, f3, ?_, ?_⟩
  · exact (((h.rw_.fresh ((Keep.refl _ _).alloc o)).kept k2 (fun k hk e => by have := hw k hk; have := h.n1 k e; omega)).fresh ((Keep.refl _ _).alloc o')).kept k3 (fun k hk e => by have := hw k hk; have := h.n2 k e; omega)
  · rw [← ints_append] at b2
    rw [part_more _ _ _ p hp hne]
    simpa [fsts] using b2
  · rw [← ints_append] at a3
    rw [part_more _ _ _ p hp hne]
    simpa [snds] using a3
  · intro k hk hk'
    rcases m3 k hk' with e | e
    · exact hne2 k hk e
    · have := (a2.alloc o').lt hk
      omega
  · intro k hk
    rcases m2 k hk with e | e
    · exact h.n1 k e
    · have := f1.size; omega
  · intro k hk
    rcases m3 k hk with e | e
    · exact h.n2 k e
    · have := (f2.alloc o').size; omega
theorem AInv.done (h : AInv w1 g vn va s j s.l.length v1 v2 wr) {p : Int × Int} (hnd : (s.l.map (·.1)).Nodup) (hp : s.l[j]? = some p) :
    RPost g vn va ⟨s.no, dropKey s.l p.1, s.low⟩ w1 ((wr.setCell ⟨g, 0, none⟩ v1).setCell ⟨g, 1, none⟩ v2) := by
  have e : part s.l j s.l.length = dropKey s.l p.1 := by rw [part_all, dropKey_erase _ _ _ hnd hp]
  have h1 := h.o1
  have h2 := h.o2
  rw [e] at h1 h2
  have hg1 : v1.ownBlock ≠ some g := h1.ne_blk h.rw_.blk (by decide)
  have hg2 : v2.ownBlock ≠ some g := h2.ne_blk h.rw_.blk (by decide)
  refine ⟨v1, v2, ⟨?_, (h1.far (p := ⟨g, 0, none⟩) hg1 _).far (p := ⟨g, 1, none⟩) hg1 _, (h2.far (p := ⟨g, 0, none⟩) hg2 _).far (p := ⟨g, 1, none⟩) hg2 _, h.ne⟩, ?_, ?_⟩
  · have := (h.rw_.blk.set_ 0 v1).set_ 1 v2
    simpa using this
  · exact Keep.setCell (Keep.setCell (h.fr.more (fun _ _ h => h.elim)) (fun _ => .inl rfl) _) (fun _ => .inl rfl) _
  · rintro k (rfl | hk | hk)
    · exact .inl (.inl rfl)
    · exact .inr (h.n1 k hk)
    · exact .inr (h.n2 k hk)
end

theorem RWork.low {w : World} {g : Nat} {vn va : Value} {s : GW} (h : RWork w g vn va s) (x : Int) : RWork (w.setCell ⟨g, 3, none⟩ (.int .i64 x)) g vn va ⟨s.no, s.l, x⟩ ∧ Keep (foot g vn va) w (w.setCell ⟨g, 3, none⟩ (.int .i64 x)) := by
  have hgn : vn.ownBlock ≠ some g := h.on.ne_blk h.blk (by decide)
  have hga : va.ownBlock ≠ some g := h.oa.ne_blk h.blk (by decide)
  refine ⟨⟨?_, h.on.far (p := ⟨g, 3, none⟩) hgn _, h.oa.far (p := ⟨g, 3, none⟩) hga _, h.ne⟩, Keep.setCell (Keep.refl _ _) (fun _ => .inl rfl) _⟩
  have := h.blk.set_ 3 (.int .i64 x)
  simpa using this
theorem AInv.start {w : World} {g j : Nat} {vn va : Value} {s : GW} (h : RWork w g vn va s) : AInv w g vn va s j 0 (.slice none 0 0) (.slice none 0 0) w :=
  ⟨h, by rw [part_zero]; exact OwnS.nil _ _ _, by rw [part_zero]; exact OwnS.nil _ _ _, by simp [Value.ownBlock], Keep.refl _ _, by simp [Value.ownBlock], by simp [Value.ownBlock]⟩
/-- where the copies begin -/
def Begun (w w1 : World) (g : Nat) (vn va : Value) (s : GW) : Prop := RWork w1 g vn va s ∧ Keep (foot g vn va) w w1
theorem Begun.low {w : World} {g : Nat} {vn va : Value} {s : GW} (h : RWork w g vn va s) (x : Int) : Begun w (w.setCell ⟨g, 3, none⟩ (.int .i64 x)) g vn va ⟨s.no, s.l, x⟩ := h.low x
theorem Begun.drew {w w1 : World} {g : Nat} {vn va : Value} {s : GW} (h : Begun w w1 g vn va s) : Begun w w1.drew g vn va s := ⟨h.1.fresh (Keep.refl _ _).drew, h.2.drew⟩
theorem Begun.same {w : World} {g : Nat} {vn va : Value} {s : GW} (h : RWork w g vn va s) : Begun w w g vn va s := ⟨h, Keep.refl _ _⟩

set_option maxHeartbeats 4000000 in
theorem racked_any (g k : Nat) (vn va : Value) (s : GW) (no mark : Int) (w : World) (h : RWork w g vn va s) (ho : s.Ok k) (hk : k ≤ 100000) :
    Calls Try.prog 35 #[.pointer (some ⟨g, 0, none⟩), .int .i64 no, .int .i64 mark] w fun e w' => e = .returned (.int .i64 (s.acked no mark).1) ∧ RPost g vn va (s.acked no mark).2 w w' := by
  have hno := ho.no
  have hlen := ho.len
  have HS := Lib.hid h
  have HP := Lib.hid (place_any g vn va s no w h (by omega))
  unfold GW.acked
  by_cases h1 : keyB s.l no = false
  · rw [if_pos h1]
    have H1 := Lib.hid h1
    clear h h1
    go_enter Try.func35, Try.ntmps35
    go_wp2_with fail
    refine HP.out.mono ?_
    rintro e w2 ⟨i, rfl, hi, f2⟩
    obtain rfl : i = -1 := by
      rcases hi with ⟨h, _⟩ | ⟨j, p, _, hp, e⟩
      · exact h
      · have := keyB_iff.2 (show no ∈ s.l.map (·.1) by rw [← e]; exact List.mem_map_of_mem (List.mem_of_getElem? hp))
        rw [H1.out] at this
        cases this
    clear hi
    go_wp2_with fail
    go_ret
    exact ⟨rfl, RPost.same HS.out f2⟩
  rw [if_neg h1]
  have h1' : keyB s.l no = true := by simpa using h1
  have H1 := Lib.hid h1'
  have PLACE : Hid (∀ (i : Int), ((i = -1 ∧ keyB s.l no = false) ∨ ∃ j p, i = ((j : Nat) : Int) ∧ s.l[j]? = some p ∧ p.1 = no) → ∃ j p, i = ((j : Nat) : Int) ∧ s.l[j]? = some p ∧ p.1 = no) := fun i hi => by
    rcases hi with ⟨_, h⟩ | h
    · rw [h1'] at h; cases h
    · exact h
  by_cases h2 : mark < 0 ∨ s.no + 1 < mark
  · rw [if_pos h2]
    have hq : decide (mark < 0) = true ∨ (decide (mark < 0) = false ∧ decide (s.no + 1 < mark) = true) := by
      by_cases a : mark < 0
      · exact .inl (decide_eq_true a)
      · exact .inr ⟨decide_eq_false a, decide_eq_true (by omega)⟩
    clear h h1 h1' h2
    rcases hq with t1 | ⟨t1, t2⟩
    all_goals
      go_enter Try.func35, Try.ntmps35
      go_wp2_with fail
      refine HP.out.mono ?_
      rintro e w2 ⟨i, rfl, hi, f2⟩
      obtain ⟨j, p, rfl, hp, he⟩ := PLACE.out i hi
      have hb := (HS.out.fresh f2).blk.cell
      have j0 : decide ((j : Int) < 0) = false := by simp
      clear hi hp he
      go_wp2_with fail
      go_ret
      exact ⟨rfl, RPost.same HS.out f2⟩
  rw [if_neg h2]
  have t1 : decide (mark < 0) = false := decide_eq_false (by omega)
  have t2 : decide (s.no + 1 < mark) = false := decide_eq_false (by omega)
  have hcase : (s.no < mark ∧ decide (s.no < mark) = true) ∨ (¬ s.no < mark ∧ decide (s.no < mark) = false) := by
    by_cases a : s.no < mark
    · exact .inl ⟨a, decide_eq_true a⟩
    · exact .inr ⟨a, decide_eq_false a⟩
  have hnd := Lib.hid ho.nd
  have hlow := ho.low
  have hat := Lib.hid ho.at_
  obtain ⟨i0, hi, hz0, hz1, hz2⟩ := info_parts info_int
  have h01 : 0 < 1 := by omega
  clear h h1 h1' h2
  rcases hcase with ⟨t3', t3⟩ | ⟨t3', t3⟩
  all_goals
    first | rw [if_pos t3'] | rw [if_neg t3']
    clear t3'
    go_enter Try.func35, Try.ntmps35
    go_wp2_with fail
    refine HP.out.mono ?_
    rintro e w2 ⟨i, rfl, hi', f2⟩
    obtain ⟨j, p, rfl, hp, rfl⟩ := PLACE.out i hi'
    have hjl := (List.getElem?_eq_some_iff.1 hp).1
    have hS2 := HS.out.fresh f2
    have HS2 := Lib.hid hS2
    have F2 := Lib.hid f2
    obtain ⟨An, capn, rfl, hcn, hmn⟩ := hS2.on.shape
    obtain ⟨ga, offa, capa, rfl, la, hca, hma, hcca⟩ := hS2.oa.form (by omega)
    have hmn : capn ≤ 9223372036854775807 := by unfold maxLen at hmn; omega
    have hma : capa ≤ 9223372036854775807 := by unfold maxLen at hma; omega
    have cj := hcca j (.int .i64 p.2) (by simp [ints, snds, hp])
    have hb := hS2.blk.cell
    have hfz := hS2.blk.frozen
    have hlt := hS2.blk.lt
    have hval : valOf s.l p.1 = p.2 := valOf_mem hnd.out (List.mem_of_getElem? hp)
    have HVAL := Lib.hid hval
    have HPJ := Lib.hid hp
    have j0 : decide ((j : Int) < 0) = false := by simp
    have j1 : (0 : Int) ≤ (j : Int) := by omega
    have j2 : (j : Int) < (s.l.length : Int) := by omega
    clear hi' hp hS2 f2 hcca hval
    have B1 : Hid (Begun w2 (w2.drew.setCell ⟨g, 3, none⟩ (.int .i64 (min s.low p.2))) g (.slice An s.l.length capn) (.slice (some ⟨ga, offa, none⟩) s.l.length capa) ⟨s.no, s.l, min s.low p.2⟩) := ⟨(HS2.out.fresh (Keep.refl _ _).drew).low _ |>.1, Keep.setCell (Keep.drew (Keep.refl _ _)) (fun _ => .inl rfl) _⟩
    have B2 : Hid (Begun w2 w2 g (.slice An s.l.length capn) (.slice (some ⟨ga, offa, none⟩) s.l.length capa) s) := Begun.same HS2.out
    go_wp2_with fail
    first
      | (go_still_tail 15, (by kernel_rfl)
         go_wp2_with fail)
      | skip
    obtain ⟨LOW, hLOW⟩ : ∃ LOW, LOW = (if s.no < mark then min s.low p.2 else s.low) := ⟨_, rfl⟩
    have HLOW := Lib.hid hLOW
    clear hLOW
    go_loopg [8, 9, 10] s.l.length (fun gk a d u wr => ∃ (q : Nat) (v1 v2 : Value) (W1 : World), q ≤ s.l.length ∧ gk = s.l.length - q ∧ a = v1 ∧ d = v2 ∧ u = .int .i64 q ∧ Begun w2 W1 g (.slice An s.l.length capn) (.slice (some ⟨ga, offa, none⟩) s.l.length capa) ⟨s.no, s.l, LOW⟩ ∧ AInv W1 g (.slice An s.l.length capn) (.slice (some ⟨ga, offa, none⟩) s.l.length capa) ⟨s.no, s.l, LOW⟩ j q v1 v2 wr)
    case atStart =>
      refine ⟨0, _, _, _, by omega, rfl, rfl, rfl, rfl, ?_, AInv.start ?_⟩
      all_goals rw [HLOW.out]
      all_goals first
        | (rw [if_pos (of_decide_eq_true t3)]; first | exact B1.out | exact B1.out.drew | exact B1.out.1 | exact B1.out.drew.1)
        | (rw [if_neg (of_decide_eq_false t3)]; first | exact B2.out | exact B2.out.1)
    case round =>
      clear B1 B2 HP hb hfz hlt cj
      obtain ⟨q, v1, v2, W1, hq, rfl, rfl, rfl, rfl, hB, hA⟩ := hrel
      have HB := Lib.hid hB
      have HA := Lib.hid hA
      obtain ⟨A1, cap1, rfl, hc1, hm1⟩ := hA.o1.shape
      obtain ⟨A2, cap2, rfl, hc2, hm2⟩ := hA.o2.shape
      have hpl := part_len s.l j q
      have hb := hA.rw_.blk.cell
      have hfz := hA.rw_.blk.frozen
      have hlt := hA.rw_.blk.lt
      clear hB hA
      by_cases hql : q < s.l.length
      · obtain ⟨r, hr⟩ : ∃ r, s.l[q]? = some r := ⟨_, List.getElem?_eq_getElem hql⟩
        by_cases hqj : q = j
        · subst hqj
          have u1 : ((q : Int) != (q : Int)) = false := by simp
          clear hr
          go_wp2_with fail
          go_roundg (s.l.length - (q + 1))
          case measure => omega
          case rel =>
            have hs := HA.out.skip
            exact ⟨q + 1, _, _, W1, by omega, rfl, rfl, rfl, by go_num, HB.out, hs⟩
        · have u1 : ((q : Int) != (j : Int)) = true := bne_iff_ne.2 (by omega)
          have u1' : (q != j) = true := bne_iff_ne.2 hqj
          have HQJ := Lib.hid hqj
          clear hqj
          obtain ⟨gn, offn, capn', hv, ln, _, _, hcn'⟩ := HA.out.rw_.on.form (show 0 < s.l.length by omega)
          injection hv with hv1 _ hv3
          subst hv1 hv3
          obtain ⟨ga', offa', capa', hv, la', _, _, hca'⟩ := HA.out.rw_.oa.form (show 0 < s.l.length by omega)
          injection hv with hv1 _ hv3
          injection hv1 with hv1
          injection hv1 with e1 e2 _
          subst e1 e2 hv3
          have d0 := hcn' q (.int .i64 r.1) (by simp [ints, fsts, hr])
          have d1 := hca' q (.int .i64 r.2) (by simp [ints, snds, hr])
          have q0 : (0 : Int) ≤ (q : Int) := by omega
          have q1 : (q : Int) < (s.l.length : Int) := by omega
          have HR := Lib.hid hr
          have HW : Hid (∀ k, foot g (.slice (some ⟨gn, offn, none⟩) s.l.length capn) (.slice (some ⟨ga, offa, none⟩) s.l.length capa) k → k < W1.heap.size) := HB.out.1.lt
          have hL1 : (part s.l j q).length + 1 ≤ maxLen := one_le_maxLen (by omega)
          have hL2 : ((part s.l j q).length + 1) * 8 ≤ 140737488355328 := by omega
          have HO1 := Lib.hid (HA.out.o1.alloc (.cells #[.int .i64 r.1] 3))
          have HSN : Hid (Src (wr.alloc (.cells #[.int .i64 r.1] 3)) 1 (.slice (some ⟨wr.heap.size, 0, none⟩) 1 1) 1 (ints [r.1])) := Src.one_new wr 3 1 #[.int .i64 r.1] rfl
          have HK1 : Hid (∀ w', Keep (fun k => (Value.slice A1 (part s.l j q).length cap1).ownBlock = some k) (wr.alloc (.cells #[.int .i64 r.1] 3)) w' → RWork w' g (.slice (some ⟨gn, offn, none⟩) s.l.length capn) (.slice (some ⟨ga, offa, none⟩) s.l.length capa) ⟨s.no, s.l, LOW⟩ ∧ OwnS w' 3 1 (.slice A2 (part s.l j q).length cap2) (part s.l j q).length (ints (snds (part s.l j q)))) := fun w' kk =>
            ⟨(HA.out.rw_.fresh ((Keep.refl _ _).alloc _)).kept kk (fun k hk e => by have := HW.out k hk; have := HA.out.n1 k e; omega), (HA.out.o2.alloc _).kept kk (fun k hk e => HA.out.ne k e hk)⟩
          obtain ⟨ra, rb⟩ := r
          simp only at d0 d1 HO1 HSN HK1
          clear hr hcn' hca'
          go_wp2_with (first
            | (at_builtin; refine wpList_append_OwnS _ rfl (.tmp 60) (.tmp 68) 28 rfl 3 i0 (.int .i64 0) 1 8 Try.underlying28 hi hz0 hz1 hz2 rfl h01 (.slice A1 (part s.l j q).length cap1) (part s.l j q).length (ints (fsts (part s.l j q))) rfl HO1.out (.slice (some ⟨wr.heap.size, 0, none⟩) 1 1) 1 (ints [ra]) rfl HSN.out (ints_one _) hL1 hL2 ?_; intro v4 w4 o4 k4 n4; obtain ⟨A4, cap4, rfl, _, _⟩ := o4.shape; obtain ⟨rr, oo⟩ := HK1.out w4 k4; have hb4 := rr.blk.cell; have hl4 := rr.blk.lt; have e1 := rr.oa.at_.2.2.2.2 q (.int .i64 rb) (by (have := HR.out; simp [ints, snds, this])); have HOA := Lib.hid (oo.alloc (.cells #[.int .i64 rb] 3)); have HSA : Hid (Src (w4.alloc (.cells #[.int .i64 rb] 3)) 1 (.slice (some ⟨w4.heap.size, 0, none⟩) 1 1) 1 (ints [rb])) := Src.one_new w4 3 1 #[.int .i64 rb] rfl; have O4 := Lib.hid o4; have K4 := Lib.hid k4; have N4 := Lib.hid n4; clear o4 k4 n4 rr oo)
            | (at_builtin; refine wpList_append_OwnS _ rfl (.tmp 70) (.tmp 78) 28 rfl 3 i0 (.int .i64 0) 1 8 Try.underlying28 hi hz0 hz1 hz2 rfl h01 (.slice A2 (part s.l j q).length cap2) (part s.l j q).length (ints (snds (part s.l j q))) rfl HOA.out (.slice (some ⟨w4.heap.size, 0, none⟩) 1 1) 1 (ints [rb]) rfl HSA.out (ints_one _) hL1 hL2 ?_; intro v5 w5 o5 k5 n5; obtain ⟨A5, cap5, rfl, _, _⟩ := o5.shape; have HEND := Lib.hid (HA.out.step HW.out HR.out HQJ.out O4.out K4.out N4.out o5 k5 n5); clear o5 k5 n5))
          go_roundg (s.l.length - (q + 1))
          case measure => omega
          case rel => exact ⟨q + 1, _, _, W1, by omega, rfl, rfl, rfl, by go_num, HB.out, HEND.out⟩
      · obtain rfl : q = s.l.length := by omega
        have HD := Lib.hid (HA.out.done hnd.out HPJ.out)
        have hgn1 := HA.out.o1.ne_blk HA.out.rw_.blk (by decide)
        go_wp2_with fail
        go_ret
        obtain ⟨vn', va', r1, r2, r3⟩ := HD.out
        have e0 := HLOW.out
        first | rw [if_pos (of_decide_eq_true t3), ← HVAL.out] at e0 | rw [if_neg (of_decide_eq_false t3)] at e0
        subst e0
        have kk : Keep (foot g (.slice An s.l.length capn) (.slice (some ⟨ga, offa, none⟩) s.l.length capa)) w _ := ((F2.out.more (fun _ _ h => h.elim)).trans HB.out.2).trans r2
        refine ⟨rfl, vn', va', r1, kk, fun k hk => (r3 k hk).imp id (fun h => ?_)⟩
        have := F2.out.size
        have := HB.out.2.size
        omega
end Go.Proofs.Ytegffmnenicldaa
