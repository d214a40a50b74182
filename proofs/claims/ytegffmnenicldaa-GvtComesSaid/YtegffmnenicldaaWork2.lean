/-
  gvt.Worker: Acked, Open, Start.
-/
import Derived.Test.YtegffmnenicldaaWork
import Derived.Test.YtegffmnenicldaaContains
namespace Go.Proofs.Ytegffmnenicldaa
open Go.RowKit Go.Maps
attribute [local go_sem ↓] Go.wp_at_zero Go.wp_at_succ run_min

theorem SWork.ack {w w' : World} {g b n K : Nat} {s : GW} {D : DataW Unit} {no : Int} {low : Int} (hblk : Blk w g 70 #[.int .i64 s.no, .map (some b), .int .i64 low]) (hn : n ≤ K) (hown : w.ownsMap (H := Unit) Try.prog 3 (plainElem Try.prog 3) b n D) (hrd : Rd D s.l) (hnd : (s.l.map (·.1)).Nodup) (hk : keyB s.l no = true)
    (o1 : w'.ownsMap (H := Unit) Try.prog 3 (plainElem Try.prog 3) b n (D.del (.int .i64 no))) (tn : w.mapTurned w' b) : SWork w' g b (K + 1) ⟨s.no, dropKey s.l no, low⟩ ∧ Keep (fun k => k = b) w w' := by
  have k1 := keep_turned tn
  have hm : MapIs w b K s.l := ⟨n, D, hn, hown, hrd⟩
  exact ⟨⟨hblk.keep k1 (fun e => hm.ne_blk hblk e), n, _, by omega, o1, hrd.del (hown.tidy lawI) hnd hk⟩, k1⟩
set_option maxHeartbeats 1000000 in
theorem acked_any (g b K k : Nat) (s : GW) (no mark : Int) (w : World) (h : SWork w g b K s) (ho : s.Ok k) (hk : k ≤ 100000) (hw : (Lit.int .i64 no).wf = true) :
    Calls Try.prog 33 #[.pointer (some ⟨g, 0, none⟩), .int .i64 no, .int .i64 mark] w fun e w' => e = .returned (.int .i64 (s.acked no mark).1) ∧ SWork w' g b (K + 1) (s.acked no mark).2 ∧ Keep (fun k => k = g ∨ k = b) w w' := by
  have hb := h.blk.cell
  have hfz := h.blk.frozen
  have hg := h.blk.lt
  have hno := ho.no
  have HS := Lib.hid h.more
  have hkey := keyOf_int_mk Try.underlying3 hw
  obtain ⟨n, D, hn, hown, hrd⟩ := h.map
  have hhas := hrd.has no
  have HR := Lib.hid hrd
  have HO := Lib.hid hown
  unfold GW.acked
  by_cases h1 : keyB s.l no = false
  · rw [if_pos h1]
    rw [h1] at hhas
    clear h h1 hrd hown
    go_enter Try.func33, Try.ntmps33
    go_wp2_with (at_lookup; refine wpList_lookup_own_ok_int _ rfl _ _ 66 rfl 3 3 .i64 lawI Try.underlying66 Try.underlying3 (zeroI _) b n D rfl HO.out _ _ rfl hkey ?_; intro c hat hwc; rw [hhas]; clear hat)
    go_ret
    exact ⟨rfl, HS.out, Keep.refl _ _⟩
  rw [if_neg h1]
  have h1' : keyB s.l no = true := by simpa using h1
  rw [h1'] at hhas
  have hval := hrd.val _ (keyB_mem h1' ho.nd) (.lit (.int .i64 0))
  simp only at hval
  have HV := Lib.hid hval
  have hvb := ho.val h1'
  obtain ⟨V, hV⟩ : ∃ V, valOf s.l no = V := ⟨_, rfl⟩
  rw [hV] at HV hvb ⊢
  by_cases h2 : mark < 0 ∨ s.no + 1 < mark
  · rw [if_pos h2]
    have hq : decide (mark < 0) = true ∨ (decide (mark < 0) = false ∧ decide (s.no + 1 < mark) = true) := by
      by_cases a : mark < 0
      · exact .inl (decide_eq_true a)
      · exact .inr ⟨decide_eq_false a, decide_eq_true (by omega)⟩
    clear h h1 h1' h2 hrd hown hval hV
    rcases hq with t1 | ⟨t1, t2⟩
    all_goals
      go_enter Try.func33, Try.ntmps33
      go_wp2_with (first
        | (at_lookup; refine wpList_lookup_own_ok_int _ rfl _ _ 66 rfl 3 3 .i64 lawI Try.underlying66 Try.underlying3 (zeroI _) b n D rfl HO.out _ _ rfl hkey ?_; intro c hat hwc; rw [hhas]; clear hat)
        | (go_at_call 37; refine (follows_any s.no (by omega) _).mono ?_; rintro e w1 ⟨rfl, f1⟩))
      go_ret
      first
        | exact ⟨rfl, HS.out, Keep.refl _ _⟩
        | exact ⟨rfl, HS.out.fresh f1, f1.more (fun _ _ h => h.elim)⟩
  rw [if_neg h2]
  have t1 : decide (mark < 0) = false := decide_eq_false (by omega)
  have t2 : decide (s.no + 1 < mark) = false := decide_eq_false (by omega)
  have hne : g ≠ b := fun e => h.map.ne_blk h.blk e
  have FIN : Hid (∀ W w', Fresh w W → w'.ownsMap (H := Unit) Try.prog 3 (plainElem Try.prog 3) b n (D.del (.int .i64 no)) → W.mapTurned w' b → SWork w' g b (K + 1) ⟨s.no, dropKey s.l no, s.low⟩ ∧ Keep (fun k => k = g ∨ k = b) w w') := fun W w' f o1 tn => by
    obtain ⟨n', D', hn', ⟨es, clock, he, rr⟩, hrd'⟩ := (h.map.fresh f)
    have ho2 : W.ownsMap (H := Unit) Try.prog 3 (plainElem Try.prog 3) b n D := by
      obtain ⟨es, clock, he, rr⟩ := hown
      exact ⟨es, clock, (f.block b (Array.getElem?_eq_some_iff.1 he).1 (fun h => h)).trans he, rr⟩
    obtain ⟨r1, r2⟩ := SWork.ack (f.blk_ h.blk) hn ho2 hrd ho.nd h1' o1 tn
    exact ⟨r1, (f.more (fun _ _ h => h.elim)).step r2 (fun i _ e => .inr e)⟩
  have HOF : Hid (∀ W, Fresh w W → W.ownsMap (H := Unit) Try.prog 3 (plainElem Try.prog 3) b n D) := fun W f => by
    obtain ⟨es, clock, he, rr⟩ := hown
    exact ⟨es, clock, (f.block b (Array.getElem?_eq_some_iff.1 he).1 (fun h => h)).trans he, rr⟩
  have HC : Hid (∀ W, Fresh w W → ∀ i, W.cell? ⟨g, i, none⟩ = #[.int .i64 s.no, .map (some b), .int .i64 s.low][i]?) := fun W f => (f.blk_ h.blk).cell
  by_cases h3 : s.no < mark
  · rw [if_pos h3]
    have t3 : decide (s.no < mark) = true := decide_eq_true h3
    clear h h1 h1' h2 hrd hown hval hV h3
    go_enter Try.func33, Try.ntmps33
    go_wp2_with (first
      | (at_lookup; refine wpList_lookup_own_ok_int _ rfl _ _ 66 rfl 3 3 .i64 lawI Try.underlying66 Try.underlying3 (zeroI _) b n D rfl HO.out _ _ rfl hkey ?_; intro c hat hwc; rw [hhas]; have hcV : c = V := (by have := hat.symm.trans HV.out; simpa using this); subst hcV; clear hat)
      | (go_at_call 37; refine (follows_any s.no (by omega) _).mono ?_; rintro e w1 ⟨rfl, f1⟩; have F1 := Lib.hid f1; have hb1 := HC.out _ f1; clear f1)
      | (at_delete; refine wpList_delete_own _ rfl _ _ 66 3 rfl 3 lawI Try.underlying66 _ b n D rfl (HOF.out _ F1.out) _ _ rfl hkey ?_; intro w2 o2 tn2; obtain ⟨S2, K2⟩ := FIN.out _ _ F1.out o2 tn2; have hb2 := S2.blk.cell; have hf2 := S2.blk.frozen; have hl2 := S2.blk.lt; have HS2 := Lib.hid S2; have HK2 := Lib.hid K2; clear S2 K2 o2 tn2 hb1))
    go_ret
    refine ⟨rfl, ⟨?_, HS2.out.map.keep ((Keep.refl (fun k => k = g) _).setCell (p := ⟨g, 2, none⟩) (fun _ => rfl) _) (fun e => hne e.symm)⟩, HK2.out.setCell (fun _ => .inl rfl) _⟩
    have := HS2.out.blk.set_ 2 (.int .i64 (min s.low c))
    simpa using this
  · rw [if_neg h3]
    have t3 : decide (s.no < mark) = false := decide_eq_false h3
    clear h h1 h1' h2 hrd hown hval hV h3
    go_enter Try.func33, Try.ntmps33
    go_wp2_with (first
      | (at_lookup; refine wpList_lookup_own_ok_int _ rfl _ _ 66 rfl 3 3 .i64 lawI Try.underlying66 Try.underlying3 (zeroI _) b n D rfl HO.out _ _ rfl hkey ?_; intro c hat hwc; rw [hhas]; clear hat)
      | (go_at_call 37; refine (follows_any s.no (by omega) _).mono ?_; rintro e w1 ⟨rfl, f1⟩; have F1 := Lib.hid f1; have hb1 := HC.out _ f1; clear f1)
      | (at_delete; refine wpList_delete_own _ rfl _ _ 66 3 rfl 3 lawI Try.underlying66 _ b n D rfl (HOF.out _ F1.out) _ _ rfl hkey ?_; intro w2 o2 tn2; obtain ⟨S2, K2⟩ := FIN.out _ _ F1.out o2 tn2; have hb2 := S2.blk.cell; have hf2 := S2.blk.frozen; have hl2 := S2.blk.lt; have HS2 := Lib.hid S2; have HK2 := Lib.hid K2; clear S2 K2 o2 tn2 hb1))
    go_ret
    exact ⟨rfl, HS2.out, HK2.out⟩

/-- Open -/
theorem open_any (g b K k : Nat) (s : GW) (w : World) (h : SWork w g b K s) (ho : s.Ok k) (hk : k ≤ 100000) :
    Calls Try.prog 13 #[.pointer (some ⟨g, 0, none⟩)] w fun e w' => e = .returned (.tuple #[.int .i64 (s.l.length : Nat), .int .i64 (minOf (s.l.map (·.2)))]) ∧ Fresh w w' := by
  have hb := h.blk.cell
  obtain ⟨n, D, hn, hown, hrd⟩ := h.map
  have HR := Lib.hid hrd
  have HO := Lib.hid hown
  have HH := Lib.hid h
  clear h hrd hown
  go_enter Try.func13, Try.ntmps13
  go_wp2_with (at_range; refine wpList_range_own _ rfl _ 66 rfl 3 3 lawI Try.underlying66 _ b n _ rfl HO.out ?_; intro w0 hrg0 hg0 hs0)
  go_frame
  go_loopw [4] (fun m wr => ∃ (left : Lit → Bool) (cnt : Nat) (v : Int), m = .int .i64 v ∧ wr.ranges Try.prog 3 (plainElem Try.prog 3) b w.heap.size n D left cnt ∧ Fresh w wr ∧ (0 ≤ v ∧ v ≤ 1073741825) ∧ (∀ p ∈ s.l, left (.int .i64 p.1) = false → v ≤ p.2) ∧ (v = 1073741825 ∨ ∃ p ∈ s.l, v = p.2) ∧ (∀ x, left (.int .i64 x) = true → keyB s.l x = true))
    (fun _ wr => wr.rangeLeft b w.heap.size)
  case atStart => exact ⟨_, _, _, rfl, hrg0, Keep.of_grown hg0 (fun k hk _ => by cases hk), by omega, fun p hp hl => (by rw [HR.out.has, keyB_false] at hl; exact absurd (List.mem_map_of_mem hp) hl), .inl rfl, fun x hx => (HR.out.has x).symm.trans hx⟩
  case round =>
    obtain ⟨left, cnt, v, rfl, hrg, hF, hv, h1, h2, h4⟩ := hrel
    have H4 := Lib.hid h4
    have HF := Lib.hid hF
    have H1 := Lib.hid h1
    have H2 := Lib.hid h2
    have HG := Lib.hid hrg
    clear hF h1 h2 h4 hrg hrg0 hg0 hs0
    go_wp2_with (at_next; refine wpList_next_ranges_ii _ rfl _ rfl 3 3 .i64 .i64 lawI Try.underlying3 Try.underlying3 b w.heap.size n _ _ _ rfl HG.out ?_ ?_)
    · intro _ hl0
      have hb' := (HF.out.blk_ HH.out.blk).cell
      have e1 : v = minOf (s.l.map (·.2)) := min_unique hv.2 (fun x hx => by
        obtain ⟨p, hp, rfl⟩ := List.mem_map.1 hx
        exact H1.out p hp (hl0 _)) (by
        rcases H2.out with h | ⟨p, hp, rfl⟩
        · exact .inl h
        · exact .inr (List.mem_map_of_mem hp))
      have hsz := HR.out.size
      have HSZ := Lib.hid hsz
      have HE := Lib.hid e1
      clear e1 hsz hl0
      go_wp2_with (at_len; refine wpList_len_own _ rfl _ 66 rfl 3 3 Try.underlying66 _ b n D rfl HG.out.owns ?_; rw [HSZ.out])
      go_ret2
      exact ⟨by rw [← HE.out]; rfl, HF.out⟩
    · intro x c w1 cnt1 hwx hwc hlx hat hrg1 hlt hg1 hs1 hen
      have hF1 : Fresh w w1 := HF.out.step (Keep.of_grown (S := fun k => k = w.heap.size) hg1 (fun k hk _ => by injection hk with hk; exact hk.symm)) (fun i hi e => by omega)
      have HF1 := Lib.hid hF1
      have hin : ∃ p ∈ s.l, p.1 = x ∧ p.2 = c := by
        have h5 := H4.out x hlx
        have h6 := keyB_mem h5 ho.nd
        have h7 := HR.out.val _ h6 (.lit (.int .i64 0))
        have h8 := (hat (.lit (.int .i64 0))).symm.trans h7
        exact ⟨_, h6, rfl, by simpa using h8.symm⟩
      have HIN := Lib.hid hin
      have HG1 := Lib.hid hrg1
      have HLT := Lib.hid hlt
      have hc : 0 ≤ c ∧ c ≤ 1073741825 := by
        obtain ⟨p, hp, _, rfl⟩ := hin
        exact (ho.at_ p hp).2.2
      clear hin hrg1 hlt hF1 hat hg1 hs1 hlx
      go_wp2_with fail
      go_roundw
      case rel =>
        refine ⟨_, cnt1, _, rfl, HG1.out, HF1.out, by omega, ?_, ?_, fun z hz => H4.out z (by simp only [Bool.and_eq_true] at hz; exact hz.1)⟩
        · intro p hp hl
          simp only [Bool.and_eq_false_iff] at hl
          rcases hl with hl | hl
          · have := H1.out p hp hl; omega
          · obtain ⟨q, hq, e1, e2⟩ := HIN.out
            have hpx : p.1 = x := by
              apply Classical.byContradiction
              intro hne
              rw [sameKey_ne (keyI_ne hne)] at hl
              simp at hl
            have : p = q := by
              have a1 := valOf_mem ho.nd hp
              have a2 := valOf_mem ho.nd hq
              rw [hpx] at a1
              rw [e1] at a2
              exact Prod.ext (by rw [hpx, e1]) (a1.symm.trans a2)
            subst this
            omega
        · obtain ⟨q, hq, e1, e2⟩ := HIN.out
          by_cases hvc : v ≤ c
          · rw [show min v c = v by omega]; exact H2.out
          · rw [show min v c = c by omega]; exact .inr ⟨q, hq, e2.symm⟩
      case measure => rw [HG1.out.left_eq, HG.out.left_eq]; exact HLT.out
end Go.Proofs.Ytegffmnenicldaa
