/-
  gvt.Worker: Start.
-/
import Derived.Test.YtegffmnenicldaaWork2
namespace Go.Proofs.Ytegffmnenicldaa
open Go.RowKit Go.Maps
attribute [local go_sem ↓] Go.wp_at_zero Go.wp_at_succ run_min

theorem all_take {l : List Int} {k : Nat} {x : Int} (hx : l[k]? = some x) (h : (l.take k).all timeB = true) : (l.take (k + 1)).all timeB = timeB x := by
  rw [List.take_add_one, hx]
  simp [h]
theorem all_not {l : List Int} {k : Nat} {x : Int} (hx : l[k]? = some x) (h : timeB x = false) : l.all timeB = false := by
  rw [Bool.eq_false_iff]
  intro ha
  rw [List.all_eq_true] at ha
  have := ha x (List.mem_of_getElem? hx)
  rw [h] at this
  cases this
theorem foldl_take {l : List Int} {k : Nat} {x : Int} (hx : l[k]? = some x) (a : Int) : (l.take (k + 1)).foldl min a = min ((l.take k).foldl min a) x := by
  rw [List.take_add_one, hx, List.foldl_append]
  rfl
theorem SWork.begin {w : World} {g b K : Nat} {s : GW} (h : SWork w g b K s) (r : Int) : SWork ((w.setCell ⟨g, 0, none⟩ (.int .i64 r)).setCell ⟨g, 2, none⟩ (.int .i64 1073741825)) g b (K + 1) ⟨r, s.l, 1073741825⟩ := by
  have k1 : Keep (fun k => k = g) w ((w.setCell ⟨g, 0, none⟩ (.int .i64 r)).setCell ⟨g, 2, none⟩ (.int .i64 1073741825)) := Keep.setCell (Keep.setCell (S := fun k => k = g) (Keep.refl _ _) (fun _ => rfl) _) (fun _ => rfl) _
  refine ⟨?_, (h.map.keep k1 (fun e => h.map.ne_blk h.blk e.symm)).more⟩
  have := (h.blk.set_ 0 (.int .i64 r)).set_ 2 (.int .i64 1073741825)
  simpa using this
set_option maxHeartbeats 1000000 in
theorem start_any (g b K k : Nat) (s : GW) (round : Int) (A : Option Addr) (c : Nat) (l : List Int) (w : World) (h : SWork w g b K s) (ho : s.Ok k) (hk : k ≤ 100000) (hl : IntsAt w A l) (hn : l.length ≤ 100000) :
    Calls Try.prog 17 #[.pointer (some ⟨g, 0, none⟩), .int .i64 round, .slice A l.length c] w fun e w' => e = .returned (.tuple #[.int .i64 (s.start round l).1, .int .i64 (s.start round l).2.1]) ∧ SWork w' g b (K + 1) (s.start round l).2.2 ∧ Keep (fun k => k = g ∨ k = b) w w' := by
  have hb := h.blk.cell
  have hg := h.blk.lt
  have hno := ho.no
  have HS := Lib.hid h
  have HL := Lib.hid hl
  unfold GW.start
  by_cases h1 : round ≠ s.no + 1
  · rw [if_pos h1]
    have t1 : (round != s.no + 1) = true := by simpa using h1
    clear h h1 hl
    go_enter Try.func17, Try.ntmps17
    go_wp2_with (go_at_call 37; refine (follows_any s.no (by omega) _).mono ?_; rintro e w1 ⟨rfl, f1⟩)
    go_ret2
    exact ⟨rfl, (HS.out.fresh f1).more, f1.more (fun _ _ h => h.elim)⟩
  rw [if_neg h1]
  have t1 : (round != s.no + 1) = false := by simpa using h1
  have T1 := Lib.hid (show round = s.no + 1 by omega)
  clear h h1 hl
  by_cases hal : l.all timeB = false
  · rw [if_pos hal]
    have HAL := Lib.hid hal
    clear hal
    go_enter Try.func17, Try.ntmps17
    go_wp2_with (go_at_call 37; refine (follows_any s.no (by omega) _).mono ?_; rintro e w1 ⟨rfl, f1⟩)
    have F1 := Lib.hid f1
    clear f1
    go_loopg [25] l.length (fun gk u wr => ∃ q : Nat, q ≤ l.length ∧ gk = l.length - q ∧ u = .int .i64 q ∧ Fresh w wr ∧ (l.take q).all timeB = true)
    case atStart => exact ⟨0, by omega, rfl, rfl, F1.out, by simp⟩
    case round =>
      obtain ⟨q, hq, rfl, rfl, hF, hT⟩ := hrel
      have HF := Lib.hid hF
      have HT := Lib.hid hT
      clear hF hT
      by_cases hlt : q < l.length
      · obtain ⟨x, hx⟩ : ∃ x, l[q]? = some x := ⟨_, List.getElem?_eq_getElem hlt⟩
        obtain ⟨b0, off, rfl, lt0, hc⟩ := HL.out.fresh HF.out q x hx
        have HX := Lib.hid hx
        have HA := Lib.hid (all_take hx HT.out)
        have HC := Lib.hid (time_any x wr)
        clear hx
        cases htx : timeB x
        · rw [htx] at HC
          have HN := Lib.hid (all_not HX.out htx)
          clear htx
          go_wp2_with (go_at_call 38; refine HC.out.mono ?_; rintro e w2 ⟨rfl, rfl⟩)
          go_ret2
          exact ⟨rfl, (HS.out.fresh HF.out).more, HF.out.more (fun _ _ h => h.elim)⟩
        · rw [htx] at HC HA
          clear htx
          go_wp2_with (go_at_call 38; refine HC.out.mono ?_; rintro e w2 ⟨rfl, rfl⟩)
          go_roundg (l.length - (q + 1))
          case measure => omega
          case rel => exact ⟨q + 1, by omega, rfl, by go_num, HF.out, HA.out⟩
      · obtain rfl : q = l.length := by omega
        have hall : l.all timeB = true := by have := HT.out; rwa [List.take_length] at this
        rw [HAL.out] at hall
        cases hall
  · rw [if_neg hal]
    have hal : l.all timeB = true := by simpa using hal
    have HAL := Lib.hid hal
    have hopen := fun W (f : Fresh w W) => open_any g b K k s W (HS.out.fresh f) ho hk
    have hmo := foldl_min_le (s.l.map (·.2)) 1073741825
    have hmo1 : minOf (s.l.map (·.2)) ≤ 1073741825 := hmo.1
    have hmo0 : 0 ≤ minOf (s.l.map (·.2)) := foldl_min_low (fun x hx => by obtain ⟨p, hp, rfl⟩ := List.mem_map.1 hx; exact (ho.at_ p hp).2.2.1) (by omega)
    obtain ⟨M, hM⟩ : ∃ M, minOf (s.l.map (·.2)) = M := ⟨_, rfl⟩
    rw [hM] at hmo1 hmo0 ⊢
    have HP : Hid (∀ W, Fresh w W → Calls Try.prog 13 #[.pointer (some ⟨g, 0, none⟩)] W fun e w' => e = .returned (.tuple #[.int .i64 (s.l.length : Nat), .int .i64 M]) ∧ Fresh W w') := by rw [← hM]; exact hopen
    have hlow := ho.low
    clear hopen hM hmo hal
    go_enter Try.func17, Try.ntmps17
    go_wp2_with (go_at_call 37; refine (follows_any s.no (by omega) _).mono ?_; rintro e w1 ⟨rfl, f1⟩)
    have F1 := Lib.hid f1
    clear f1
    go_loopg [25] l.length (fun gk u wr => ∃ q : Nat, q ≤ l.length ∧ gk = l.length - q ∧ u = .int .i64 q ∧ Fresh w wr ∧ (l.take q).all timeB = true)
    case atStart => exact ⟨0, by omega, rfl, rfl, F1.out, by simp⟩
    case round =>
      obtain ⟨q, hq, rfl, rfl, hF, hT⟩ := hrel
      have HF := Lib.hid hF
      have HT := Lib.hid hT
      clear hF hT
      by_cases hlt : q < l.length
      · obtain ⟨x, hx⟩ : ∃ x, l[q]? = some x := ⟨_, List.getElem?_eq_getElem hlt⟩
        obtain ⟨b0, off, rfl, lt0, hc⟩ := HL.out.fresh HF.out q x hx
        have HX := Lib.hid hx
        have HA := Lib.hid (all_take hx HT.out)
        have HC := Lib.hid (time_any x wr)
        clear hx
        cases htx : timeB x
        · rw [htx] at HC
          have HN := Lib.hid (all_not HX.out htx)
          clear htx
          have := HN.out
          rw [HAL.out] at this
          cases this
        · rw [htx] at HC HA
          clear htx
          go_wp2_with (go_at_call 38; refine HC.out.mono ?_; rintro e w2 ⟨rfl, rfl⟩)
          go_roundg (l.length - (q + 1))
          case measure => omega
          case rel => exact ⟨q + 1, by omega, rfl, by go_num, HF.out, HA.out⟩
      · obtain rfl : q = l.length := by omega
        have HS1 := Lib.hid (HS.out.fresh HF.out)
        have HC1 : Hid (∀ W, Fresh wr W → ∀ i, W.cell? ⟨g, i, none⟩ = #[.int .i64 s.no, .map (some b), .int .i64 s.low][i]?) := fun W f => (f.blk_ HS1.out.blk).cell
        go_wp2_with (go_at_call 13; refine (HP.out _ HF.out).mono ?_; rintro e w3 ⟨rfl, f3⟩; have hb3 := HC1.out _ f3; have F3 := Lib.hid f3; clear f3)
        go_loopg [11, 46] l.length (fun gk m u wq => ∃ q : Nat, q ≤ l.length ∧ gk = l.length - q ∧ m = .int .i64 ((l.take q).foldl min (min M s.low)) ∧ u = .int .i64 q ∧ Fresh w wq)
        case atStart => exact ⟨0, by omega, rfl, rfl, rfl, HF.out.step F3.out (fun _ _ h => h)⟩
        case round =>
          clear HF HP HC1 hb3 F3 HS1
          obtain ⟨q, hq, rfl, rfl, rfl, hF⟩ := hrel
          have HF := Lib.hid hF
          clear hF
          by_cases hlt : q < l.length
          · obtain ⟨x, hx⟩ : ∃ x, l[q]? = some x := ⟨_, List.getElem?_eq_getElem hlt⟩
            obtain ⟨b0, off, rfl, lt0, hc⟩ := HL.out.fresh HF.out q x hx
            have HX := Lib.hid (foldl_take hx (min M s.low))
            clear hx
            go_wp2_with fail
            go_roundg (l.length - (q + 1))
            case measure => omega
            case rel => exact ⟨q + 1, by omega, rfl, by rw [HX.out], by go_num, HF.out⟩
          · obtain rfl : q = l.length := by omega
            have hb4 := (HF.out.blk_ HS.out.blk).cell
            have hf4 := (HF.out.blk_ HS.out.blk).frozen
            have hl4 := (HF.out.blk_ HS.out.blk).lt
            have HSb := Lib.hid ((HS.out.fresh HF.out).begin round)
            go_wp2_with fail
            go_ret2
            refine ⟨by rw [List.take_length]; rfl, HSb.out, ?_⟩
            exact Keep.setCell (Keep.setCell (HF.out.more (fun _ _ h => h.elim)) (fun _ => .inl rfl) _) (fun _ => .inl rfl) _
end Go.Proofs.Ytegffmnenicldaa
