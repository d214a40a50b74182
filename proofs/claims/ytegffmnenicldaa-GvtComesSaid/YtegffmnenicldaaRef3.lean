/-
  The document's worker: Start, Acked.
-/
import Derived.Test.YtegffmnenicldaaRef2
namespace Go.Proofs.Ytegffmnenicldaa
open Go.RowKit Go.Maps
attribute [local go_sem ↓] Go.wp_at_zero Go.wp_at_succ run_min

theorem RWork.begin {w : World} {g : Nat} {vn va : Value} {s : GW} (h : RWork w g vn va s) (r : Int) : RWork ((w.setCell ⟨g, 2, none⟩ (.int .i64 r)).setCell ⟨g, 3, none⟩ (.int .i64 1073741825)) g vn va ⟨r, s.l, 1073741825⟩ := by
  have hgn : vn.ownBlock ≠ some g := h.on.ne_blk h.blk (by decide)
  have hga : va.ownBlock ≠ some g := h.oa.ne_blk h.blk (by decide)
  refine ⟨?_, (h.on.far (p := ⟨g, 2, none⟩) hgn _).far (p := ⟨g, 3, none⟩) hgn _, (h.oa.far (p := ⟨g, 2, none⟩) hga _).far (p := ⟨g, 3, none⟩) hga _, h.ne⟩
  have := (h.blk.set_ 2 (.int .i64 r)).set_ 3 (.int .i64 1073741825)
  simpa using this
set_option maxHeartbeats 1000000 in
theorem rstart_any (g k : Nat) (vn va : Value) (s : GW) (round : Int) (A : Option Addr) (c : Nat) (l : List Int) (w : World) (h : RWork w g vn va s) (ho : s.Ok k) (hk : k ≤ 100000) (hl : IntsAt w A l) (hn : l.length ≤ 100000) :
    Calls Try.prog 36 #[.pointer (some ⟨g, 0, none⟩), .int .i64 round, .slice A l.length c] w fun e w' => e = .returned (.tuple #[.int .i64 (s.start round l).1, .int .i64 (s.start round l).2.1]) ∧ RPost g vn va (s.start round l).2.2 w w' := by
  have hb := h.blk.cell
  have hg := h.blk.lt
  have hno := ho.no
  have hlen := ho.len
  have HS := Lib.hid h
  have HL := Lib.hid hl
  unfold GW.start
  by_cases h1 : round ≠ s.no + 1
  · rw [if_pos h1]
    have t1 : (round != s.no + 1) = true := by simpa using h1
    clear h h1 hl
    go_enter Try.func36, Try.ntmps36
    go_wp2_with fail
    go_ret2
    exact ⟨rfl, RPost.same HS.out (Keep.refl _ _)⟩
  rw [if_neg h1]
  have t1 : (round != s.no + 1) = false := by simpa using h1
  have hopen := fun W (f : Fresh w W) => ropen_any g vn va s W (h.fresh f) (by omega)
  have hmo := foldl_min_le (s.l.map (·.2)) 1073741825
  have hmo1 : minOf (s.l.map (·.2)) ≤ 1073741825 := hmo.1
  have hmo0 : 0 ≤ minOf (s.l.map (·.2)) := foldl_min_low (fun x hx => by obtain ⟨p, hp, rfl⟩ := List.mem_map.1 hx; exact (ho.at_ p hp).2.2.1) (by omega)
  obtain ⟨M, hM⟩ : ∃ M, minOf (s.l.map (·.2)) = M := ⟨_, rfl⟩
  rw [hM] at hmo1 hmo0 ⊢
  have HP : Hid (∀ W, Fresh w W → Calls Try.prog 15 #[.pointer (some ⟨g, 0, none⟩)] W fun e w' => e = .returned (.int .i64 M) ∧ Fresh W w') := by rw [← hM]; exact hopen
  have hlow := ho.low
  have KK : Hid (∀ W, Fresh w W → Fresh w W ∧ Blk W g 30 #[vn, va, .int .i64 s.no, .int .i64 s.low]) := fun W f => ⟨f, f.blk_ HS.out.blk⟩
  have FD : Fresh w w.drew := (Keep.refl _ _).drew
  have kX := fun (W : World) (h : Blk W g 30 #[vn, va, .int .i64 s.no, .int .i64 s.low]) (i : Nat) => h.cell i
  clear hopen hM hmo h h1 hl
  have hcase : l.all timeB = false ∨ l.all timeB = true := by cases l.all timeB <;> simp
  rcases hcase with hal | hal
  all_goals
    first | rw [if_pos hal] | rw [if_neg (by rw [hal]; simp)]
    have HAL := Lib.hid hal
    clear hal
    go_enter Try.func36, Try.ntmps36
    go_wp2_with fail
    clear hb
    go_region_held3 (fun W => Fresh w W ∧ Blk W g 30 #[vn, va, .int .i64 s.no, .int .i64 s.low])
      (exact KK.out _ (by (repeat (first | (with_reducible exact Keep.refl _ _) | (with_reducible assumption) | (with_reducible refine Keep.drew ?_) | (with_reducible refine Keep.drewN ?_ _) | (with_reducible refine Keep.alloc ?_ _) | (with_reducible refine Keep.setCell ?_ ?_ _) | (with_reducible refine fun _ => rfl)))))
      (first
        | (go_at_call 15; (with_reducible refine (HP.out _ (by assumption)).mono ?_); rintro e w3 ⟨rfl, f3⟩; have f3 := Keep.step (S := fun _ => False) (by assumption : Fresh w _) f3 (fun _ _ h => h)))
    go_split_ands
    have F3 := Lib.hid f3
    clear kX FD
    go_wp2_with fail
    go_loopg [8, 9] l.length (fun gk m u wr => ∃ q : Nat, q ≤ l.length ∧ gk = l.length - q ∧ m = .int .i64 ((l.take q).foldl min (min M s.low)) ∧ u = .int .i64 q ∧ Fresh w wr ∧ (l.take q).all timeB = true)
    case atStart => exact ⟨0, by omega, rfl, rfl, rfl, F3.out, by simp⟩
    case round =>
      clear F3 HP
      obtain ⟨q, hq, rfl, rfl, rfl, hF, hT⟩ := hrel
      have HF := Lib.hid hF
      have HT := Lib.hid hT
      clear hF hT
      by_cases hlt : q < l.length
      · obtain ⟨x, hx⟩ : ∃ x, l[q]? = some x := ⟨_, List.getElem?_eq_getElem hlt⟩
        obtain ⟨b0, off, rfl, lt0, hc⟩ := HL.out.fresh HF.out q x hx
        have HA := Lib.hid (all_take hx HT.out)
        have HX := Lib.hid (foldl_take hx (min M s.low))
        have HC := Lib.hid (rtime_any x wr)
        cases htx : timeB x
        · rw [htx] at HC
          have HN := Lib.hid (all_not hx htx)
          clear htx hx
          first
            | (go_wp2_with (go_at_call 42; refine HC.out.mono ?_; rintro e w2 ⟨rfl, rfl⟩); go_ret2; exact ⟨rfl, RPost.same HS.out HF.out⟩)
            | (exfalso; have := HN.out; rw [HAL.out] at this; cases this)
        · rw [htx] at HC HA
          clear htx hx
          go_wp2_with (go_at_call 42; refine HC.out.mono ?_; rintro e w2 ⟨rfl, rfl⟩)
          go_roundg (l.length - (q + 1))
          case measure => omega
          case rel => exact ⟨q + 1, by omega, rfl, by rw [HX.out], by go_num, HF.out, HA.out⟩
      · obtain rfl : q = l.length := by omega
        have hT := HT.out
        rw [List.take_length] at hT
        first
          | (exfalso; rw [HAL.out] at hT; cases hT; done)
          | (have hb4 := (HF.out.blk_ HS.out.blk).cell
             have hf4 := (HF.out.blk_ HS.out.blk).frozen
             have hl4 := (HF.out.blk_ HS.out.blk).lt
             have HSb := Lib.hid ((HS.out.fresh HF.out).begin round)
             have HTL := Lib.hid (List.take_length (l := l))
             clear hT
             go_wp2_with fail
             go_ret2
             exact ⟨by rw [HTL.out]; rfl, vn, va, HSb.out, Keep.setCell (Keep.setCell (HF.out.more (fun _ _ h => h.elim)) (fun _ => .inl rfl) _) (fun _ => .inl rfl) _, fun k hk => .inl hk⟩)
end Go.Proofs.Ytegffmnenicldaa
