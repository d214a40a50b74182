/-
  The document's worker: each function by a contract.
-/
import Derived.Test.YtegffmnenicldaaWork3
namespace Go.Proofs.Ytegffmnenicldaa
open Go.RowKit Go.Maps
attribute [local go_sem ↓] Go.wp_at_zero Go.wp_at_succ run_min

def ints (l : List Int) : List Value := l.map fun x => .int .i64 x
theorem ints_one (l : List Int) : ∀ u ∈ ints l, u.oneCell' = true := by
  intro u hu
  simp only [ints, List.mem_map] at hu
  obtain ⟨x, _, rfl⟩ := hu
  rfl
theorem ints_append (l m : List Int) : ints (l ++ m) = ints l ++ ints m := by simp [ints]
theorem info_int : (Try.prog.info? 3).map (fun i => (i.zero, i.size, i.bytes)) = some (some (.int .i64 0), 1, 8) := by kernel_rfl
def fsts (l : List (Int × Int)) : List Int := l.map (·.1)
def snds (l : List (Int × Int)) : List Int := l.map (·.2)

def foot (g : Nat) (v v' : Value) (k : Nat) : Prop := k = g ∨ v.ownBlock = some k ∨ v'.ownBlock = some k
structure RWork (w : World) (g : Nat) (vn va : Value) (s : GW) : Prop where
  blk : Blk w g 30 #[vn, va, .int .i64 s.no, .int .i64 s.low]
  on : OwnS w 3 1 vn s.l.length (ints (fsts s.l))
  oa : OwnS w 3 1 va s.l.length (ints (snds s.l))
  ne : ∀ k, vn.ownBlock = some k → va.ownBlock ≠ some k
theorem RWork.kept {w w' : World} {g : Nat} {vn va : Value} {s : GW} {S : Nat → Prop} (h : RWork w g vn va s) (hk : Keep S w w') (hn : ∀ k, foot g vn va k → ¬ S k) : RWork w' g vn va s :=
  ⟨h.blk.keep hk (hn g (.inl rfl)), h.on.kept hk (fun k e => hn k (.inr (.inl e))), h.oa.kept hk (fun k e => hn k (.inr (.inr e))), h.ne⟩
theorem RWork.fresh {w w' : World} {g : Nat} {vn va : Value} {s : GW} (h : RWork w g vn va s) (hk : Fresh w w') : RWork w' g vn va s := h.kept hk (fun _ _ h => h)
theorem RWork.lt {w : World} {g : Nat} {vn va : Value} {s : GW} (h : RWork w g vn va s) : ∀ k, foot g vn va k → k < w.heap.size := by
  rintro k (rfl | hk | hk)
  · exact h.blk.lt
  · exact h.on.lt hk
  · exact h.oa.lt hk
theorem RWork.start0 {w : World} {g : Nat} (hb : Blk w g 30 #[.slice none 0 0, .slice none 0 0, .int .i64 0, .int .i64 1073741825]) : RWork w g (.slice none 0 0) (.slice none 0 0) ⟨0, [], 1073741825⟩ :=
  ⟨hb, OwnS.nil _ _ _, OwnS.nil _ _ _, by simp [Value.ownBlock]⟩
def Later (w : World) (g : Nat) (v v' u u' : Value) : Prop := ∀ k, foot g u u' k → foot g v v' k ∨ w.heap.size ≤ k

theorem rtime_any (x : Int) (w : World) : Calls Try.prog 42 #[.int .i64 x] w fun e w' => e = .returned (.bool (timeB x)) ∧ w = w' := by
  unfold timeB
  have hq : decide (0 ≤ x) = false ∨ (decide (0 ≤ x) = true ∧ decide (x ≤ 1073741825) = false) ∨ (decide (0 ≤ x) = true ∧ decide (x ≤ 1073741825) = true) := by
    cases decide (0 ≤ x) <;> cases decide (x ≤ 1073741825) <;> simp
  rcases hq with h1 | ⟨h1, h2⟩ | ⟨h1, h2⟩
  · rw [h1, Bool.false_and]
    go_enter Try.func42, Try.ntmps42
    go_wp2
    go_ret
    exact ⟨rfl, rfl⟩
  all_goals
    rw [h1, h2, Bool.true_and]
    go_enter Try.func42, Try.ntmps42
    go_wp2
    go_ret
    exact ⟨rfl, rfl⟩

theorem keyB_take {l : List (Int × Int)} {k : Nat} {p : Int × Int} {x : Int} (hp : l[k]? = some p) (h : keyB (l.take k) x = false) (hne : p.1 ≠ x) : keyB (l.take (k + 1)) x = false := by
  have e : (p.1 == x) = false := by simpa using hne
  unfold keyB at h ⊢
  rw [List.take_add_one, hp, List.any_append, h]
  simp [e]
def PlaceP (s : GW) (no : Int) (w : World) (e : Ending) (w' : World) : Prop := ∃ i : Int, e = .returned (.int .i64 i) ∧ ((i = -1 ∧ keyB s.l no = false) ∨ ∃ j p, i = ((j : Nat) : Int) ∧ s.l[j]? = some p ∧ p.1 = no) ∧ Fresh w w'
theorem place_any (g : Nat) (vn va : Value) (s : GW) (no : Int) (w : World) (h : RWork w g vn va s) (hn : s.l.length ≤ 100000) :
    Calls Try.prog 43 #[.pointer (some ⟨g, 0, none⟩), .int .i64 no] w (PlaceP s no w) := by
  have HS := Lib.hid h
  obtain ⟨A, cap, rfl, hca, hcm⟩ := h.on.shape
  have hcm : cap ≤ 9223372036854775807 := by unfold maxLen at hcm; omega
  clear h
  go_enter Try.func43, Try.ntmps43
  go_wp2_with fail
  go_loopg [5] s.l.length (fun gk u wr => ∃ q : Nat, q ≤ s.l.length ∧ gk = s.l.length - q ∧ u = .int .i64 q ∧ Fresh w wr ∧ keyB (s.l.take q) no = false)
  case atStart => exact ⟨0, by omega, rfl, rfl, Keep.refl _ _, rfl⟩
  case round =>
    obtain ⟨q, hq, rfl, rfl, hF, hT⟩ := hrel
    have hb := (HS.out.fresh hF).blk.cell
    have HF := Lib.hid hF
    have HT := Lib.hid hT
    clear hF hT
    by_cases hlt : q < s.l.length
    · obtain ⟨p, hp⟩ : ∃ p, s.l[q]? = some p := ⟨_, List.getElem?_eq_getElem hlt⟩
      obtain ⟨gn, off, cap', hv, lt0, _, _, hc⟩ := (HS.out.fresh HF.out).on.form (by omega)
      injection hv with hv1 _ hv3
      subst hv1 hv3
      have c0 := hc q (.int .i64 p.1) (by simp [ints, fsts, hp])
      have HP := Lib.hid hp
      clear hc hp
      obtain ⟨pa, pb⟩ := p
      simp only at c0
      by_cases he : pa = no
      · have t1 : (pa == no) = true := by simpa using he
        have HE := Lib.hid he
        clear he
        go_wp2_with fail
        go_ret
        exact ⟨_, rfl, .inr ⟨q, _, rfl, HP.out, HE.out⟩, HF.out⟩
      · have t1 : (pa == no) = false := by simpa using he
        have HE := Lib.hid (keyB_take HP.out HT.out he)
        clear he
        go_wp2_with fail
        go_roundg (s.l.length - (q + 1))
        case measure => omega
        case rel => exact ⟨q + 1, by omega, rfl, by go_num, HF.out, HE.out⟩
    · obtain rfl : q = s.l.length := by omega
      go_wp2_with fail
      go_ret
      exact ⟨_, rfl, .inl ⟨rfl, by have := HT.out; rwa [List.take_length] at this⟩, HF.out⟩
theorem ropen_any (g : Nat) (vn va : Value) (s : GW) (w : World) (h : RWork w g vn va s) (hn : s.l.length ≤ 100000) :
    Calls Try.prog 15 #[.pointer (some ⟨g, 0, none⟩)] w fun e w' => e = .returned (.int .i64 (minOf (s.l.map (·.2)))) ∧ Fresh w w' := by
  have HS := Lib.hid h
  obtain ⟨A, cap, rfl, hca, hcm⟩ := h.oa.shape
  have hcm : cap ≤ 9223372036854775807 := by unfold maxLen at hcm; omega
  clear h
  unfold minOf
  go_enter Try.func15, Try.ntmps15
  go_wp2_with fail
  go_loopg [3, 4] s.l.length (fun gk m u wr => ∃ q : Nat, q ≤ s.l.length ∧ gk = s.l.length - q ∧ m = .int .i64 (((snds s.l).take q).foldl min 1073741825) ∧ u = .int .i64 q ∧ Fresh w wr)
  case atStart => exact ⟨0, by omega, rfl, rfl, rfl, Keep.refl _ _⟩
  case round =>
    obtain ⟨q, hq, rfl, rfl, rfl, hF⟩ := hrel
    have hb := (HS.out.fresh hF).blk.cell
    have HF := Lib.hid hF
    clear hF
    by_cases hlt : q < s.l.length
    · obtain ⟨p, hp⟩ : ∃ p, s.l[q]? = some p := ⟨_, List.getElem?_eq_getElem hlt⟩
      obtain ⟨gn, off, cap', hv, lt0, _, _, hc⟩ := (HS.out.fresh HF.out).oa.form (by omega)
      injection hv with hv1 _ hv3
      subst hv1 hv3
      have c0 := hc q (.int .i64 p.2) (by simp [ints, snds, hp])
      have HX := Lib.hid (foldl_take (l := snds s.l) (k := q) (x := p.2) (by simp [snds, hp]) 1073741825)
      clear hc hp
      go_wp2_with fail
      go_roundg (s.l.length - (q + 1))
      case measure => omega
      case rel => exact ⟨q + 1, by omega, rfl, by rw [HX.out], by go_num, HF.out⟩
    · obtain rfl : q = s.l.length := by omega
      go_wp2_with fail
      go_ret
      exact ⟨by rw [List.take_of_length_le (by simp [snds])]; rfl, HF.out⟩
end Go.Proofs.Ytegffmnenicldaa
