/-
  slices.Index and slices.Contains of numbers.
-/
import Derived.Test.YtegffmnenicldaaRows
import Derived.Test.YtegffmnenicldaaOwn
import Derived.Handy
import Derived.BigQuiet
import Derived.BigRegion
import Derived.Deep.QuietTactic
import Derived.Deep.LoopGhost
namespace Go.Proofs.Ytegffmnenicldaa
open Go.RowKit

/-- numbers where they lie -/
def IntsAt (w : World) (A : Option Addr) (l : List Int) : Prop := ∀ i u, l[i]? = some u → ∃ b off, A = some ⟨b, off, none⟩ ∧ b < w.heap.size ∧ w.cell? ⟨b, off + i, none⟩ = some (.int .i64 u)
theorem IntsAt.keep {w w' : World} {A : Option Addr} {l : List Int} {S : Nat → Prop} (h : IntsAt w A l) (k : Keep S w w') (hn : ∀ a, A = some a → ¬ S a.block) : IntsAt w' A l := fun i u hu => by
  obtain ⟨b, off, rfl, lt, hc⟩ := h i u hu
  exact ⟨b, off, rfl, Nat.lt_of_lt_of_le lt k.size, (k.cell (p := ⟨b, off + i, none⟩) lt (show ¬ S b from hn _ rfl)).trans hc⟩
theorem IntsAt.fresh {w w' : World} {A : Option Addr} {l : List Int} (h : IntsAt w A l) (k : Fresh w w') : IntsAt w' A l := h.keep k (fun _ _ h => h)
theorem IntsAt.own {w : World} {e : TypeId} {A : Option Addr} {n c : Nat} {l : List Int} (h : OwnS w e 1 (.slice A n c) n (l.map fun x => .int .i64 x)) : IntsAt w A l := fun i u hu => by
  have hl := h.len
  have hi := (List.getElem?_eq_some_iff.1 hu).1
  rw [List.length_map] at hl
  obtain ⟨g, off, cap, hv, lt, _, _, hc⟩ := h.form (by omega)
  injection hv with hv1 _ _
  subst hv1
  exact ⟨g, off, rfl, lt, hc i _ (by rw [List.getElem?_map, hu]; rfl)⟩
theorem IntsAt.blk {w : World} {g : Nat} {t : TypeId} {cs : Array Value} {l : List Int} (h : Blk w g t cs) (hc : cs.toList = l.map fun x => .int .i64 x) : IntsAt w (some ⟨g, 0, none⟩) l := fun i u hu => by
  refine ⟨g, 0, rfl, h.lt, ?_⟩
  rw [Nat.zero_add, h.cell, ← Array.getElem?_toList, hc, List.getElem?_map, hu]
  rfl
theorem IntsAt.none {w : World} : IntsAt w none [] := fun i u hu => by simp at hu

theorem take_mem {l : List Int} {k : Nat} {u v : Int} (hu : l[k]? = some u) (h1 : v ∉ l.take k) (h2 : u ≠ v) : v ∉ l.take (k + 1) := by
  rw [List.take_add_one, hu, List.mem_append]
  rintro (h | h)
  · exact h1 h
  · simp at h; exact h2 h.symm

set_option maxHeartbeats 1000000 in
theorem index_any (A : Option Addr) (c : Nat) (l : List Int) (v : Int) (w : World) (hs : IntsAt w A l) (hn : l.length ≤ 100000) :
    Calls Try.prog 45 #[.slice A l.length c, .int .i64 v] w fun e w' => ∃ i : Int, e = .returned (.int .i64 i) ∧ ((0 ≤ i ∧ v ∈ l) ∨ (i = -1 ∧ v ∉ l)) ∧ Fresh w w' := by
  have HS := Lib.hid hs
  clear hs
  go_enter Try.func45, Try.ntmps45
  go_wp2_with fail
  go_loopg [8] l.length (fun gk u wr => ∃ k : Nat, k ≤ l.length ∧ gk = l.length - k ∧ u = .int .i64 k ∧ Hid (v ∉ l.take k) ∧ Fresh w wr)
  case atStart => exact ⟨0, by omega, rfl, rfl, Lib.hid (by simp), Keep.refl _ _⟩
  case round =>
    obtain ⟨k, hk, rfl, rfl, HV, hF⟩ := hrel
    have HF := Lib.hid hF
    clear hF
    by_cases hlt : k < l.length
    · obtain ⟨u, hu⟩ : ∃ u, l[k]? = some u := ⟨_, List.getElem?_eq_getElem hlt⟩
      obtain ⟨b, off, rfl, lb, hc⟩ := HS.out.fresh HF.out k u hu
      have HU := Lib.hid hu
      clear hu
      by_cases he : u = v
      · have t1 : (v == u) = true := by simpa using he.symm
        have HM : Hid (v ∈ l) := by subst he; exact List.mem_of_getElem? HU.out
        clear he
        go_wp2_with fail
        go_ret
        exact ⟨_, rfl, .inl ⟨by omega, HM.out⟩, HF.out⟩
      · have t1 : (v == u) = false := by rw [beq_eq_false_iff_ne]; exact fun h => he h.symm
        have HM := Lib.hid (take_mem HU.out HV.out he)
        clear he
        go_wp2_with fail
        go_roundg (l.length - (k + 1))
        case measure => omega
        case rel => exact ⟨k + 1, by omega, rfl, by go_num, HM, HF.out⟩
    · obtain rfl : k = l.length := by omega
      go_wp2_with fail
      go_ret
      exact ⟨_, rfl, .inr ⟨rfl, by have := HV.out; rwa [List.take_length] at this⟩, HF.out⟩

theorem contains_any (A : Option Addr) (c : Nat) (l : List Int) (v : Int) (w : World) (hs : IntsAt w A l) (hn : l.length ≤ 100000) :
    Calls Try.prog 40 #[.slice A l.length c, .int .i64 v] w fun e w' => e = .returned (.bool (l.contains v)) ∧ Fresh w w' := by
  have HI := Lib.hid (index_any A c l v w hs hn)
  clear hs
  by_cases hv : v ∈ l
  · have e : l.contains v = true := by simpa using hv
    rw [e]
    have HV := Lib.hid hv
    clear hv e
    go_enter Try.func40, Try.ntmps40
    go_wp2_with fail
    refine HI.out.mono ?_
    rintro e w1 ⟨i, rfl, hh, f1⟩
    have h0 : 0 ≤ i := by
      rcases hh with ⟨h, _⟩ | ⟨_, h⟩
      · exact h
      · exact absurd HV.out h
    clear hh
    have t0 : decide (0 ≤ i) = true := by simpa using h0
    go_wp2_with fail
    go_ret
    exact ⟨rfl, f1⟩
  · have e : l.contains v = false := by simpa using hv
    rw [e]
    have HV := Lib.hid hv
    clear hv e
    go_enter Try.func40, Try.ntmps40
    go_wp2_with fail
    refine HI.out.mono ?_
    rintro e w1 ⟨i, rfl, hh, f1⟩
    obtain rfl : i = -1 := by
      rcases hh with ⟨_, h⟩ | ⟨h, _⟩
      · exact absurd h HV.out
      · exact h
    clear hh
    go_wp2_with fail
    go_ret
    exact ⟨rfl, f1⟩
end Go.Proofs.Ytegffmnenicldaa
