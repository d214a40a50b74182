/-
  The chapter's example.
-/
import Derived.Test.YtgakggkffapnlaaPickString
namespace Go.Proofs.Ytgakggkffapnlaa
open Go.RowKit
namespace R_str
theorem TakeP.is {g : Nat} {v : Value} {bx nx : Int} {l : List Pk} {no : Int} {w : World} {e : Ending} {w' : World} (h : TakeP g v bx nx l no w e w') (i0 : Nat) (p0 : Pk) (h1 : l[i0]? = some p0) (h2 : p0.no = no) (h3 : ∀ (j : Nat) (q : Pk), j < i0 → l[j]? = some q → q.no ≠ no) :
    e = .returned (.tuple #[.agg #[.int .i64 p0.no, .int .i64 p0.fr, .int .i64 p0.to, .string p0.x], .int .i64 0]) ∧ ∃ v', SNet w' g v' bx nx (l.eraseIdx i0) ∧ Keep (foot g v) w w' ∧ Later w v v' := by
  rcases h with ⟨i, p, a1, a2, a3, a4, a5⟩ | ⟨a1, _⟩
  · have : i = i0 := by
      rcases Nat.lt_trichotomy i i0 with h | h | h
      · exact absurd a2 (h3 i p h a1)
      · exact h
      · exact absurd h2 (a3 i0 p0 h h1)
    subst this
    rw [a1] at h1
    injection h1 with h1
    subst h1
    exact ⟨a4, a5⟩
  · exact absurd h2 (a1 i0 p0 h1)
theorem TakeP.isnt {g : Nat} {v : Value} {bx nx : Int} {l : List Pk} {no : Int} {w : World} {e : Ending} {w' : World} (h : TakeP g v bx nx l no w e w') (h3 : ∀ (j : Nat) (q : Pk), l[j]? = some q → q.no ≠ no) :
    e = .returned (.tuple #[.agg #[.int .i64 0, .int .i64 0, .int .i64 0, .string ⟨#[]⟩], .int .i64 14]) ∧ Fresh w w' := by
  rcases h with ⟨i, p, a1, a2, a3, a4, a5⟩ | ⟨_, a2, a3⟩
  · exact absurd a2 (h3 i p a1)
  · exact ⟨a2, a3⟩
end R_str
def sA : ByteArray := ⟨#[97]⟩
def sB : ByteArray := ⟨#[98]⟩
def sC : ByteArray := ⟨#[99]⟩
theorem elAt2 {w : World} {g : Nat} {t : TypeId} {x y : ByteArray} (h : Blk w g t #[.string x, .string y]) : R_str.ElAt w (some ⟨g, 0, none⟩) [x, y] := by
  intro i z hz
  refine ⟨g, 0, rfl, h.lt, ?_⟩
  rw [Nat.zero_add, h.cell]
  match i, hz with
  | 0, hz => simp at hz; subst hz; rfl
  | 1, hz => simp at hz; subst hz; rfl
theorem elAt1 {w : World} {g : Nat} {t : TypeId} {x : ByteArray} (h : Blk w g t #[.string x]) : R_str.ElAt w (some ⟨g, 0, none⟩) [x] := by
  intro i z hz
  refine ⟨g, 0, rfl, h.lt, ?_⟩
  rw [Nat.zero_add, h.cell]
  match i, hz with
  | 0, hz => simp at hz; subst hz; rfl
open R_str
structure AI (w : World) (g : Nat) (v : Value) (nx : Int) (l : List Pk) (wr : World) : Prop where
  sn : SNet wr g v 2 nx l
  fr : Fresh w wr
  ng : w.heap.size ≤ g
  nv : ∀ k, v.ownBlock = some k → w.heap.size ≤ k
theorem AI.fresh {w wr w2 : World} {g : Nat} {v : Value} {nx : Int} {l : List Pk} (h : AI w g v nx l wr) (f : Fresh wr w2) : AI w g v nx l w2 := ⟨h.sn.fresh f, h.fr.step f (fun _ _ h => h), h.ng, h.nv⟩
theorem AI.next {w wr w2 : World} {g : Nat} {v v' : Value} {nx nx' : Int} {l l' : List Pk} (h : AI w g v nx l wr) (s : SNet w2 g v' 2 nx' l') (k : Keep (foot g v) wr w2) (n : Later wr v v') : AI w g v' nx' l' w2 := by
  refine ⟨s, h.fr.step k (fun i hi e => ?_), h.ng, fun i hi => ?_⟩
  · rcases e with rfl | e
    · have := h.ng; omega
    · have := h.nv i e; omega
  · rcases n i hi with e | e
    · exact h.nv i e
    · have := h.fr.size; omega
def l1 : List Pk := [⟨0, 0, 1, sA⟩, ⟨1, 0, 1, sB⟩]
def l2 : List Pk := [⟨0, 0, 1, sA⟩, ⟨1, 0, 1, sB⟩, ⟨2, 1, 0, sC⟩]
def l3 : List Pk := [⟨0, 0, 1, sA⟩, ⟨2, 1, 0, sC⟩]
theorem toL2 : toL l2 1 = l1 := by simp [toL, l2, l1]
theorem idx2 : idxW (-1) l1.length = 1 := by decide
set_option maxRecDepth 100000 in
set_option maxHeartbeats 4000000 in
theorem awake_any (w : World) : Calls Try.prog 9 #[] w fun e w' => e = .returned (.bool true) ∧ Fresh w w' := by
  go_enter Try.func9, Try.ntmps9
  go_wp2_with fail
  refine (new_ok 2 _ (by decide) (by decide)).mono ?_
  rintro e w1 ⟨rfl, h1, f1⟩
  obtain ⟨g, hg⟩ : ∃ g, w.heap.size = g := ⟨_, rfl⟩
  have h1 : AI w g (.slice none 0 0) 0 [] w1 := ⟨hg ▸ h1, f1, by omega, by simp [Value.ownBlock]⟩
  rw [hg]
  have HG := Lib.hid hg
  have H1 := Lib.hid h1
  have lg1 := h1.sn.blk.lt
  clear h1 f1 hg
  go_wp2_with fail
  have FA : Hid (Fresh w1 (w1.alloc (.cells #[.string sA, .string sB] 9))) := (Keep.refl _ _).alloc _
  refine (send_ok g (.slice none 0 0) 2 0 0 1 [] (some ⟨w1.heap.size, 0, none⟩) 2 [sA, sB] _ (H1.out.fresh FA.out).sn (by decide) (elAt2 (Blk.new w1 9 #[.string sA, .string sB])) (by
    rintro a ha _ (h | h)
    · injection ha with ha; subst ha; simp only at h; omega
    · simp [Value.ownBlock] at h) (by decide) (by decide) (by decide) (by decide)).mono ?_
  rintro e w2 ⟨rfl, v2, h2, k2, n2⟩
  have H2 : Hid (AI w g v2 2 l1 w2) := (H1.out.fresh FA.out).next h2 k2 n2
  have lg2 := h2.blk.lt
  have lv2 : ∀ k, foot g v2 k → k < w2.heap.size := h2.lt
  clear h2 k2 n2
  go_wp2_with fail
  have FC : Hid (Fresh w2 (w2.alloc (.cells #[.string sC] 9))) := (Keep.refl _ _).alloc _
  refine (send_ok g v2 2 2 1 0 l1 (some ⟨w2.heap.size, 0, none⟩) 1 [sC] _ (H2.out.fresh FC.out).sn (by decide) (elAt1 (Blk.new w2 9 #[.string sC])) (by
    rintro a ha _ h
    injection ha with ha
    subst ha
    have := lv2 _ h
    simp at this) (by decide) (by decide) (by decide) (by decide)).mono ?_
  rintro e w3 ⟨rfl, v3, h3, k3, n3⟩
  have H3 : Hid (AI w g v3 3 l2 w3) := (H2.out.fresh FC.out).next h3 k3 n3
  clear h3 k3 n3 lv2
  go_wp2_with fail
  refine (pick_ok g v3 2 3 1 (-1) l2 _ H3.out.sn (by decide) (by decide)).mono ?_
  intro e w4 hP
  have hP2 : e = .returned (.tuple #[.agg #[.int .i64 1, .int .i64 0, .int .i64 1, .string sB], .int .i64 0]) ∧ ∃ v', SNet w4 g v' 2 3 l3 ∧ Keep (foot g v3) w3 w4 ∧ Later w3 v3 v' := by
    rcases hP with ⟨a, _⟩ | ⟨i, p, a1, a2, a3⟩
    · rw [toL2] at a; cases a
    · rw [toL2, idx2] at a1
      obtain rfl : i = 1 := by omega
      rw [toL2] at a2
      have : p = ⟨1, 0, 1, sB⟩ := by injection a2 with a2; exact a2.symm
      subst this
      exact a3.is 1 ⟨1, 0, 1, sB⟩ rfl rfl (fun j q hj hq => by
        obtain rfl : j = 0 := by omega
        injection hq with hq
        subst hq
        decide)
  clear hP
  obtain ⟨rfl, v4, h4, k4, n4⟩ := hP2
  have H4 : Hid (AI w g v4 3 l3 w4) := H3.out.next h4 k4 n4
  have lv4 := h4.lt
  clear h4 k4 n4
  go_wp2_with fail
  have FP : Hid (Fresh w4 (w4.alloc (.cells #[.int .i64 1, .int .i64 0, .int .i64 1, .string sB] 66))) := (Keep.refl _ _).alloc _
  have BP := Lib.hid (Blk.new w4 66 #[.int .i64 1, .int .i64 0, .int .i64 1, .string sB])
  refine (take_any g v4 2 3 1 l3 _ (H4.out.fresh FP.out).sn (by decide)).mono ?_
  intro e w5 hT
  obtain ⟨rfl, f5⟩ := hT.isnt (fun j q hq => by
    match j, hq with
    | 0, hq => injection hq with hq; subst hq; decide
    | 1, hq => injection hq with hq; subst hq; decide)
  have H5 := Lib.hid ((H4.out.fresh FP.out).fresh f5)
  have B5 := Lib.hid (f5.blk_ BP.out)
  have s5 := f5.size
  clear f5 hT
  go_wp2_with fail
  have FZ : Hid (Fresh w5 (w5.alloc (.cells #[.int .i64 0, .int .i64 0, .int .i64 0, .string ⟨#[]⟩] 66))) := (Keep.refl _ _).alloc _
  refine (take_any g v4 2 3 0 l3 _ (H5.out.fresh FZ.out).sn (by decide)).mono ?_
  intro e w6 hT
  obtain ⟨rfl, v6, h6, k6, n6⟩ := hT.is 0 ⟨0, 0, 1, sA⟩ rfl rfl (fun j q hj _ => by omega)
  have H6 := Lib.hid ((H5.out.fresh FZ.out).next h6 k6 n6)
  have b6 := (FZ.out.blk_ B5.out).keep k6 (fun h => by have := lv4 _ h; omega)
  have c6 := b6.cell
  have lb6 := b6.lt
  have eb1 : (sB.toList == [98]) = true := by kernel_rfl
  have eb2 : (sA.toList == [97]) = true := by kernel_rfl
  clear hT h6 k6 n6 b6
  go_wp2_with fail
  go_ret
  exact ⟨rfl, H6.out.fr.alloc _⟩
end Go.Proofs.Ytgakggkffapnlaa
