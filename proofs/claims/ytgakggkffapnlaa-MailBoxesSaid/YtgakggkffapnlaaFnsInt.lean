/-
  mail.Net[int]: New, box, Send, by contracts.
-/
import Derived.Test.YtgakggkffapnlaaRows
import Derived.Test.YtgakggkffapnlaaOwnMore
import Derived.Handy
import Derived.BigQuiet
import Derived.BigRegion
import Derived.Deep.QuietTactic
import Derived.Deep.RegionHeld3
import Derived.Deep.RegionLaw
import Derived.Deep.DrawnRows
import Derived.Deep.LoopGhost
import Derived.StillTailTactics
import Derived.LaidEqlPtr
import Derived.Lib.LazyBuf
namespace Go.Proofs.Ytgakggkffapnlaa.R_int
open Go.RowKit
attribute [local go_sem ↓] Go.wp_at_zero Go.wp_at_succ

/-- A packet. -/
structure Pk where
  no : Int
  fr : Int
  to : Int
  x : Int
def row (p : Pk) : List Value := [.int .i64 p.no, .int .i64 p.fr, .int .i64 p.to, Value.int .i64 p.x]
def cells (l : List Pk) : List Value := l.flatMap row
theorem cells_cons (p : Pk) (l : List Pk) : cells (p :: l) = .int .i64 p.no :: .int .i64 p.fr :: .int .i64 p.to :: Value.int .i64 p.x :: cells l := rfl
theorem cells_length (l : List Pk) : (cells l).length = l.length * 4 := by
  induction l with
  | nil => rfl
  | cons a l ih => rw [cells_cons]; simp only [List.length_cons, ih]; omega
theorem cells_append (l m : List Pk) : cells (l ++ m) = cells l ++ cells m := by simp [cells]
theorem cells_at : ∀ (l : List Pk) (k : Nat) (s : Pk), l[k]? = some s → (cells l)[k * 4]? = some (.int .i64 s.no) ∧ (cells l)[k * 4 + 1]? = some (.int .i64 s.fr) ∧ (cells l)[k * 4 + 2]? = some (.int .i64 s.to) ∧ (cells l)[k * 4 + 3]? = some (Value.int .i64 s.x)
  | [], _, _, h => by simp at h
  | a :: l, 0, s, h => by
    simp at h
    subst h
    exact ⟨rfl, rfl, rfl, rfl⟩
  | a :: l, k + 1, s, h => by
    have := cells_at l k s (by simpa using h)
    rw [cells_cons, show (k + 1) * 4 = k * 4 + 4 by omega, show k * 4 + 4 + 1 = (k * 4 + 1) + 4 by omega, show k * 4 + 4 + 2 = (k * 4 + 2) + 4 by omega, show k * 4 + 4 + 3 = (k * 4 + 3) + 4 by omega]
    exact this
theorem cells_drop (l : List Pk) (a : Nat) : (cells l).drop (a * 4) = cells (l.drop a) := by
  induction a generalizing l with
  | zero => simp
  | succ a ih =>
    cases l with
    | nil => simp [cells]
    | cons s l => rw [show (a + 1) * 4 = a * 4 + 4 by omega]; exact ih l
theorem cells_take (l : List Pk) (a : Nat) : (cells l).take (a * 4) = cells (l.take a) := by
  induction a generalizing l with
  | zero => simp [cells]
  | succ a ih =>
    cases l with
    | nil => simp [cells]
    | cons s l =>
      rw [cells_cons, show (a + 1) * 4 = a * 4 + 4 by omega, List.take_succ_cons, List.take_succ_cons, List.take_succ_cons, List.take_succ_cons, ih, List.take_succ_cons, cells_cons]
theorem cells_one (l : List Pk) : ∀ u ∈ cells l, u.oneCell' = true := by
  intro u hu
  simp only [cells, List.mem_flatMap] at hu
  obtain ⟨s, _, hs⟩ := hu
  simp [row] at hs
  rcases hs with rfl | rfl | rfl | rfl <;> rfl
theorem cells_single (p : Pk) : cells [p] = [.int .i64 p.no, .int .i64 p.fr, .int .i64 p.to, Value.int .i64 p.x] := rfl

/-- A net with its slice: v. -/
structure SNet (w : World) (g : Nat) (v : Value) (bx nx : Int) (l : List Pk) : Prop where
  blk : Blk w g 60 #[.int .i64 bx, .int .i64 nx, v]
  own : OwnS w 41 4 v l.length (cells l)
/-- what may turn with it -/
def foot (g : Nat) (v : Value) (k : Nat) : Prop := k = g ∨ v.ownBlock = some k
/-- where the slice lies when a call is over -/
def Later (w : World) (v v' : Value) : Prop := ∀ k, v'.ownBlock = some k → v.ownBlock = some k ∨ w.heap.size ≤ k
theorem SNet.kept {w w' : World} {g : Nat} {v : Value} {bx nx : Int} {l : List Pk} {S : Nat → Prop} (h : SNet w g v bx nx l) (hk : Keep S w w') (hg : ¬ S g) (hv : ∀ k, v.ownBlock = some k → ¬ S k) : SNet w' g v bx nx l :=
  ⟨h.blk.keep hk hg, h.own.kept hk hv⟩
theorem SNet.fresh {w w' : World} {g : Nat} {v : Value} {bx nx : Int} {l : List Pk} (h : SNet w g v bx nx l) (hk : Fresh w w') : SNet w' g v bx nx l := h.kept hk (fun h => h) (fun _ _ h => h)
theorem SNet.lt {w : World} {g : Nat} {v : Value} {bx nx : Int} {l : List Pk} (h : SNet w g v bx nx l) : ∀ k, foot g v k → k < w.heap.size := by
  rintro k (rfl | hk)
  · exact h.blk.lt
  · exact h.own.lt hk
theorem SNet.ne {w : World} {g : Nat} {v : Value} {bx nx : Int} {l : List Pk} (h : SNet w g v bx nx l) : v.ownBlock ≠ some g := h.own.ne_blk h.blk (by decide)

/-- things where they lie -/
def ElAt (w : World) (A : Option Addr) (xs : List Int) : Prop := ∀ i x, xs[i]? = some x → ∃ b off, A = some ⟨b, off, none⟩ ∧ b < w.heap.size ∧ w.cell? ⟨b, off + i, none⟩ = some (Value.int .i64 x)
theorem ElAt.keep {w w' : World} {A : Option Addr} {xs : List Int} {S : Nat → Prop} (h : ElAt w A xs) (hk : Keep S w w') (hS : ∀ a, A = some a → ¬ S a.block) : ElAt w' A xs := fun i x hx => by
  obtain ⟨b, off, rfl, lt, hc⟩ := h i x hx
  exact ⟨b, off, rfl, Nat.lt_of_lt_of_le lt hk.size, (hk.cell (p := ⟨b, off + i, none⟩) lt (hS ⟨b, off, none⟩ rfl)).trans hc⟩
theorem ElAt.fresh {w w' : World} {A : Option Addr} {xs : List Int} (h : ElAt w A xs) (hk : Fresh w w') : ElAt w' A xs := h.keep hk (fun _ _ h => h)
/-- the packets of one Send -/
def mk (nx fr to : Int) : List Int → List Pk
  | [] => []
  | x :: xs => ⟨nx, fr, to, x⟩ :: mk (nx + 1) fr to xs
theorem mk_length (nx fr to : Int) (xs : List Int) : (mk nx fr to xs).length = xs.length := by
  induction xs generalizing nx with
  | nil => rfl
  | cons a l ih => simp [mk, ih]
theorem mk_take (fr to : Int) : ∀ (xs : List Int) (nx : Int) (k : Nat) (x : Int), xs[k]? = some x → mk nx fr to (xs.take (k + 1)) = mk nx fr to (xs.take k) ++ [⟨nx + k, fr, to, x⟩]
  | [], _, _, _, h => by simp at h
  | a :: xs, nx, 0, x, h => by
    simp at h
    subst h
    simp [mk]
  | a :: xs, nx, k + 1, x, h => by
    have := mk_take fr to xs (nx + 1) k x (by simpa using h)
    rw [List.take_succ_cons, List.take_succ_cons, mk, mk, this, List.cons_append]
    congr 4
    simp only [Int.natCast_succ]
    omega

theorem new_bad (b : Int) (w : World) (h : b < 1 ∨ 64 < b) : Calls Try.prog 7 #[.int .i64 b] w fun e w' => e = .returned (.tuple #[.pointer none, .int .i64 1]) ∧ w = w' := by
  by_cases h1 : b < 1
  · have t1 : decide (b < 1) = true := by simpa using h1
    go_enter Try.func7, Try.ntmps7
    go_wp2_with fail
    go_ret2
    exact ⟨rfl, rfl⟩
  · have t1 : decide (b < 1) = false := by simpa using h1
    have t2 : decide (64 < b) = true := by simp; omega
    go_enter Try.func7, Try.ntmps7
    go_wp2_with fail
    go_ret2
    exact ⟨rfl, rfl⟩
theorem new_ok (b : Int) (w : World) (h1 : 1 ≤ b) (h2 : b ≤ 64) : Calls Try.prog 7 #[.int .i64 b] w fun e w' => e = .returned (.tuple #[.pointer (some ⟨w.heap.size, 0, none⟩), .int .i64 0]) ∧ SNet w' w.heap.size (.slice none 0 0) b 0 [] ∧ Fresh w w' := by
  have t1 : decide (b < 1) = false := by simp; omega
  have t2 : decide (64 < b) = false := by simp; omega
  go_enter Try.func7, Try.ntmps7
  go_wp2_with fail
  go_ret2
  exact ⟨rfl, ⟨Blk.new _ _ _, OwnS.nil _ _ _⟩, (Keep.refl _ _).alloc _⟩

/-- is there a box? -/
def boxB (bx no : Int) : Bool := decide (0 ≤ no ∧ no < bx)
theorem box_any (g : Nat) (v : Value) (bx nx no : Int) (l : List Pk) (w : World) (h : SNet w g v bx nx l) : Calls Try.prog 32 #[.pointer (some ⟨g, 0, none⟩), .int .i64 no] w fun e w' => e = .returned (.bool (boxB bx no)) ∧ w = w' := by
  have hb := h.blk.cell
  clear h
  by_cases h1 : 0 ≤ no
  · have t1 : decide (0 ≤ no) = true := by simpa using h1
    by_cases h2 : no < bx
    · have t2 : decide (no < bx) = true := by simpa using h2
      have e : boxB bx no = true := by simp [boxB, h1, h2]
      rw [e]
      clear e h1 h2
      go_enter Try.func32, Try.ntmps32
      go_wp2_with fail
      go_ret
      exact ⟨rfl, rfl⟩
    · have t2 : decide (no < bx) = false := by simpa using h2
      have e : boxB bx no = false := by simp [boxB, h2]
      rw [e]
      clear e h1 h2
      go_enter Try.func32, Try.ntmps32
      go_wp2_with fail
      go_ret
      exact ⟨rfl, rfl⟩
  · have t1 : decide (0 ≤ no) = false := by simpa using h1
    have e : boxB bx no = false := by simp [boxB, h1]
    rw [e]
    clear e h1
    go_enter Try.func32, Try.ntmps32
    go_wp2_with fail
    go_ret
    exact ⟨rfl, rfl⟩

theorem send_bad (g : Nat) (v : Value) (bx nx fr to : Int) (l : List Pk) (A : Option Addr) (n c : Nat) (w : World) (h : SNet w g v bx nx l) (hb : (boxB bx fr && boxB bx to) = false) :
    Calls Try.prog 17 #[.pointer (some ⟨g, 0, none⟩), .int .i64 fr, .int .i64 to, .slice A n c] w fun e w' => e = .returned (.tuple #[.int .i64 0, .int .i64 1]) ∧ w = w' := by
  have HB : Hid (∀ no, Calls Try.prog 32 #[.pointer (some ⟨g, 0, none⟩), .int .i64 no] w fun e w' => e = .returned (.bool (boxB bx no)) ∧ w = w') := fun no => box_any g v bx nx no l w h
  have F := HB.out fr
  have T := HB.out to
  cases h1 : boxB bx fr
  · rw [h1] at F
    have FF := Lib.hid F
    clear F T h1 h hb HB
    go_enter Try.func17, Try.ntmps17
    go_wp2_with (go_at_call 32; (with_reducible refine FF.out.mono ?_); rintro e w1 ⟨rfl, rfl⟩)
    go_ret2
    exact ⟨rfl, rfl⟩
  · rw [h1] at F hb
    have h2 : boxB bx to = false := by simpa using hb
    rw [h2] at T
    have FF := Lib.hid F
    have TT := Lib.hid T
    clear F T h1 h2 h hb HB
    go_enter Try.func17, Try.ntmps17
    go_wp2_with fail
    refine FF.out.mono ?_
    rintro e w1 ⟨rfl, rfl⟩
    go_wp2_with fail
    refine TT.out.mono ?_
    rintro e w1 ⟨rfl, rfl⟩
    go_wp2_with fail
    go_ret2
    exact ⟨rfl, rfl⟩
theorem send_nil (fr to : Int) (A : Option Addr) (n c : Nat) (w : World) :
    Calls Try.prog 17 #[.pointer none, .int .i64 fr, .int .i64 to, .slice A n c] w fun e w' => e = .returned (.tuple #[.int .i64 0, .int .i64 2]) ∧ w = w' := by
  go_enter Try.func17, Try.ntmps17
  go_wp2_with fail
  go_ret2
  exact ⟨rfl, rfl⟩
theorem info_pk : (Try.prog.info? 41).map (fun i => (i.zero, i.size, i.bytes)) = some (some (.agg #[.int .i64 0, .int .i64 0, .int .i64 0, .int .i64 0]), 4, 32) := by kernel_rfl
/-- what Send leaves -/
def SendP (g : Nat) (v : Value) (bx nx fr to : Int) (l : List Pk) (xs : List Int) (w : World) (e : Ending) (w' : World) : Prop :=
  e = .returned (.tuple #[.int .i64 nx, .int .i64 0]) ∧ ∃ v', SNet w' g v' bx (nx + xs.length) (l ++ mk nx fr to xs) ∧ Keep (foot g v) w w' ∧ Later w v v'
set_option maxHeartbeats 4000000 in
theorem send_ok (g : Nat) (v : Value) (bx nx fr to : Int) (l : List Pk) (A : Option Addr) (c : Nat) (xs : List Int) (w : World) (h : SNet w g v bx nx l) (hb : (boxB bx fr && boxB bx to) = true) (hx : ElAt w A xs) (hA : ∀ a, A = some a → xs.length ≠ 0 → ¬ foot g v a.block) (hl : l.length ≤ 100000) (hxl : xs.length ≤ 100000) (hn0 : 0 ≤ nx) (hn1 : nx ≤ 100000) :
    Calls Try.prog 17 #[.pointer (some ⟨g, 0, none⟩), .int .i64 fr, .int .i64 to, .slice A xs.length c] w (SendP g v bx nx fr to l xs w) := by
  have F := box_any g v bx nx fr l w h
  have T := box_any g v bx nx to l w h
  rw [Bool.and_eq_true] at hb
  rw [hb.1] at F
  rw [hb.2] at T
  have FF := Lib.hid F
  have TT := Lib.hid T
  have hc := h.blk.cell
  have H := Lib.hid h
  have HX := Lib.hid hx
  have HA := Lib.hid hA
  obtain ⟨i0, hi, hz0, hz1, hz2⟩ := info_parts info_pk
  have h04 : 0 < 4 := by omega
  clear F T hb h hx hA
  go_enter Try.func17, Try.ntmps17
  go_wp2_with fail
  refine FF.out.mono ?_
  rintro e w1 ⟨rfl, rfl⟩
  go_wp2_with fail
  refine TT.out.mono ?_
  rintro e w1 ⟨rfl, rfl⟩
  go_wp2_with fail
  clear hc
  go_loopg [31] xs.length (fun gk u wr => ∃ (k : Nat) (vk : Value), k ≤ xs.length ∧ gk = xs.length - k ∧ u = .int .i64 k ∧ SNet wr g vk bx (nx + k) (l ++ mk nx fr to (xs.take k)) ∧ Keep (foot g v) w wr ∧ Later w v vk)
  case atStart => exact ⟨0, v, Nat.zero_le _, rfl, rfl, by simpa [mk] using H.out, Keep.refl _ _, fun k hk => .inl hk⟩
  case round =>
    obtain ⟨k, vk, hk, rfl, rfl, hS, hK, hLt⟩ := hrel
    have HS := Lib.hid hS
    have HK := Lib.hid hK
    have HL := Lib.hid hLt
    clear hS hK hLt
    by_cases hlt : k < xs.length
    · obtain ⟨x, hxk⟩ : ∃ x, xs[k]? = some x := ⟨_, List.getElem?_eq_getElem hlt⟩
      have hmk := mk_take fr to xs nx k x hxk
      obtain ⟨b, off, rfl, hbl, hcx⟩ := (HX.out.keep HK.out (fun a ha => HA.out a ha (by omega))) k x hxk
      have hlen : (l ++ mk nx fr to (xs.take k)).length = l.length + k := by rw [List.length_append, mk_length, List.length_take]; omega
      have HM := Lib.hid hmk
      obtain ⟨L, hL⟩ : ∃ L, l ++ mk nx fr to (xs.take k) = L := ⟨_, rfl⟩
      obtain ⟨m, hm⟩ : ∃ m, L.length = m := ⟨_, rfl⟩
      have hLL : l ++ mk nx fr to (xs.take (k + 1)) = L ++ [⟨nx + k, fr, to, x⟩] := by rw [hmk, ← List.append_assoc, hL]
      have HLL := Lib.hid hLL
      rw [hL] at HS hlen
      rw [hm] at hlen
      have hown := HS.out.own
      rw [hm] at hown
      obtain ⟨A', cap', rfl, hcv, hmv⟩ := hown.shape
      have HO := Lib.hid hown
      have HB := Lib.hid HS.out.blk
      have HMm := Lib.hid hm
      have HC : Hid (Src (wr.drew.alloc (.cells #[.int .i64 (nx + k), .int .i64 fr, .int .i64 to, Value.int .i64 x] 41)) 4 (.slice (some ⟨wr.heap.size, 0, none⟩) 1 1) 1 (cells [⟨nx + k, fr, to, x⟩])) := Src.one_new wr.drew 41 4 #[.int .i64 (nx + k), .int .i64 fr, .int .i64 to, Value.int .i64 x] rfl
      have H4o : Hid (OwnS (wr.drew.alloc (.cells #[.int .i64 (nx + k), .int .i64 fr, .int .i64 to, Value.int .i64 x] 41)) 41 4 (.slice A' m cap') m (cells L)) := (HO.out.drew).alloc _
      have H4b := Lib.hid (HB.out.drew.alloc (.cells #[.int .i64 (nx + k), .int .i64 fr, .int .i64 to, Value.int .i64 x] 41))
      have N4 : Hid ((Value.slice A' m cap').ownBlock ≠ some g) := HO.out.ne_blk HB.out (by decide)
      have hM1 : m + 1 ≤ maxLen := one_le_maxLen (by omega)
      have hM2 : (m + 1) * 32 ≤ 140737488355328 := by omega
      have hcg := HB.out.cell
      have hfg := HB.out.frozen
      have hlg := HB.out.lt
      have hwr : IntKind.i64.wrap (nx + (k : Int) + 1) = nx + (k : Int) + 1 := IntWalk.i64_in _ (by omega)
      have FIN : Hid (∀ (w3 : World) (A3 : Option Addr) (cap3 : Nat), OwnS w3 41 4 (.slice A3 (m + 1) cap3) (m + 1) (cells L ++ cells [⟨nx + k, fr, to, x⟩]) → Keep (fun k => (Value.slice A' m cap').ownBlock = some k) (wr.drew.alloc (.cells #[.int .i64 (nx + k), .int .i64 fr, .int .i64 to, Value.int .i64 x] 41)) w3 →
          (∀ i, (Value.slice A3 (m + 1) cap3).ownBlock = some i → (Value.slice A' m cap').ownBlock = some i ∨ wr.heap.size + 1 ≤ i) →
          SNet ((w3.setCell ⟨g, 2, none⟩ (.slice A3 (m + 1) cap3)).setCell ⟨g, 1, none⟩ (.int .i64 (nx + (k : Int) + 1))) g (.slice A3 (m + 1) cap3) bx (nx + ((k + 1 : Nat) : Int)) (l ++ mk nx fr to (xs.take (k + 1))) ∧ Keep (foot g v) w ((w3.setCell ⟨g, 2, none⟩ (.slice A3 (m + 1) cap3)).setCell ⟨g, 1, none⟩ (.int .i64 (nx + (k : Int) + 1))) ∧ Later w v (.slice A3 (m + 1) cap3)) := fun w3 A3 cap3 o3 k3 n3 => by
        have b3 := H4b.out.keep k3 N4.out
        have hne := o3.ne_blk b3 (by decide)
        refine ⟨⟨?_, ?_⟩, ?_, ?_⟩
        · have := (b3.set_ 2 (.slice A3 (m + 1) cap3)).set_ 1 (.int .i64 (nx + (k : Int) + 1))
          rw [show nx + ((k + 1 : Nat) : Int) = nx + (k : Int) + 1 by omega]
          exact this
        · have := (o3.far (p := ⟨g, 2, none⟩) hne (.slice A3 (m + 1) cap3)).far (p := ⟨g, 1, none⟩) hne (.int .i64 (nx + (k : Int) + 1))
          rw [HLL.out, cells_append, List.length_append, HMm.out]
          exact this
        · have h1 : Keep (foot g v) w (wr.drew.alloc (.cells #[.int .i64 (nx + k), .int .i64 fr, .int .i64 to, Value.int .i64 x] 41)) := HK.out.drew.alloc _
          refine Keep.setCell (Keep.setCell (h1.step k3 (fun i hi e => ?_)) (fun _ => .inl rfl) _) (fun _ => .inl rfl) _
          rcases HL.out i e with h | h
          · exact .inr h
          · omega
        · intro i hi
          have hs := HK.out.size
          rcases n3 i hi with h | h
          · rcases HL.out i h with h | h
            · exact .inl h
            · exact .inr (by omega)
          · exact .inr (by omega)
      clear hmk hL hLL hm hlen hown
      go_wp2_with fail
      go_region_law ((refine step_append_OwnS _ (by rfl) _ _ 58 (by rfl) 41 i0 (.agg #[.int .i64 0, .int .i64 0, .int .i64 0, .int .i64 0]) 4 32 Try.underlying58 hi hz0 hz1 hz2 (by rfl) h04 (.slice A' m cap') m (cells L) (by rfl) H4o.out (.slice (some ⟨wr.heap.size, 0, none⟩) 1 1) 1 (cells [⟨nx + k, fr, to, x⟩]) (by rfl) HC.out (cells_one _) hM1 hM2 ?_; intro v3 w3 o3 k3 n3; obtain ⟨A3, cap3, rfl, _, _⟩ := o3.shape; have b3 := H4b.out.keep k3 N4.out; have c3 := b3.cell; have f3 := b3.frozen; have l3 := b3.lt; have U1 := Lib.hid o3; have U2 := Lib.hid k3; have U3 := Lib.hid n3; clear o3 k3 n3 b3))
      all_goals go_wp2_with fail
      all_goals go_roundg (xs.length - (k + 1))
      all_goals first
        | omega
        | exact ⟨k + 1, _, by omega, rfl, by go_num, FIN.out w3 A3 cap3 U1.out U2.out (fun i hi => (U3.out i hi).imp id (fun h => by simpa using h))⟩
    · obtain rfl : k = xs.length := by omega
      have hz := HS.out
      rw [List.take_length] at hz
      have HZ := Lib.hid hz
      clear hz
      go_wp2_with fail
      go_ret2
      exact ⟨rfl, vk, HZ.out, HK.out, HL.out⟩
end Go.Proofs.Ytgakggkffapnlaa.R_int
