/- SavesLast returns true at every input: what Last answers of a time stays. No conditions. -/
import Derived.Test.YtehiakdagmocjaaLastP
import Derived.Test.YtehiakdagmocjaaAwake
namespace Go.Proofs.Ytehiakdagmocjaa
open Go.RowKit R_int
theorem rises_one : Rises [(-1, 0)] := ⟨by simp, by simp⟩theorem fresh_drew {w w2 : World} (f : Fresh w.drew w2) : Fresh w w2 := Keep.step (Keep.drew (Keep.refl _ w)) f (fun _ _ h => h)
def OpRow (r : List Value) : Prop := ∃ o : Op, r = [.int .i64 o.ask, .int .i64 o.at_, .int .i64 o.x]
/-- the row after some calls -/
def LInv (w : World) (g k : Nat) (v : Value) (l : List (Int × Int)) (wr : World) : Prop :=
  SRow wr g v l ∧ Rises l ∧ l.length ≤ 1 + k ∧ Fresh w wr ∧ ∀ k, foot g v k → w.heap.size ≤ k

/-- an argument's call, where it lies -/
def OpAt (W : World) (b p : Nat) (o : Op) : Prop := W.cell? ⟨b, p, none⟩ = some (.int .i64 o.ask) ∧ W.cell? ⟨b, p + 1, none⟩ = some (.int .i64 o.at_) ∧ W.cell? ⟨b, p + 2, none⟩ = some (.int .i64 o.x)
theorem OpAt.keep {w w' : World} {b p : Nat} {o : Op} {S : Nat → Prop} (h : OpAt w b p o) (hk : Keep S w w') (hn : ¬ S b) : OpAt w' b p o := by
  have lt := World.block_lt_of_cell? w _ h.1
  exact ⟨(hk.cell lt hn).trans h.1, (hk.cell (p := ⟨b, p + 1, none⟩) lt hn).trans h.2.1, (hk.cell (p := ⟨b, p + 2, none⟩) lt hn).trans h.2.2⟩
theorem OpAt.fresh {w w' : World} {b p : Nat} {o : Op} (h : OpAt w b p o) (hk : Fresh w w') : OpAt w' b p o := h.keep hk (fun h => h)
theorem opAt_arg {w : World} {A : Option Addr} {rows : List (List Value)} (ha : SliceAt w A 3 rows) (hr : ∀ x ∈ rows, OpRow x) (k : Nat) (hk : k < rows.length) : ∃ b off o, A = some ⟨b, off, none⟩ ∧ b < w.heap.size ∧ OpAt w b (off + k * 3) o := by
  obtain ⟨b, off, rfl, lt, hc⟩ := ha k hk
  obtain ⟨o, ho⟩ := hr (rows.getD k []) (by rw [List.getD_eq_getElem?_getD, List.getElem?_eq_getElem hk]; simp)
  rw [ho] at hc
  exact ⟨b, off, o, rfl, lt, hc 0 _ rfl, hc 1 _ rfl, hc 2 _ rfl⟩
theorem LInv.next {w wr w2 w3 : World} {g k g2 : Nat} {v v' va vx : Value} {l : List (Int × Int)} {o : Op} (h : LInv w g k v l wr) (f2 : Fresh wr w2) (n2 : ∀ k, rfoot g2 va vx k → wr.heap.size ≤ k)
    (k3 : Keep (fun k => foot g v k ∨ rfoot g2 va vx k) w2 w3) (s3 : SRow w3 g v' (step l o)) (l3 : Later w2 v v') : LInv w g (k + 1) v' (step l o) w3 := by
  obtain ⟨h1, h2, h3, h4, h5⟩ := h
  have := h4.size
  have := f2.size
  refine ⟨s3, step_rises h2 o, by have := step_length l o; omega, (h4.step f2 (fun _ _ h => h)).step k3 ?_, ?_⟩
  · rintro i hi (h | h)
    · have := h5 i h; omega
    · have := n2 i h; omega
  · rintro i (rfl | hi)
    · exact h5 _ (.inl rfl)
    · rcases l3 i hi with h | h
      · exact h5 i (.inr h)
      · omega
theorem LInv.fresh {w wr w2 : World} {g k : Nat} {v : Value} {l : List (Int × Int)} (h : LInv w g k v l wr) (f : Fresh wr w2) : LInv w g k v l w2 :=
  ⟨h.1.fresh f, h.2.1, h.2.2.1, h.2.2.2.1.step f (fun _ _ h => h), h.2.2.2.2⟩
theorem LInv.more {w wr : World} {g k k' : Nat} {v : Value} {l : List (Int × Int)} (h : LInv w g k v l wr) (hk : k ≤ k') : LInv w g k' v l wr := ⟨h.1, h.2.1, by have := h.2.2.1; omega, h.2.2.2⟩

theorem opAt_does {w wr w2 w3 : World} {g k g2 b p : Nat} {v va vx : Value} {l : List (Int × Int)} {o : Op} (h : OpAt wr b p o) (lt : b < w.heap.size) (hS : LInv w g k v l wr) (f2 : Fresh wr w2) (n2 : ∀ k, rfoot g2 va vx k → wr.heap.size ≤ k)
    (k3 : Keep (fun k => foot g v k ∨ rfoot g2 va vx k) w2 w3) : OpAt w3 b p o := by
  refine (h.fresh f2).keep k3 ?_
  have := hS.2.2.2.1.size
  rintro (hh | hh)
  · have := hS.2.2.2.2 _ hh; omega
  · have := n2 _ hh; omega
theorem box_size (wr : World) (ob : Obj) : (wr.alloc ob).drew.heap.size = wr.heap.size + 1 := by
  show (wr.alloc ob).heap.size = _
  simp
theorem blk_does {wr w2 w3 : World} {ob : Obj} {g g2 : Nat} {t : TypeId} {cs : Array Value} {v va vx : Value} {l : List (Int × Int)} (hS : SRow wr g v l) (n2 : ∀ k, rfoot g2 va vx k → (wr.alloc ob).drew.heap.size ≤ k)
    (k3 : Keep (fun k => foot g v k ∨ rfoot g2 va vx k) w2 w3) (hb : Blk w2 wr.heap.size t cs) : Blk w3 wr.heap.size t cs := by
  refine hb.keep k3 ?_
  rintro (hh | hh)
  · have := hS.lt _ hh; omega
  · have := n2 _ hh; rw [box_size] at this; omega
theorem LInv.next_box {w wr w2 w3 : World} {ob : Obj} {g k g2 : Nat} {v v' va vx : Value} {l : List (Int × Int)} {o : Op} (h : LInv w g k v l wr) (f2 : Fresh (wr.alloc ob).drew w2) (n2 : ∀ k, rfoot g2 va vx k → (wr.alloc ob).drew.heap.size ≤ k)
    (k3 : Keep (fun k => foot g v k ∨ rfoot g2 va vx k) w2 w3) (s3 : SRow w3 g v' (step l o)) (l3 : Later w2 v v') : LInv w g (k + 1) v' (step l o) w3 :=
  h.next (Keep.step ((Keep.refl _ wr).alloc ob).drew f2 (fun _ _ h => h)) (fun i hi => by have := n2 i hi; rw [box_size] at this; omega) k3 s3 l3
theorem last_long (A B : Option Addr) (n c n' c' : Nat) (below : Int) (w : World) (h : 60 < n ∨ 60 < n') (hn : n ≤ 9223372036854775807) (hn' : n' ≤ 9223372036854775807) :
    Law Try.prog 6 #[.slice A n c, .int .i64 below, .slice B n' c'] w := by
  unfold Law
  have hq : decide (60 < (n : Int)) = true ∨ (decide (60 < (n : Int)) = false ∧ decide (60 < (n' : Int)) = true) := by simp; omega
  rcases hq with q1 | ⟨q1, q2⟩
  all_goals
    go_enter Try.func6, Try.ntmps6
    go_wp2_with (first | (go_at_call 11; refine (new_any 0 _).mono ?_; rintro e w1 ⟨g, v, rfl, h1, f1, _⟩) | (go_at_call 10; refine (awake_any _).mono ?_; rintro e w2 ⟨rfl, h3⟩))
    go_ret
    exact ⟨rfl, Fresh.below_ (f1.step h3 (fun _ _ h => h)) (Nat.le_refl _)⟩

set_option maxRecDepth 100000 in
set_option maxHeartbeats 8000000 in
theorem last_ok (A B : Option Addr) (n c n' c' : Nat) (rows rows' : List (List Value)) (below : Int) (w : World) (h : n ≤ 60) (h' : n' ≤ 60)
    (hl : rows.length = n) (hl' : rows'.length = n') (hr : ∀ x ∈ rows, OpRow x) (hr' : ∀ x ∈ rows', OpRow x) (ha : SliceAt w A 3 rows) (ha' : SliceAt w B 3 rows') :
    Law Try.prog 6 #[.slice A n c, .int .i64 below, .slice B n' c'] w := by
  unfold Law
  have q1 : decide (60 < (n : Int)) = false := by simp; omega
  have q2 : decide (60 < (n' : Int)) = false := by simp; omega
  have H1 := Lib.hid hl
  have H2 := Lib.hid hl'
  have H3 := Lib.hid hr
  have H4 := Lib.hid hr'
  have H5 := Lib.hid ha
  have H6 := Lib.hid ha'
  clear hl hl' hr hr' ha ha'
  go_enter Try.func6, Try.ntmps6
  go_wp2_with (go_at_call 11; refine (new_any 0 _).mono ?_; rintro e w1 ⟨g, v0, rfl, h1, f1, hg, hv⟩)
  have S0 : LInv w g 0 v0 [(-1, 0)] w1 := ⟨h1, ⟨by simp, by simp⟩, by simp, f1, by
    rintro k (rfl | hk)
    · exact hg
    · exact hv k hk⟩
  clear h1 f1 hg hv
  go_loopg [8] n (fun gk u wr => ∃ (k : Nat) (v : Value) (l : List (Int × Int)), k ≤ n ∧ gk = n - k ∧ u = .int .i64 k ∧ LInv w g k v l wr)
  case atStart => exact ⟨0, v0, _, by omega, rfl, rfl, S0⟩
  case round =>
    clear S0
    obtain ⟨k, v, l, hk, rfl, rfl, hS⟩ := hrel
    by_cases hlt : k < n
    · obtain ⟨b0, off, o, rfl, lt0, hO⟩ := opAt_arg H5.out H3.out k (by rw [H1.out]; exact hlt)
      have hO := hO.fresh hS.2.2.2.1
      have HS := Lib.hid hS
      have HO := Lib.hid hO
      have kA := fun (W : World) (h : OpAt W b0 (off + k * 3) o) => h.1
      have kB := fun (W : World) (h : OpAt W b0 (off + k * 3) o) => h.2.1
      have kC := fun (W : World) (h : OpAt W b0 (off + k * 3) o) => h.2.2
      clear hS hO
      go_wp2_with fail
      go_region_held3 (fun W => OpAt W b0 (off + k * 3) o)
        (first
          | exact HO.out
          | exact opAt_does HO.out lt0 HS.out f2 n2 k3
          | exact HO.out.fresh f2)
        (first
          | (go_at_call 13; refine (rnew_any 0 _).mono ?_; rintro e w2 ⟨g2, va, vx, rfl, s2, f2, n2⟩; have f2 := fresh_drew f2)
          | (go_at_call 12; refine (does_any g v g2 va vx l [(-1, 0)] o _ (HS.out.1.fresh f2) s2 HS.out.2.1 rises_one (by have := HS.out.2.2.1; omega) (by simp)).mono ?_; rintro e w3 ⟨b, rfl, _, k3, v', va', vx', s3, _, l3, _⟩))
      go_wp2
      go_roundg (n - (k + 1))
      case measure => omega
      case rel => exact ⟨k + 1, v', step l o, by omega, rfl, by go_num, HS.out.next f2 n2 k3 s3 l3⟩
    · obtain rfl : k = n := by omega
      have HS := Lib.hid hS
      clear hS
      go_wp2_with fail
      refine (last_any g v l below _ HS.out.1).mono ?_
      rintro e w4 ⟨rfl, f4⟩
      have S4 := HS.out.fresh f4
      obtain ⟨R, hR⟩ : ∃ t, lastR l below = t := ⟨_, rfl⟩
      have HR := Lib.hid hR
      rw [hR]
      obtain ⟨R1, R2, R3⟩ := R
      clear HS f4
      go_wp2_with fail
      clear hR
      go_loopg [12] n' (fun gk u wr => ∃ (j : Nat) (v : Value) (l : List (Int × Int)), j ≤ n' ∧ gk = n' - j ∧ u = .int .i64 j ∧ LInv w g (k + j) v l wr ∧ lastR l below = (R1, R2, R3))
      case atStart => exact ⟨0, v, l, by omega, rfl, rfl, S4, HR.out⟩
      case round =>
        clear S4 HR
        obtain ⟨j, v, l, hj, rfl, rfl, hS, hL⟩ := hrel
        have HL := Lib.hid hL
        clear hL
        by_cases hlt : j < n'
        · obtain ⟨b0, off, o, rfl, lt0, hO⟩ := opAt_arg H6.out H4.out j (by rw [H2.out]; exact hlt)
          have hO := hO.fresh hS.2.2.2.1
          have cA := hO.1
          have cB := hO.2.1
          have cC := hO.2.2
          have lt1 := Nat.lt_of_lt_of_le lt0 hS.2.2.2.1.size
          have HS := Lib.hid hS
          clear hS hO
          by_cases hg : (o.ask = 2 ∧ below < o.at_) ∨ (o.ask ≠ 2 ∧ o.at_ < below)
          · rcases hg with ⟨h2, h3⟩ | ⟨h2, h3⟩
            · have t2 : (o.ask == 2) = true := by simpa using h2
              have t3 : decide (below < o.at_) = true := by simpa using h3
              go_wp2_with fail
              go_roundg (n' - (j + 1))
              case measure => omega
              case rel => exact ⟨j + 1, v, l, by omega, rfl, by go_num, (HS.out.fresh ((Keep.refl _ _).alloc _)).more (by omega), HL.out⟩
            · have t2 : (o.ask == 2) = false := by simpa using h2
              have t3 : decide (o.at_ < below) = true := by simpa using h3
              go_wp2_with fail
              go_roundg (n' - (j + 1))
              case measure => omega
              case rel => exact ⟨j + 1, v, l, by omega, rfl, by go_num, (HS.out.fresh ((Keep.refl _ _).alloc _)).more (by omega), HL.out⟩
          · have hq := lastR_step l o below (by omega) (by omega)
            rw [HL.out] at hq
            have HQ := Lib.hid hq
            clear hq
            have hc : (o.ask = 2 ∧ ¬ below < o.at_) ∨ (o.ask ≠ 2 ∧ ¬ o.at_ < below) := by omega
            clear hg
            have hb := step_length l o
            have hb2 := HS.out.2.2.1
            have hr3 := step_rises HS.out.2.1 o
            have hb1 := hr3.1
            clear hr3
            have tl : decide (((step l o).length : Int) < 1) = false := by simp; omega
            have te1 : (R1 == R1) = true := by simp
            have te2 : (R2 == R2) = true := by simp
            have te3 : (R3 == R3) = true := by simp
            rcases hc with ⟨h2, h3⟩ | ⟨h2, h3⟩
            · have t2 : (o.ask == 2) = true := by simpa using h2
              have t3 : decide (below < o.at_) = false := by simpa using h3
              have BO : Hid (Blk (wr.alloc (.cells #[.int .i64 2, .int .i64 o.at_, .int .i64 o.x] 31)).drew wr.heap.size 31 #[.int .i64 2, .int .i64 o.at_, .int .i64 o.x]) := Blk.at_new rfl _ _
              have FO : Hid (Fresh wr (wr.alloc (.cells #[.int .i64 2, .int .i64 o.at_, .int .i64 o.x] 31)).drew) := ((Keep.refl _ _).alloc _).drew
              have kO := fun (W : World) (h : Blk W wr.heap.size 31 #[.int .i64 2, .int .i64 o.at_, .int .i64 o.x]) (i : Nat) => h.cell i
              go_wp2_with fail
              go_region_held3 (fun W => Blk W wr.heap.size 31 #[.int .i64 2, .int .i64 o.at_, .int .i64 o.x])
                (first
                  | exact BO.out
                  | exact blk_does HS.out.1 n2 k3 (f2.blk_ BO.out)
                  | exact f2.blk_ BO.out)
                (first
                  | (go_at_call 13; refine (rnew_any 0 _).mono ?_; rintro e w2 ⟨g2, va, vx, rfl, s2, f2, n2⟩)
                  | (go_at_call 12; have hd := does_any g v g2 va vx l [(-1, 0)] o _ ((HS.out.1.fresh FO.out).fresh f2) s2 HS.out.2.1 rises_one (by omega) (by simp); rw [h2] at hd; refine hd.mono ?_; rintro e w3 ⟨b, rfl, _, k3, v', va', vx', s3, _, l3, _⟩))
              go_wp2_with fail
              refine (last_any g v' (step l o) below _ s3).mono ?_
              rintro e w4 ⟨rfl, f4⟩
              rw [HQ.out]
              go_wp2_with (go_at_call 20; refine (len_any g v' (step l o) _ (s3.fresh f4)).mono ?_; rintro e w5 ⟨rfl, rfl⟩)
              go_roundg (n' - (j + 1))
              case measure => omega
              case rel => exact ⟨j + 1, v', step l o, by omega, rfl, by go_num, (HS.out.next_box f2 n2 k3 s3 l3).fresh f4, HQ.out⟩
            · have t2 : (o.ask == 2) = false := by simpa using h2
              have t3 : decide (o.at_ < below) = false := by simpa using h3
              have BO : Hid (Blk (wr.alloc (.cells #[.int .i64 o.ask, .int .i64 o.at_, .int .i64 o.x] 31)).drew wr.heap.size 31 #[.int .i64 o.ask, .int .i64 o.at_, .int .i64 o.x]) := Blk.at_new rfl _ _
              have FO : Hid (Fresh wr (wr.alloc (.cells #[.int .i64 o.ask, .int .i64 o.at_, .int .i64 o.x] 31)).drew) := ((Keep.refl _ _).alloc _).drew
              have kO := fun (W : World) (h : Blk W wr.heap.size 31 #[.int .i64 o.ask, .int .i64 o.at_, .int .i64 o.x]) (i : Nat) => h.cell i
              go_wp2_with fail
              go_region_held3 (fun W => Blk W wr.heap.size 31 #[.int .i64 o.ask, .int .i64 o.at_, .int .i64 o.x])
                (first
                  | exact BO.out
                  | exact blk_does HS.out.1 n2 k3 (f2.blk_ BO.out)
                  | exact f2.blk_ BO.out)
                (first
                  | (go_at_call 13; refine (rnew_any 0 _).mono ?_; rintro e w2 ⟨g2, va, vx, rfl, s2, f2, n2⟩)
                  | (go_at_call 12; refine (does_any g v g2 va vx l [(-1, 0)] o _ ((HS.out.1.fresh FO.out).fresh f2) s2 HS.out.2.1 rises_one (by omega) (by simp)).mono ?_; rintro e w3 ⟨b, rfl, _, k3, v', va', vx', s3, _, l3, _⟩))
              go_wp2_with fail
              refine (last_any g v' (step l o) below _ s3).mono ?_
              rintro e w4 ⟨rfl, f4⟩
              rw [HQ.out]
              go_wp2_with (go_at_call 20; refine (len_any g v' (step l o) _ (s3.fresh f4)).mono ?_; rintro e w5 ⟨rfl, rfl⟩)
              go_roundg (n' - (j + 1))
              case measure => omega
              case rel => exact ⟨j + 1, v', step l o, by omega, rfl, by go_num, (HS.out.next_box f2 n2 k3 s3 l3).fresh f4, HQ.out⟩
        · obtain rfl : j = n' := by omega
          have HS := Lib.hid hS
          clear hS
          have hb2 := HS.out.2.2.1
          have hb1 := HS.out.2.1.1
          have tl : decide (1 ≤ (l.length : Int)) = true := by simp; omega
          have te : ((l.length : Int) == (l.length : Int)) = true := by simp
          go_wp2_with (first
            | (go_at_call 20; refine (len_any g v l _ HS.out.1).mono ?_; rintro e w5 ⟨rfl, rfl⟩)
            | (go_at_call 20; refine (len_any g v l _ (HS.out.1.fresh f6)).mono ?_; rintro e w5 ⟨rfl, rfl⟩)
            | (go_at_call 15; refine (times_any g v l _ HS.out.1 hb1 (by omega)).mono ?_; rintro e w6 ⟨v', rfl, o6, f6, _⟩; obtain ⟨A6, cap6, rfl, _, _⟩ := o6.shape)
            | (go_at_call 10; refine (awake_any _).mono ?_; rintro e w7 ⟨rfl, f7⟩))
          go_ret
          exact ⟨rfl, Fresh.below_ ((HS.out.2.2.2.1.step f6 (fun _ _ h => h)).step f7 (fun _ _ h => h)) (Nat.le_refl _)⟩
open Go.ChangeShapes Go.WideShapes Go.ChangeAt
theorem opRow_arg {H : Type} {enc : TypeId × Value → H} {W : World} {rows : List (List Value)} (h : ∀ r ∈ rows, All2 (Leaf enc Try.prog W) [3, 3, 3] r) : ∀ x ∈ rows, OpRow x := by
  intro x hx
  obtain ⟨a, l0, e0, _, h0⟩ := all2_int Try.underlying3 (h x hx)
  obtain ⟨b, l1, e1, _, h1⟩ := all2_int Try.underlying3 h0
  obtain ⟨c, l2, e2, _, h2⟩ := all2_int Try.underlying3 h1
  have e3 := all2_nil h2
  subst e3 e2 e1 e0
  exact ⟨⟨a, b, c⟩, rfl⟩
set_option maxRecDepth 100000 in
theorem savesLast_lifted (os : Os) (started : os.Started) (H : Type) (enc : TypeId × Value → H) :
    ReturnsInHanded {} Try.checked os 6 .any (Rows.savesLastSpec.pre6 enc Try.prog Try.f6 Rows.savesLastRow.domain false) (Rows.savesLastSpec.post enc Try.prog Try.f6 false true false false) := by
  refine law_lifted (C := Try.checked) (tb := 4) (by kernel_rfl) (by kernel_rfl) started (by kernel_rfl) Try.func6 rfl ?_ rfl Try.underlying4 (by kernel_rfl)
    (ChangeSpec.witness6 (enc := enc) (C := Try.checked) false ⟨#[], #[.slice none 0 0, .int .i64 0, .slice none 0 0], []⟩ 12 (by kernel_rfl) (by kernel_rfl) (by kernel_rfl) (by kernel_rfl)) ?_
  · intro ds hds
    match ds, hds with
    | [e0, e1, e2], _ => rfl
  · intro W base args ds p hval hA hreach
    rw [Try.params6] at hA hval hreach
    obtain ⟨v0, vs0, d0, ds0, p0, q0, hargs, rfl, rfl, h0, r0⟩ := trodAll_cons hA
    obtain ⟨v1, vs1, d1, ds1, p1, q1, rfl, rfl, rfl, h1, r1⟩ := trodAll_cons r0
    obtain ⟨v2, vs2, d2, ds2, p2, q2, rfl, rfl, rfl, h2, r2⟩ := trodAll_cons r1
    obtain ⟨rfl, rfl, rfl⟩ := trodAll_nil r2
    obtain rfl : args = #[v0, v1, v2] := by cases args; simp_all
    obtain ⟨A_l, n_l, c_l, rows_l, rfl, len_l, cap_l, max_l, leaf_l, at_l⟩ := arg_slice (n := 6) Try.underlying24 (by kernel_rfl) (by kernel_rfl) (by rw [show Try.prog.cellsOf 31 = 3 by kernel_rfl]; decide) (hval 0 24 v0 rfl rfl) h0
    rw [show flat Try.prog 6 31 = [3, 3, 3] by kernel_rfl] at leaf_l
    rw [show Try.prog.cellsOf 31 = 3 by kernel_rfl] at at_l
    obtain ⟨below, rfl, w_below⟩ := arg_int Try.underlying3 (hval 1 3 v1 rfl rfl) h1
    obtain ⟨A_m, n_m, c_m, rows_m, rfl, len_m, cap_m, max_m, leaf_m, at_m⟩ := arg_slice (n := 6) Try.underlying24 (by kernel_rfl) (by kernel_rfl) (by rw [show Try.prog.cellsOf 31 = 3 by kernel_rfl]; decide) (hval 2 24 v2 rfl rfl) h2
    rw [show flat Try.prog 6 31 = [3, 3, 3] by kernel_rfl] at leaf_m
    rw [show Try.prog.cellsOf 31 = 3 by kernel_rfl] at at_m
    by_cases h : 60 < n_l ∨ 60 < n_m
    · exact last_long A_l A_m n_l c_l n_m c_m below W h (by unfold maxLen at max_l; omega) (by unfold maxLen at max_m; omega)
    · exact last_ok A_l A_m n_l c_l n_m c_m rows_l rows_m below W (by omega) (by omega) len_l len_m (opRow_arg leaf_l) (opRow_arg leaf_m) at_l at_m

theorem savesLast_holds : Rows.SavesLastSaid :=
  OpenClaim.holds_of_wide 6 Try.f6 rfl rfl rfl rfl rfl rfl rfl ⟨rfl, rfl, rfl, rfl, rfl⟩ rfl rfl rfl rfl rfl (by kernel_rfl) Try.func6 (by kernel_rfl)
    (of_decide_eq_true (by kernel_rfl)) (by unfold Func.isWrapper; first | (rw [if_pos (by decide +kernel)]; kernel_rfl) | (rw [if_neg (by decide +kernel)]; exact ⟨rfl, rfl⟩))
    (fun os started H enc _ => savesLast_lifted os started H enc)
end Go.Proofs.Ytehiakdagmocjaa
