/- SavesPlays returns true at every input: what each call answers, and which saves there are, call by call. No conditions. -/
import Derived.Test.YtehiakdagmocjaaSame
import Derived.Test.YtehiakdagmocjaaLast
namespace Go.Proofs.Ytehiakdagmocjaa
open Go.RowKit R_int

/-- both hold one list -/
def PInv (w : World) (g g' k : Nat) (v va vx : Value) (l : List (Int × Int)) (wr : World) : Prop :=
  SRow wr g v l ∧ SRef wr g' va vx l ∧ Rises l ∧ l.length ≤ 1 + k ∧ Fresh w wr ∧ ∀ k, foot g v k ∨ rfoot g' va vx k → w.heap.size ≤ k
theorem PInv.next {w wr w2 w3 : World} {g g' k : Nat} {v va vx v' va' vx' : Value} {l : List (Int × Int)} {o : Op} (h : PInv w g g' k v va vx l wr) (k2 : Keep (fun k => foot g v k ∨ rfoot g' va vx k) wr w2)
    (s2 : SRow w2 g v' (step l o)) (r2 : SRef w2 g' va' vx' (step l o)) (l2 : Later wr v v') (m2 : RLater wr g' va vx va' vx') (f3 : Fresh w2 w3) : PInv w g g' (k + 1) v' va' vx' (step l o) w3 := by
  obtain ⟨h1, h2, h3, h4, h5, h6⟩ := h
  have := h5.size
  refine ⟨s2.fresh f3, r2.fresh f3, step_rises h3 o, by have := step_length l o; omega, (h5.step k2 ?_).step f3 (fun _ _ h => h), ?_⟩
  · intro i hi hh
    have := h6 i hh
    omega
  · rintro i ((rfl | hi) | hi)
    · exact h6 _ (.inl (.inl rfl))
    · rcases l2 i hi with h | h
      · exact h6 i (.inl (.inr h))
      · omega
    · rcases m2 i hi with h | h
      · exact h6 i (.inr h)
      · omega
theorem PInv.drew {w wr : World} {g g' k : Nat} {v va vx : Value} {l : List (Int × Int)} (h : PInv w g g' k v va vx l wr) : PInv w g g' k v va vx l wr.drew :=
  ⟨h.1.fresh (Keep.refl _ _).drew, h.2.1.fresh (Keep.refl _ _).drew, h.2.2.1, h.2.2.2.1, h.2.2.2.2.1.drew, h.2.2.2.2.2⟩
theorem plays_long (A : Option Addr) (n c : Nat) (x : Int) (w : World) (h : 60 < n) (hn : n ≤ 9223372036854775807) :
    Law Try.prog 5 #[.int .i64 x, .slice A n c] w := by
  unfold Law
  have q1 : decide (60 < (n : Int)) = true := by simp; omega
  go_enter Try.func5, Try.ntmps5
  go_wp2_with (first | (go_at_call 11; refine (new_any x _).mono ?_; rintro e w1 ⟨g, v, rfl, h1, f1, _⟩) | (go_at_call 10; refine (awake_any _).mono ?_; rintro e w2 ⟨rfl, h3⟩))
  go_ret
  exact ⟨rfl, Fresh.below_ (f1.step h3 (fun _ _ h => h)) (Nat.le_refl _)⟩
theorem rises_one' (x : Int) : Rises [(-1, x)] := ⟨by simp, by simp⟩
theorem opAt_plays {w wr w2 : World} {g g' k b p : Nat} {v va vx : Value} {l : List (Int × Int)} {o : Op} (h : OpAt wr b p o) (lt : b < w.heap.size) (hS : PInv w g g' k v va vx l wr)
    (k2 : Keep (fun k => foot g v k ∨ rfoot g' va vx k) wr w2) : OpAt w2 b p o := by
  refine h.keep k2 ?_
  intro hh
  have := hS.2.2.2.2.2 _ hh
  omega

set_option maxRecDepth 100000 in
set_option maxHeartbeats 4000000 in
theorem plays_ok (A : Option Addr) (n c : Nat) (rows : List (List Value)) (x : Int) (w : World) (h : n ≤ 60)
    (hl : rows.length = n) (hr : ∀ x ∈ rows, OpRow x) (ha : SliceAt w A 3 rows) :
    Law Try.prog 5 #[.int .i64 x, .slice A n c] w := by
  unfold Law
  have q1 : decide (60 < (n : Int)) = false := by simp; omega
  have H1 := Lib.hid hl
  have H3 := Lib.hid hr
  have H5 := Lib.hid ha
  clear hl hr ha
  go_enter Try.func5, Try.ntmps5
  go_wp2_with (first
    | (go_at_call 11; refine (new_any x _).mono ?_; rintro e w1 ⟨g, v0, rfl, h1, f1, hg, hv⟩)
    | (go_at_call 13; refine (rnew_any x _).mono ?_; rintro e w2 ⟨g', va0, vx0, rfl, h2, f2, hg2⟩))
  have S0 : PInv w g g' 0 v0 va0 vx0 [(-1, x)] w2 := ⟨h1.fresh f2, h2, rises_one' x, by simp, f1.step f2 (fun _ _ h => h), by
    have := f1.size
    rintro k ((rfl | hk) | hk)
    · exact hg
    · exact hv k hk
    · have := hg2 k hk; omega⟩
  clear h1 f1 hg hv h2 f2 hg2
  go_loopg [7] n (fun gk u wr => ∃ (k : Nat) (v va vx : Value) (l : List (Int × Int)), k ≤ n ∧ gk = n - k ∧ u = .int .i64 k ∧ PInv w g g' k v va vx l wr)
  case atStart => exact ⟨0, v0, va0, vx0, _, by omega, rfl, rfl, S0⟩
  case round =>
    clear S0
    obtain ⟨k, v, va, vx, l, hk, rfl, rfl, hS⟩ := hrel
    by_cases hlt : k < n
    · obtain ⟨b0, off, o, rfl, lt0, hO⟩ := opAt_arg H5.out H3.out k (by rw [H1.out]; exact hlt)
      have hO := hO.fresh hS.2.2.2.2.1
      have hst := step_length l o
      have hl1 := hS.2.2.2.1
      have hp := (step_rises hS.2.2.1 o).1
      have kA := hO.1
      have kB := hO.2.1
      have kC := hO.2.2
      have lt1 := Nat.lt_of_lt_of_le lt0 hS.2.2.2.2.1.size
      have HS := Lib.hid hS
      clear hS hO
      go_wp2_with (first
          | (go_at_call 12; refine (does_any g v g' va vx l l o _ HS.out.1 HS.out.2.1 HS.out.2.2.1 HS.out.2.2.1 (by omega) (by omega)).mono ?_; rintro e w3 ⟨b, rfl, hb, k3, v', va', vx', s3, r3, l3, m3⟩; obtain rfl := hb rfl)
          | (go_at_call 18; refine (same_any g v' g' va' vx' (step l o) _ s3 r3 hp (by omega)).mono ?_; rintro e w4 ⟨rfl, f4⟩))
      go_roundg (n - (k + 1))
      case measure => omega
      case rel => exact ⟨k + 1, v', va', vx', step l o, by omega, rfl, by go_num, HS.out.next k3 s3 r3 l3 m3 f4⟩
    · obtain rfl : k = n := by omega
      have HS := Lib.hid hS
      clear hS
      go_wp2_with (go_at_call 10; refine (awake_any _).mono ?_; rintro e w7 ⟨rfl, f7⟩)
      go_ret
      exact ⟨rfl, Fresh.below_ (HS.out.2.2.2.2.1.step f7 (fun _ _ h => h)) (Nat.le_refl _)⟩
open Go.ChangeShapes Go.WideShapes Go.ChangeAt
set_option maxRecDepth 100000 in
theorem savesPlays_lifted (os : Os) (started : os.Started) (H : Type) (enc : TypeId × Value → H) :
    ReturnsInHanded {} Try.checked os 5 .any (Rows.savesPlaysSpec.pre6 enc Try.prog Try.f5 Rows.savesPlaysRow.domain false) (Rows.savesPlaysSpec.post enc Try.prog Try.f5 false true false false) := by
  refine law_lifted (C := Try.checked) (tb := 4) (by kernel_rfl) (by kernel_rfl) started (by kernel_rfl) Try.func5 rfl ?_ rfl Try.underlying4 (by kernel_rfl)
    (ChangeSpec.witness6 (enc := enc) (C := Try.checked) false ⟨#[], #[.int .i64 0, .slice none 0 0], []⟩ 12 (by kernel_rfl) (by kernel_rfl) (by kernel_rfl) (by kernel_rfl)) ?_
  · intro ds hds
    match ds, hds with
    | [e0, e1], _ => rfl
  · intro W base args ds p hval hA hreach
    rw [Try.params5] at hA hval hreach
    obtain ⟨v0, vs0, d0, ds0, p0, q0, hargs, rfl, rfl, h0, r0⟩ := trodAll_cons hA
    obtain ⟨v1, vs1, d1, ds1, p1, q1, rfl, rfl, rfl, h1, r1⟩ := trodAll_cons r0
    obtain ⟨rfl, rfl, rfl⟩ := trodAll_nil r1
    obtain rfl : args = #[v0, v1] := by cases args; simp_all
    obtain ⟨x, rfl, w_x⟩ := arg_int Try.underlying3 (hval 0 3 v0 rfl rfl) h0
    obtain ⟨A_l, n_l, c_l, rows_l, rfl, len_l, cap_l, max_l, leaf_l, at_l⟩ := arg_slice (n := 6) Try.underlying24 (by kernel_rfl) (by kernel_rfl) (by rw [show Try.prog.cellsOf 31 = 3 by kernel_rfl]; decide) (hval 1 24 v1 rfl rfl) h1
    rw [show flat Try.prog 6 31 = [3, 3, 3] by kernel_rfl] at leaf_l
    rw [show Try.prog.cellsOf 31 = 3 by kernel_rfl] at at_l
    by_cases h : 60 < n_l
    · exact plays_long A_l n_l c_l x W h (by unfold maxLen at max_l; omega)
    · exact plays_ok A_l n_l c_l rows_l x W (by omega) len_l (opRow_arg leaf_l) at_l

theorem savesPlays_holds : Rows.SavesPlaysSaid :=
  OpenClaim.holds_of_wide 5 Try.f5 rfl rfl rfl rfl rfl rfl rfl ⟨rfl, rfl, rfl, rfl, rfl⟩ rfl rfl rfl rfl rfl (by kernel_rfl) Try.func5 (by kernel_rfl)
    (of_decide_eq_true (by kernel_rfl)) (by unfold Func.isWrapper; first | (rw [if_pos (by decide +kernel)]; kernel_rfl) | (rw [if_neg (by decide +kernel)]; exact ⟨rfl, rfl⟩))
    (fun os started H enc _ => savesPlays_lifted os started H enc)
end Go.Proofs.Ytehiakdagmocjaa
