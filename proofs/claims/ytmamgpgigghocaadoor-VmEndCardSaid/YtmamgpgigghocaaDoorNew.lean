/-
  vm.New, vm.Machine.Sent.
-/
import Derived.Test.YtmamgpgigghocaaDoorMach
import Derived.Laws.CopyRow
namespace Go.Proofs.YtmamgpgigghocaaDoor
open Go.RowKit
theorem run_max (P : Program) (w : World) (ts : Array TypeId) (t : TypeId) (k : IntKind) (x y : Int) : (Builtin.max_ ts t #[.int k x, .int k y]).run P w = .ok (.int k (max x y)) w := by
  simp [Builtin.max_, Builtin.max2]
  split <;> omega
theorem run_min (P : Program) (w : World) (ts : Array TypeId) (t : TypeId) (k : IntKind) (x y : Int) : (Builtin.min_ ts t #[.int k x, .int k y]).run P w = .ok (.int k (min x y)) w := by
  simp [Builtin.min_, Builtin.min2]
  split <;> omega
attribute [local go_sem ↓] Go.wp_at_zero Go.wp_at_succ run_min run_max

/-- copy of four cells out of a block's -/
theorem run_copy4 (W : World) (g o b o' dl dc sl sc : Nat) (t t' : TypeId) (cur src : Array Value) (cs : List Value) (hb : Blk W g t cur) (hs : Blk W b t' src) (hl : cs.length = Nat.min sl dl) (hc : ∀ j v, cs[j]? = some v → src[o' + j]? = some v) (hf : o + cs.length ≤ cur.size) (h1 : ∀ v ∈ cs, v.oneCell' = true) :
    ∃ W', (Builtin.copy_ #[50, 50] 3 #[.slice (some ⟨g, o, none⟩) dl dc, .slice (some ⟨b, o', none⟩) sl sc]).run Tryd.prog W = .ok (goInt cs.length) W' ∧ Blk W' g t (cur.toList.take o ++ cs ++ cur.toList.drop (o + cs.length)).toArray ∧ Keep (fun k => k = g) W W' := by
  refine ⟨_, run_copy_row Tryd.prog W 50 50 3 3 g o dl dc ⟨b, o', none⟩ sl sc cur t cs Tryd.underlying50 (by kernel_rfl) hb hl (fun j v hv => ?_) hf h1, setRow_heap W g cur _ t (0, 0) hb, ?_⟩
  · have : (⟨b, o', none⟩ : Addr).add j = ⟨b, o' + j, none⟩ := by unfold Addr.add; split <;> simp_all
    rw [this]
    exact hs.cell_ _ (hc j v hv)
  · exact ⟨rfl, rfl, rfl, Nat.le_of_eq (setRow_size _ _ _).symm, fun k _ hn => setRow_other _ _ _ _ hn⟩
theorem sent_nil (w : World) : Calls Tryd.prog 13 #[.pointer none] w fun en w' => en = .returned (.slice none 0 0) ∧ w = w' := by
  go_enter Tryd.func13, Tryd.ntmps13
  go_wp2
  go_returns
  exact ⟨rfl, rfl⟩
theorem sent_any (w : World) (g : Nat) (e : Ev) (o : Rest) (vp vs : Value) (P : List Ins) (fan : Int) (m : Ma) (h : Mach w g e o vp vs P fan m) (hsl : m.sent.length ≤ 100000) :
    Calls Tryd.prog 13 #[.pointer (some ⟨g, 0, none⟩)] w fun en w' => ∃ v, en = .returned v ∧ Given w w' 37 4 (outs fan m).length (ecells (outs fan m)) v := by
  obtain ⟨Av, capv, rfl, hcv, hmv⟩ := h.out.shape
  obtain ⟨_, _, _, _, _, _, _, k18⟩ := h.cells
  have hg := h.blk.lt
  have hle : (outs fan m).length ≤ 100000 := by
    unfold outs
    rw [List.length_take]
    omega
  have HC := Lib.hid (cloneE_any Av (outs fan m).length capv (ecells (outs fan m)) w h.out (ecells_one _) (by omega))
  clear h
  go_enter Tryd.func13, Tryd.ntmps13
  go_wp2_with fail
  refine HC.out.mono ?_
  rintro en w1 ⟨v, rfl, hv⟩
  have HV := Lib.hid hv
  clear hv
  go_wp2_with fail
  go_returns
  exact ⟨v, rfl, HV.out⟩

set_option maxHeartbeats 4000000 in
theorem new_any (A : Option Addr) (P : List Ins) (cap : Nat) (s0 s1 s2 s3 : Int) (e : Ev) (o : Rest) (fan : Int) (w : World) (h : Prg w A P) (hn : P.length ≤ cap) (hm : cap ≤ 9223372036854775807) :
    Calls Tryd.prog 14 #[.slice A P.length cap, .agg #[.int .i64 s0, .int .i64 s1, .int .i64 s2, .int .i64 s3], .agg #[.int .i64 e.at_, .int .i64 o.src, .int .i64 o.sent, .int .i64 o.no, .int .i64 e.dst, .int .i64 e.kind, .int .i64 e.data], .int .i64 fan] w fun en w' =>
      ∃ g vp, en = .returned (.pointer (some ⟨g, 0, none⟩)) ∧ Mach w' g e o vp (.slice none 0 0) (P.take 64) fan (startM [s0, s1, s2, s3]) ∧ Fresh w w' ∧ w.heap.size ≤ g := by
  obtain ⟨k, hk⟩ : ∃ k, min P.length 64 = k := ⟨_, rfl⟩
  have hmin : min (P.length : Int) 64 = (k : Nat) := by omega
  have hk1 : k ≤ P.length := by omega
  have hk2 : k ≤ 64 := by omega
  have htk : (P.take 64).length = k := by rw [List.length_take]; omega
  have HP : Hid (∀ W, Fresh w W → Prg W A (P.take 64)) := fun W f => (h.fresh f).take 64
  have HC : Hid (∀ W c', Fresh w W → Calls Tryd.prog 18 #[.slice A k c'] W fun en w' => ∃ v, en = .returned v ∧ Given W w' 41 5 k (icells (P.take 64)) v) := fun W c' f => by
    have := cloneI_any A (P.take 64) c' W (HP.out W f) (by rw [htk]; omega)
    rw [htk] at this
    exact this
  clear hk h
  go_enter Tryd.func14, Tryd.ntmps14
  go_wp2_with fail
  obtain ⟨WA, hWA⟩ : ∃ WA, ((w.alloc (.cells #[.int .i64 s0, .int .i64 s1, .int .i64 s2, .int .i64 s3] 24)).alloc (.cells #[.int .i64 e.at_, .int .i64 o.src, .int .i64 o.sent, .int .i64 o.no, .int .i64 e.dst, .int .i64 e.kind, .int .i64 e.data] 28)) = WA := ⟨_, rfl⟩
  have fa : Fresh w WA := hWA ▸ ((Keep.refl _ _).alloc _).alloc _
  have be : Blk WA (w.heap.size + 1) 28 #[.int .i64 e.at_, .int .i64 o.src, .int .i64 o.sent, .int .i64 o.no, .int .i64 e.dst, .int .i64 e.kind, .int .i64 e.data] := hWA ▸ Blk.at_new (by simp) _ _
  have bs : Blk WA w.heap.size 24 #[.int .i64 s0, .int .i64 s1, .int .i64 s2, .int .i64 s3] := hWA ▸ (Blk.new _ _ _).alloc _
  rw [hWA]
  have FA := Lib.hid fa
  have BE := Lib.hid be
  have BS := Lib.hid bs
  have kE := fun (W : World) (f : Fresh WA W) (i : Nat) => (f.blk_ BE.out).cell i
  have fw : Fresh WA WA := Keep.refl _ _
  have z1 : (0 : Int) ≤ (k : Int) := by omega
  have z2 : (k : Int) ≤ (cap : Int) := by omega
  have z3 : (k : Int) ≤ (P.length : Int) := by omega
  clear fa be bs hWA
  go_region_held3 (fun W => Fresh WA W)
    (first | (with_reducible assumption) | ((repeat (first | (with_reducible exact Keep.refl _ _) | (with_reducible assumption) | (with_reducible refine Keep.drew ?_) | (with_reducible refine Keep.drewN ?_ _) | (with_reducible refine Keep.alloc ?_ _) | (with_reducible refine Keep.setCell ?_ ?_ _) | (with_reducible refine fun _ => rfl)))))
    ((go_at_call 18; (with_reducible refine (HC.out _ _ (FA.out.step (by (repeat (first | (with_reducible exact Keep.refl _ _) | (with_reducible assumption) | (with_reducible refine Keep.drew ?_) | (with_reducible refine Keep.drewN ?_ _) | (with_reducible refine Keep.alloc ?_ _) | (with_reducible refine Keep.setCell ?_ ?_ _) | (with_reducible refine fun _ => rfl)))) (fun _ _ h => h))).mono ?_); rintro en w4 ⟨vp, rfl, v4⟩; obtain ⟨Ac, cc, rfl, _, _⟩ := v4.1.shape; have V4 := Lib.hid v4; have f4 := Keep.step (S := fun _ => False) (by (repeat (first | (with_reducible exact Keep.refl _ _) | (with_reducible assumption) | (with_reducible refine Keep.drew ?_) | (with_reducible refine Keep.drewN ?_ _) | (with_reducible refine Keep.alloc ?_ _) | (with_reducible refine Keep.setCell ?_ ?_ _) | (with_reducible refine fun _ => rfl))) : Fresh WA _) v4.2.1 (fun _ _ h => h)))
  have F4 := Lib.hid f4
  clear f4 v4 fw kE
  go_wp2_with fail
  obtain ⟨W5, hW5⟩ : ∃ W5, w4.alloc (.cells #[.int .i64 e.at_, .int .i64 o.src, .int .i64 o.sent, .int .i64 o.no, .int .i64 e.dst, .int .i64 e.kind, .int .i64 e.data, .slice Ac k cc, .int .i64 0, .int .i64 0, .int .i64 0, .int .i64 0, .int .i64 0, .int .i64 0, .int .i64 0, .int .i64 0, .int .i64 0, .int .i64 fan, .slice none 0 0] 52) = W5 := ⟨_, rfl⟩
  have b5 : Blk W5 w4.heap.size 52 #[.int .i64 e.at_, .int .i64 o.src, .int .i64 o.sent, .int .i64 o.no, .int .i64 e.dst, .int .i64 e.kind, .int .i64 e.data, .slice Ac k cc, .int .i64 0, .int .i64 0, .int .i64 0, .int .i64 0, .int .i64 0, .int .i64 0, .int .i64 0, .int .i64 0, .int .i64 0, .int .i64 fan, .slice none 0 0] := hW5 ▸ Blk.new _ _ _
  have f5 : Fresh w4 W5 := hW5 ▸ (Keep.refl _ _).alloc _
  rw [hW5]
  have s5 := Fresh.blk_ (F4.out.step f5 (fun _ _ h => h)) BS.out
  obtain ⟨W6, hr, b6, k6⟩ := run_copy4 W5.drew w4.heap.size 8 w.heap.size 0 8 8 4 4 _ _ _ _ [.int .i64 s0, .int .i64 s1, .int .i64 s2, .int .i64 s3] b5.drew s5.drew rfl (by intro j v hv; simpa using hv) (by simp) (by intro v hv; simp at hv; rcases hv with rfl | rfl | rfl | rfl <;> rfl)
  have hg5 := b5.lt
  have hs5 := s5.lt
  have c5 := b5.cell
  have B6 := Lib.hid b6
  have K6 := Lib.hid k6
  have F5 := Lib.hid f5
  have hr : (Builtin.copy_ #[50, 50] 3 #[.slice (some ⟨w4.heap.size, 8, none⟩) 8 8, .slice (some ⟨w.heap.size, 0, none⟩) 4 4]).run Tryd.prog W5.drew = .ok (.int .i64 4) W6 := hr
  clear b5 s5 b6 k6 f5 hW5 c5
  go_still_tail 5, (by kernel_rfl)
  go_wp2_with fail
  go_returns
  have f0 : Fresh w w4 := FA.out.step F4.out (fun _ _ h => h)
  have f5 : Fresh w W5.drew := (f0.step F5.out (fun _ _ h => h)).drew
  have hsz := f0.size
  have e0 : outs fan (startM [s0, s1, s2, s3]) = [] := by simp [outs, startM]
  refine ⟨w4.heap.size, rfl, ⟨.slice Ac k cc, ⟨B6.out, ?_, ?_, rfl⟩⟩, f5.step K6.out (fun i hi h => by omega), hsz⟩
  · rw [htk]
    refine ((V4.out.1.fresh F5.out).drew).kept K6.out (fun i hi h => ?_)
    have := V4.out.1.lt hi
    omega
  · rw [e0]
    exact OwnS.nil _ _ _
end Go.Proofs.YtmamgpgigghocaaDoor
