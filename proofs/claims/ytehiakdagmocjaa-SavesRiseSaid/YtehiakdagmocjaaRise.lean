/- SavesRise returns true at every input: times rise, nothing but what was saved is there, a copy goes its own way. No conditions. -/
import Derived.Test.YtehiakdagmocjaaSame
import Derived.Test.YtehiakdagmocjaaLast
namespace Go.Proofs.Ytehiakdagmocjaa
open Go.RowKit Go.Shelf R_int
attribute [local go_sem] Oper.semAt_some run_eql_func'

def row3 (a t x : Int) : List Value := [.int .i64 a, .int .i64 t, .int .i64 x]
theorem opAt_arg2 {w : World} {A : Option Addr} {rows : List (List Value)} (ha : SliceAt w A 3 rows) (hr : ∀ x ∈ rows, OpRow x) (k : Nat) (hk : k < rows.length) : ∃ b off o, A = some ⟨b, off, none⟩ ∧ b < w.heap.size ∧ OpAt w b (off + k * 3) o ∧ rows[k]? = some (row3 o.ask o.at_ o.x) := by
  obtain ⟨b, off, rfl, lt, hc⟩ := ha k hk
  have hg : rows.getD k [] = rows[k] := by rw [List.getD_eq_getElem?_getD, List.getElem?_eq_getElem hk]; rfl
  obtain ⟨o, ho⟩ := hr (rows.getD k []) (by rw [hg]; simp)
  rw [ho] at hc
  exact ⟨b, off, o, rfl, lt, ⟨hc 0 _ rfl, hc 1 _ rfl, hc 2 _ rfl⟩, by rw [List.getElem?_eq_getElem hk, ← hg, ho]; rfl⟩
/-- what may be there -/
def Saved (R : List (List Value)) (s : Int × Int) : Prop := s = (-1, 0) ∨ (row3 0 s.1 s.2 ∈ R ∧ 0 ≤ s.1)
theorem saved_low {R : List (List Value)} {s : Int × Int} (h : Saved R s) : -1 ≤ s.1 := by
  rcases h with rfl | ⟨_, h⟩
  · decide
  · omega
theorem saved_step {R : List (List Value)} {l : List (Int × Int)} {o : Op} (h : ∀ s ∈ l, Saved R s) (hne : 0 < l.length) (ho : row3 o.ask o.at_ o.x ∈ R) : ∀ s ∈ step l o, Saved R s := by
  intro s hs
  unfold step at hs
  split at hs
  · rename_i h0
    unfold saveL at hs
    split at hs
    · rename_i hm
      rcases List.mem_append.1 hs with hs | hs
      · exact h s hs
      · rw [List.mem_singleton.1 hs]
        right
        have h1 := ((may_iff _ _).1 hm).1 l[0] (List.getElem_mem hne)
        have h2 := saved_low (h l[0] (List.getElem_mem hne))
        refine ⟨?_, by simp only; omega⟩
        rw [← h0]
        exact ho
    · exact h s hs
  split at hs
  · exact h s (List.mem_of_mem_take hs)
  split at hs
  · exact h s (List.mem_of_mem_drop hs)
  · exact h s hs
def matchB (s : Int × Int) (row : List Value) : Bool := match row with
  | [.int .i64 a, .int .i64 t, .int .i64 x] => a == 0 && t == s.1 && x == s.2
  | _ => false
def isB (R : List (List Value)) (s : Int × Int) : Bool := (s.1 == -1 && s.2 == 0) || R.any (matchB s)
theorem isB_step (R R' : List (List Value)) (s : Int × Int) (i : Nat) (a t x : Int) (h : R'[i]? = some (row3 a t x)) : isB (R ++ R'.take (i + 1)) s = (isB (R ++ R'.take i) s || (a == 0 && t == s.1 && x == s.2)) := by
  unfold isB
  rw [List.take_add_one, h, List.any_append, List.any_append, List.any_append]
  simp [matchB, row3, Bool.or_assoc]
theorem isB_saved {R : List (List Value)} {s : Int × Int} (h : Saved R s) : isB R s = true := by
  unfold isB
  rcases h with rfl | ⟨h, _⟩
  · simp
  · rw [Bool.or_eq_true, List.any_eq_true]
    right
    exact ⟨_, h, by simp [matchB, row3]⟩
def lastT (pre : List (Int × Int)) : Int := (pre.getLast?.map (·.1)).getD (-2)
theorem lastT_snoc (pre : List (Int × Int)) (x : Int × Int) : lastT (pre ++ [x]) = x.1 := by simp [lastT]
def Bad (R : List (List Value)) (pre : List (Int × Int)) : Prop := ∃ pre' x, pre = pre' ++ [x] ∧ (isB R x = false ∨ x.1 ≤ lastT pre')
theorem bad_no {R : List (List Value)} {pre l : List (Int × Int)} (hr : Rises l) (hs : ∀ s ∈ l, Saved R s) (h : Bad R pre) (hp : pre <+: l) : False := by
  obtain ⟨pre', x, rfl, h⟩ := h
  obtain ⟨m, rfl⟩ := hp
  have hx := hs x (by simp)
  rcases h with h | h
  · rw [isB_saved hx] at h; cases h
  · rcases List.eq_nil_or_concat pre' with rfl | ⟨q, y, rfl⟩
    · have := saved_low hx
      simp [lastT] at h
      omega
    · rw [List.concat_eq_append, lastT_snoc] at h
      have h2 := hr.2
      rw [List.concat_eq_append] at h2
      simp only [List.append_assoc] at h2
      rw [List.pairwise_append] at h2
      have := (List.pairwise_append.1 h2.2.1).2.2 y (by simp) x (by simp)
      omega
theorem box_does {w0 wr w2 w3 : World} {g k g2 b : Nat} {t : TypeId} {cs : Array Value} {v va vx : Value} {l : List (Int × Int)} (hS : LInv w0 g k v l wr) (f2 : Fresh wr w2) (n2 : ∀ k, rfoot g2 va vx k → wr.heap.size ≤ k)
    (k3 : Keep (fun k => foot g v k ∨ rfoot g2 va vx k) w2 w3) (hb : Blk w0 b t cs) : Blk w3 b t cs := by
  have lt := hb.lt
  refine (f2.blk_ (hS.2.2.2.1.blk_ hb)).keep k3 ?_
  have := hS.2.2.2.1.size
  rintro (hh | hh)
  · have := hS.2.2.2.2 _ hh; omega
  · have := n2 _ hh; omega
set_option maxRecDepth 100000 in
set_option maxHeartbeats 8000000 in
theorem rise_ok (A B : Option Addr) (n c n' c' : Nat) (rows rows' : List (List Value)) (w : World) (h : n ≤ 60) (h' : n' ≤ 60)
    (hl : rows.length = n) (hl' : rows'.length = n') (hr : ∀ x ∈ rows, OpRow x) (hr' : ∀ x ∈ rows', OpRow x) (ha : SliceAt w A 3 rows) (ha' : SliceAt w B 3 rows') :
    Law Try.prog 4 #[.slice A n c, .slice B n' c'] w := by
  unfold Law
  have q1 : decide (60 < (n : Int)) = false := by simp; omega
  have q2 : decide (60 < (n' : Int)) = false := by simp; omega
  have H1 := Lib.hid hl
  have H2 := Lib.hid hl'
  have H3 := Lib.hid hr
  have H4 := Lib.hid hr'
  have H5 := Lib.hid ha
  have H6 := Lib.hid ha'
  clear hl hl' hr hr' ha ha'
  refine (callsIn_wide (n := 6)).1 ?_
  refine callsIn_of_wp_marks Try.func4 rfl trivial ?_ rfl
  simp only [Try.ntmps4, List.size_toArray, List.length_cons, List.length_nil, Nat.reduceAdd, Nat.reduceSub, Array.replicate_succ, Array.replicate_zero, List.push_toArray, List.append_toArray, List.nil_append, List.cons_append]
  refine wpIn_wide.2 ?_
  go_wp2_with fail
  have F0 : Fresh w (((w.alloc (.cells #[.slice A n c] 24)).alloc (.cells #[.slice B n' c'] 24)).alloc (.cells #[.bool false] 4)) := (((Keep.refl _ w).alloc _).alloc _).alloc _
  have BL : Blk (((w.alloc (.cells #[.slice A n c] 24)).alloc (.cells #[.slice B n' c'] 24)).alloc (.cells #[.bool false] 4)) w.heap.size 24 #[.slice A n c] := ((Blk.new w _ _).alloc _).alloc _
  have BM : Blk (((w.alloc (.cells #[.slice A n c] 24)).alloc (.cells #[.slice B n' c'] 24)).alloc (.cells #[.bool false] 4)) (w.heap.size + 1) 24 #[.slice B n' c'] := (Blk.at_new (by simp) _ _).alloc _
  have BR : Blk (((w.alloc (.cells #[.slice A n c] 24)).alloc (.cells #[.slice B n' c'] 24)).alloc (.cells #[.bool false] 4)) (w.heap.size + 1 + 1) 4 #[.bool false] := Blk.at_new (by simp) _ _
  obtain ⟨w0, hw0⟩ : ∃ w0, (((w.alloc (.cells #[.slice A n c] 24)).alloc (.cells #[.slice B n' c'] 24)).alloc (.cells #[.bool false] 4)) = w0 := ⟨_, rfl⟩
  rw [hw0] at F0 BL BM BR ⊢
  have XF := Lib.hid F0
  have XL := Lib.hid BL
  have XM := Lib.hid BM
  have XR := Lib.hid BR
  clear hw0 F0 BL BM BR
  refine (new_any 0 _).mono ?_
  rintro e w1 ⟨g, v0, rfl, h1, f1, hg, hv⟩
  have S0 : LInv w0 g 0 v0 [(-1, 0)] w1 := ⟨h1, ⟨by simp, by simp⟩, by simp, f1, by
    rintro k (rfl | hk)
    · exact hg
    · exact hv k hk⟩
  have cL := (f1.blk_ XL.out).cell
  have cM := (f1.blk_ XM.out).cell
  clear h1 f1 hg hv
  go_wp2_with fail
  clear cL cM
  go_loopg [6] n (fun gk u wr => ∃ (k : Nat) (v : Value) (l : List (Int × Int)), k ≤ n ∧ gk = n - k ∧ u = .int .i64 k ∧ LInv w0 g k v l wr ∧ ∀ s ∈ l, Saved rows s)
  case atStart => exact ⟨0, v0, _, by omega, rfl, rfl, S0, by intro s hs; exact .inl (List.mem_singleton.1 hs)⟩
  case round =>
    clear S0
    obtain ⟨k, v, l, hk, rfl, rfl, hS, hM⟩ := hrel
    have HM := Lib.hid hM
    clear hM
    have cL := (hS.2.2.2.1.blk_ XL.out).cell
    by_cases hlt : k < n
    · obtain ⟨b0, off, o, rfl, lt0, hO, hrow⟩ := opAt_arg2 H5.out H3.out k (by rw [H1.out]; exact hlt)
      have HW := Lib.hid (List.mem_of_getElem? hrow)
      clear hrow
      have hO := (hO.fresh XF.out).fresh hS.2.2.2.1
      have lt0' := Nat.lt_of_lt_of_le lt0 XF.out.size
      have HS := Lib.hid hS
      have HO := Lib.hid hO
      have kA := fun (W : World) (h : OpAt W b0 (off + k * 3) o) => h.1
      have kB := fun (W : World) (h : OpAt W b0 (off + k * 3) o) => h.2.1
      have kC := fun (W : World) (h : OpAt W b0 (off + k * 3) o) => h.2.2
      have kL := fun (W : World) (h : Blk W w.heap.size 24 #[.slice (some ⟨b0, off, none⟩) n c]) (i : Nat) => h.cell i
      clear hS hO
      go_wp2_with fail
      clear cL
      go_region_held3 (fun W => OpAt W b0 (off + k * 3) o ∧ Blk W w.heap.size 24 #[.slice (some ⟨b0, off, none⟩) n c])
        (first
          | exact ⟨HO.out, HS.out.2.2.2.1.blk_ XL.out⟩
          | exact ⟨opAt_does HO.out lt0' HS.out f2 n2 k3, box_does HS.out f2 n2 k3 XL.out⟩
          | exact ⟨HO.out.fresh f2, f2.blk_ (HS.out.2.2.2.1.blk_ XL.out)⟩)
        (first
          | (go_at_call 13; refine (rnew_any 0 _).mono ?_; rintro e w2 ⟨g2, va, vx, rfl, s2, f2, n2⟩; have f2 := fresh_drew f2)
          | (go_at_call 12; refine (does_any g v g2 va vx l [(-1, 0)] o _ (HS.out.1.fresh f2) s2 HS.out.2.1 rises_one (by have := HS.out.2.2.1; omega) (by simp)).mono ?_; rintro e w3 ⟨b, rfl, _, k3, v', va', vx', s3, _, l3, _⟩))
      go_wp2
      go_roundg (n - (k + 1))
      case measure => omega
      case rel => exact ⟨k + 1, v', step l o, by omega, rfl, by go_num, HS.out.next f2 n2 k3 s3 l3, saved_step HM.out HS.out.2.1.1 HW.out⟩
    · obtain rfl : k = n := by omega
      have hb1 := hS.2.1.1
      have hb2 := hS.2.2.1
      have HS := Lib.hid hS
      clear hS
      go_wp2_with fail
      clear cL
      refine (copy_any g v l _ HS.out.1 hb1 (by omega)).mono ?_
      rintro e wa ⟨gc, vc, rfl, sa, fa, nga, nva⟩
      go_wp2_with fail
      refine (times_any g v l _ (HS.out.1.fresh fa) hb1 (by omega)).mono ?_
      rintro e wb ⟨vt, rfl, ot, fb, nt⟩
      obtain ⟨gt, offt, capt, rfl, lt, nct, mct, cct⟩ := ot.form hb1
      have S1 : LInv wr gc k vc l wb := ⟨sa.fresh fb, HS.out.2.1, by omega, fa.step fb (fun _ _ h => h), by
        rintro i (rfl | hi)
        · exact nga
        · exact nva i hi⟩
      have HOT := Lib.hid ot
      have cM := (S1.2.2.2.1.blk_ (HS.out.2.2.2.1.blk_ XM.out)).cell
      have hgt : wr.heap.size ≤ gt := by have := nt gt (by simp [Value.ownBlock]); have := fa.size; omega
      clear ot sa fa fb nga nva nt cct
      go_wp2_with fail
      clear cM
      go_loopg [9] n' (fun gk u wr2 => ∃ (j : Nat) (v2 : Value) (l2 : List (Int × Int)), j ≤ n' ∧ gk = n' - j ∧ u = .int .i64 j ∧ LInv wr gc (k + j) v2 l2 wr2 ∧ (∀ s ∈ l2, Saved (rows ++ rows') s) ∧ OwnS wr2 3 1 (.slice (some ⟨gt, offt, none⟩) l.length capt) l.length (ints (l.map (·.1))))
      case atStart => exact ⟨0, vc, l, by omega, rfl, rfl, S1, fun s hs => (HM.out s hs).imp id (fun h => ⟨List.mem_append_left _ h.1, h.2⟩), HOT.out⟩
      case round =>
        clear S1
        obtain ⟨j, v2, l2, hj, rfl, rfl, hS2, hM2, hT⟩ := hrel
        have HM2 := Lib.hid hM2
        have HT := Lib.hid hT
        clear hM2 hT
        have cM := (hS2.2.2.2.1.blk_ (HS.out.2.2.2.1.blk_ XM.out)).cell
        by_cases hlt : j < n'
        · obtain ⟨b0, off, o, rfl, lt0, hO, hrow⟩ := opAt_arg2 H6.out H4.out j (by rw [H2.out]; exact hlt)
          have HW := Lib.hid (List.mem_append_right rows (List.mem_of_getElem? hrow))
          clear hrow
          have hO := ((hO.fresh XF.out).fresh HS.out.2.2.2.1).fresh hS2.2.2.2.1
          have lt0' := Nat.lt_of_lt_of_le lt0 (Nat.le_trans XF.out.size HS.out.2.2.2.1.size)
          have HS2 := Lib.hid hS2
          have HO := Lib.hid hO
          have XM2 := Lib.hid (HS.out.2.2.2.1.blk_ XM.out)
          have kA := fun (W : World) (h : OpAt W b0 (off + j * 3) o) => h.1
          have kB := fun (W : World) (h : OpAt W b0 (off + j * 3) o) => h.2.1
          have kC := fun (W : World) (h : OpAt W b0 (off + j * 3) o) => h.2.2
          have kL := fun (W : World) (h : Blk W (w.heap.size + 1) 24 #[.slice (some ⟨b0, off, none⟩) n' c']) (i : Nat) => h.cell i
          clear hS2 hO
          go_wp2_with fail
          clear cM
          go_region_held3 (fun W => OpAt W b0 (off + j * 3) o ∧ Blk W (w.heap.size + 1) 24 #[.slice (some ⟨b0, off, none⟩) n' c'])
            (first
              | exact ⟨HO.out, HS2.out.2.2.2.1.blk_ XM2.out⟩
              | exact ⟨opAt_does HO.out lt0' HS2.out f2 n2 k3, box_does HS2.out f2 n2 k3 XM2.out⟩
              | exact ⟨HO.out.fresh f2, f2.blk_ (HS2.out.2.2.2.1.blk_ XM2.out)⟩)
            (first
              | (go_at_call 13; refine (rnew_any 0 _).mono ?_; rintro e w2 ⟨g2, va, vx, rfl, s2, f2, n2⟩; have f2 := fresh_drew f2)
              | (go_at_call 12; refine (does_any gc v2 g2 va vx l2 [(-1, 0)] o _ (HS2.out.1.fresh f2) s2 HS2.out.2.1 rises_one (by have := HS2.out.2.2.1; omega) (by simp)).mono ?_; rintro e w3 ⟨b, rfl, _, k3, v', va', vx', s3, _, l3, _⟩))
          go_wp2
          go_roundg (n' - (j + 1))
          case measure => omega
          case rel => exact ⟨j + 1, v', step l2 o, by omega, rfl, by go_num, HS2.out.next f2 n2 k3 s3 l3, saved_step HM2.out HS2.out.2.1.1 HW.out, (HT.out.fresh f2).kept k3 (fun i hi hh => by
            have hl := HT.out.lt hi
            rcases hh with (rfl | hh) | hh
            · exact HT.out.ne_blk HS2.out.1.blk (by decide) hi
            · exact HT.out.ne_own HS2.out.1.own (by decide) i hi hh
            · have : wr.heap.size ≤ i := n2 i hh
              omega)⟩
        · obtain rfl : j = n' := by omega
          have HS2 := Lib.hid hS2
          have fK := HS2.out.2.2.2.1
          have SR := Lib.hid (HS.out.1.fresh fK)
          have FR := Lib.hid ((XF.out.step HS.out.2.2.2.1 (fun _ _ h => h)).step fK (fun _ _ h => h))
          have BLr := Lib.hid (fK.blk_ (HS.out.2.2.2.1.blk_ XL.out))
          have BMr := Lib.hid (fK.blk_ (HS.out.2.2.2.1.blk_ XM.out))
          have BRr := Lib.hid (fK.blk_ (HS.out.2.2.2.1.blk_ XR.out))
          clear hS2 fK
          go_wp2_with fail
          clear cM
          refine (times_any g v l _ SR.out hb1 (by omega)).mono ?_
          rintro e we ⟨vt2, rfl, ot2, fe, nt2⟩
          obtain ⟨gu, offu, capu, rfl, ltu, ncu, mcu, ccu⟩ := ot2.form hb1
          obtain ⟨_, _, _, eqt, _, _, _, cct⟩ := (HT.out.fresh fe).form hb1
          cases eqt
          have l1 := HS2.out.2.1.1
          have l3 := HS2.out.2.2.1
          go_wp2_with fail
          refine (ints_same gt offt capt gu offu capu l.length (l.map (·.1)) _ (by simp) nct ncu mct mcu cct ccu).mono ?_
          rintro e wf ⟨rfl, ff⟩
          have ff := fe.step ff (fun _ _ h => h)
          have FF := Lib.hid ff
          clear ff fe ot2 nt2 cct ccu
          go_wp2_with fail
          refine (all_any gc v2 l2 _ (HS2.out.1.fresh FF.out) l1 (by omega)).mono ?_
          rintro e wg ⟨vl, rfl, b1, o1, f1, n1⟩
          obtain ⟨gl, off, cap, rfl, _, _, _, _⟩ := o1.form l1
          have Q1 := Lib.hid b1
          have Q2 := Lib.hid o1
          have Q3 := Lib.hid (FF.out.step f1 (fun _ _ h => h))
          have fg := FF.out.step f1 (fun _ _ h => h)
          have G0 := Lib.hid (FR.out.step fg (fun _ _ h => h))
          have GL := Lib.hid (Fresh.blk_ fg BLr.out)
          have GM := Lib.hid (Fresh.blk_ fg BMr.out)
          have GR := Lib.hid (Fresh.blk_ fg BRr.out)
          have hgl : gl < wg.heap.size := o1.lt (k := gl) (by simp [Value.ownBlock])
          have hwf : wf.heap.size < wg.heap.size := b1.lt
          have szr := GR.out.lt
          have HR2 := Lib.hid HS2.out.2.1
          clear b1 o1 f1 n1 fg
          go_wp2_with fail
          refine (wpIn_wide (n := 6)).1 ?_
          refine wpIn_rangeFunc_ownG rfl (by omega) (gf := 35) (lb := #[.pointer (some ⟨wf.heap.size, 0, none⟩)]) rfl trivial (enters_of Try.func35 (by kernel_rfl) rfl)
            (all_stops Fence.wide (6 - 1) trivial rfl (by omega) wf.heap.size gl off cap l2 (by omega) _ (Q1.out.alloc _) (Q2.out.alloc _)) keepsB_t keepsB_b (Below.refl _ _) (fun _ => rfl)
            (fun pre W => (Fresh w W ∧ Blk W wg.heap.size 3 #[.int .i64 (lastT pre)]) ∧ Blk W w.heap.size 24 #[.slice A k c] ∧ Blk W (w.heap.size + 1) 24 #[.slice B j c'] ∧ Blk W (w.heap.size + 1 + 1) 4 #[.bool false]) (fun _ pre _ => Bad (rows ++ rows') pre) ?own (fun _ _ _ _ _ hs _ _ => hs)
            ⟨⟨G0.out.alloc _, Blk.new wg 3 _⟩, GL.out.alloc _, GM.out.alloc _, GR.out.alloc _⟩
            (fun x => { tmps := #[.slice A k c, .slice B j c', .pointer (some ⟨w.heap.size, 0, none⟩), .pointer (some ⟨w.heap.size + 1, 0, none⟩), .pointer (some ⟨w.heap.size + 1 + 1, 0, none⟩), .pointer (some ⟨g, 0, none⟩), .int .i64 ↑k, .pointer (some ⟨gc, 0, none⟩), .slice (some ⟨gt, offt, none⟩) l.length capt, .int .i64 ↑j, .func (.func 35) #[] #[.pointer (some ⟨wf.heap.size, 0, none⟩)], .pointer (some ⟨wg.heap.size, 0, none⟩), .int .i64 x.1, .int .i64 x.2, undef, undef, undef, .pointer (some ⟨g, 0, none⟩), .pointer (some ⟨g, 0, none⟩), .bool false, .bool false, .slice A k c, .int .i64 ↑k, .bool false, .bool false, .bool false, .slice B j c', .int .i64 ↑j, .bool false, .bool false, undef, undef, undef, undef, undef, .int .i64 ↑k, .slice A k c, .int .i64 ↑k, .bool false, u39, u40, u41, u42, u43, u44, u45, u46, u47, .pointer (some ⟨g, 0, none⟩), .pointer (some ⟨gc, 0, none⟩), .pointer (some ⟨g, 0, none⟩), .slice (some ⟨gt, offt, none⟩) l.length capt, .pointer (some ⟨gc, 0, none⟩), .bool false, .int .i64 ↑j, .slice B j c', .int .i64 ↑j, .bool false, u58, u59, u60, u61, u62, u63, u64, u65, u66, .slice (some ⟨gt, offt, none⟩) l.length capt, .pointer (some ⟨g, 0, none⟩), .slice (some ⟨gu, offu, none⟩) l.length capu, .bool true, .bool false, .pointer (some ⟨gc, 0, none⟩), .func (.func 35) #[] #[.pointer (some ⟨wf.heap.size, 0, none⟩)], .func (.func 35) #[] #[.pointer (some ⟨wf.heap.size, 0, none⟩)], .bool false, .func (.func 35) #[] #[.pointer (some ⟨wf.heap.size, 0, none⟩)], .int .i64 x.1, .int .i64 x.2, undef, undef, undef, undef, undef, undef, undef, undef, undef, undef, undef, undef, undef, undef, undef, undef, undef, undef, undef, undef, undef, undef, undef, undef, undef, undef, undef, undef, undef, undef, undef, undef, undef, undef, undef, undef, undef, undef, undef, undef, undef, undef, undef, undef, undef, undef, undef, undef, undef, undef, undef, undef, undef, undef, undef, undef, undef, undef, undef, undef, undef, undef, undef, undef, undef, undef, undef, undef, undef, undef, undef, undef, undef, undef, undef, undef, undef, undef, undef, undef, undef], defers := [] }) ?assign ?body ?done ?stop
          case own =>
            intro pre X Y row hs hg hr
            have hr' : ∀ r, row = some r → ∃ o : Obj, X.heap[r]? = some o ∧ o.isCells = false := fun r e => (hr r e).2
            exact ⟨⟨ownFrom_fresh (β := Unit) (by simp; omega) () X Y row hs.1.1 hg hr, blk_grown hs.1.2 hg hr'⟩, blk_grown hs.2.1 hg hr', blk_grown hs.2.2.1 hg hr', blk_grown hs.2.2.2 hg hr'⟩
          case assign =>
            intro lp x W K hK
            gi_wp2
            exact hK
          case stop =>
            rintro D cc pre W _ hp hn _
            exact (bad_no HR2.out HM2.out hn hp).elim
          case done =>
            rintro D ys W hD rfl ⟨⟨f2, bl⟩, bL, bM, bR⟩ hK
            have hDl := (Array.getElem?_eq_some_iff.1 hK).1
            have cr := bR.cell
            have fr := bR.frozen
            have lr := bR.lt
            have U1 := Lib.hid f2
            have U4 := Lib.hid bR
            have HK := Lib.hid hK
            clear f2 bl bL bM bR hK
            go_wp2_with (go_at_call 10; refine (awake_any _).mono ?_; rintro e w7 ⟨rfl, f7⟩; have c7 := (f7.blk_ U4.out).cell; have z7 := (f7.blk_ U4.out).frozen; have l7 := (f7.blk_ U4.out).lt)
            have b8 : Blk (w7.setCell ⟨w.heap.size + 1 + 1, 0, none⟩ (.bool true)) (w.heap.size + 1 + 1) 4 #[.bool true] := (f7.blk_ U4.out).set_ 0 (.bool true)
            have f8 : Fresh w (w7.setCell ⟨w.heap.size + 1 + 1, 0, none⟩ (.bool true)) := Keep.setCell (U1.out.step f7 (fun _ _ h => h)) (p := ⟨w.heap.size + 1 + 1, 0, none⟩) (fun h => by simp at h; omega) _
            have k7 : w7.heap[D]? = some (.deferred (some [])) := (f7.block D hDl (fun h => h)).trans HK.out
            have k8 : (w7.setCell ⟨w.heap.size + 1 + 1, 0, none⟩ (.bool true)).heap[D]? = some (.deferred (some [])) := (Below.heap_setCell w7 _ _ D (by simp at hD ⊢; omega)).trans k7
            refine ⟨by simp, .inl ⟨_, _, rfl, run_takeDeferred k8, ?_⟩⟩
            have hr : ∀ r, some D = some r → ∃ o : Obj, (w7.setCell ⟨w.heap.size + 1 + 1, 0, none⟩ (.bool true)).heap[r]? = some o ∧ o.isCells = false := fun r e => by cases e; exact ⟨_, k8, rfl⟩
            have c9 := (blk_grown b8 (grownBy_putObj' _ D (.deferred none)) hr).cell
            have f9 := ownFrom_fresh (β := Unit) (Nat.le_refl w.heap.size) () _ _ _ f8 (grownBy_putObj' _ D (.deferred none)) (fun r e => by cases e; exact ⟨by simp at hD; omega, _, k8, rfl⟩)
            clear c7 cr
            exact ⟨.bool true, by simp [results, Try.results4, go_sem, c9]; try rfl, rfl, Fresh.below_ f9 (Nat.le_refl _)⟩
          case body =>
            rintro lp pre x W ⟨⟨f2, bl⟩, bL, bM, bR⟩ hlt
            obtain ⟨x1, x2⟩ := x
            have cl := bl.cell
            have fl := bl.frozen
            have ll := bl.lt
            have cL := bL.cell
            have cM := bM.cell
            have cr := bR.cell
            have fr := bR.frozen
            have lr := bR.lt
            have U1 := Lib.hid f2
            have U2 := Lib.hid bl
            have UL := Lib.hid bL
            have UM := Lib.hid bM
            have U4 := Lib.hid bR
            clear f2 bl bL bM bR
            have szw : w.heap.size + 1 + 1 < wg.heap.size := szr
            by_cases hx1 : x1 = -1
            · have hx1b : (x1 == -1) = true := by simpa using hx1
              clear hx1
              gi_wp2_with fail
              gi_loopw [14, 15] (fun b u wr4 => ∃ i : Nat, i ≤ k ∧ b = .bool (isB ([] ++ rows.take i) (x1, x2)) ∧ u = .int .i64 i ∧ W = wr4) (fun _ u _ => k - (intOf u).toNat)
              case atStart => exact ⟨0, by omega, by simp [isB, hx1b], rfl, rfl⟩
              case round =>
                obtain ⟨i, hi, rfl, rfl, rfl⟩ := hrel
                by_cases hlt : i < k
                · obtain ⟨b0, off, o, rfl, lt0, hO, hrow⟩ := opAt_arg2 H5.out H3.out i (by rw [H1.out]; exact hlt)
                  obtain ⟨pA, pB, pC⟩ := hO.fresh U1.out
                  have hst := isB_step ([]) rows (x1, x2) i o.ask o.at_ o.x hrow
                  have HST := Lib.hid hst
                  obtain ⟨oa, ot, ox⟩ := o
                  obtain ⟨bb, hbb⟩ : ∃ bb, isB ([] ++ rows.take i) (x1, x2) = bb := ⟨_, rfl⟩
                  rw [hbb] at HST ⊢
                  clear hst hO hrow hbb
                  simp only at pA pB pC HST
                  cases bb
                  rotate_left
                  · gi_wp2_with fail
                    go_roundw
                    case rel => exact ⟨i + 1, by omega, by rw [HST.out]; simp, by go_num, trivial⟩
                    case measure => simp [intOf]; omega
                  cases t1 : (oa == 0)
                  · gi_wp2_with fail
                    go_roundw
                    case rel => exact ⟨i + 1, by omega, by rw [HST.out, t1]; simp, by go_num, trivial⟩
                    case measure => simp [intOf]; omega
                  cases t2 : (ot == x1)
                  · gi_wp2_with fail
                    go_roundw
                    case rel => exact ⟨i + 1, by omega, by rw [HST.out, t1, t2]; simp, by go_num, trivial⟩
                    case measure => simp [intOf]; omega
                  cases t3 : (ox == x2)
                  all_goals
                    gi_wp2_with fail
                    go_roundw
                    case rel => exact ⟨i + 1, by omega, by rw [HST.out, t1, t2, t3]; simp, by go_num, trivial⟩
                    case measure => simp [intOf]; omega
                · obtain rfl : i = k := by omega
                  rw [List.nil_append, List.take_of_length_le (Nat.le_of_eq H1.out)]
                  gi_wp2_with fail
                  gi_loopw [14, 16] (fun b u wr4 => ∃ i : Nat, i ≤ j ∧ b = .bool (isB (rows ++ rows'.take i) (x1, x2)) ∧ u = .int .i64 i ∧ W = wr4) (fun _ u _ => j - (intOf u).toNat)
                  case atStart => exact ⟨0, by omega, by simp, rfl, rfl⟩
                  case round =>
                    obtain ⟨i, hi, rfl, rfl, rfl⟩ := hrel
                    by_cases hlt : i < j
                    · obtain ⟨b0, off, o, rfl, lt0, hO, hrow⟩ := opAt_arg2 H6.out H4.out i (by rw [H2.out]; exact hlt)
                      obtain ⟨pA, pB, pC⟩ := hO.fresh U1.out
                      have hst := isB_step (rows) rows' (x1, x2) i o.ask o.at_ o.x hrow
                      have HST := Lib.hid hst
                      obtain ⟨oa, ot, ox⟩ := o
                      obtain ⟨bb, hbb⟩ : ∃ bb, isB (rows ++ rows'.take i) (x1, x2) = bb := ⟨_, rfl⟩
                      rw [hbb] at HST ⊢
                      clear hst hO hrow hbb
                      simp only at pA pB pC HST
                      cases bb
                      rotate_left
                      · gi_wp2_with fail
                        go_roundw
                        case rel => exact ⟨i + 1, by omega, by rw [HST.out]; simp, by go_num, trivial⟩
                        case measure => simp [intOf]; omega
                      cases t1 : (oa == 0)
                      · gi_wp2_with fail
                        go_roundw
                        case rel => exact ⟨i + 1, by omega, by rw [HST.out, t1]; simp, by go_num, trivial⟩
                        case measure => simp [intOf]; omega
                      cases t2 : (ot == x1)
                      · gi_wp2_with fail
                        go_roundw
                        case rel => exact ⟨i + 1, by omega, by rw [HST.out, t1, t2]; simp, by go_num, trivial⟩
                        case measure => simp [intOf]; omega
                      cases t3 : (ox == x2)
                      all_goals
                        gi_wp2_with fail
                        go_roundw
                        case rel => exact ⟨i + 1, by omega, by rw [HST.out, t1, t2, t3]; simp, by go_num, trivial⟩
                        case measure => simp [intOf]; omega
                    · obtain rfl : i = j := by omega
                      rw [List.take_of_length_le (Nat.le_of_eq H2.out)]
                      cases hB : isB (rows ++ rows') (x1, x2)
                      · have HB := Lib.hid hB
                        clear hB
                        gi_wp2_with fail
                        have K1 : Keep (fun k => k = w.heap.size + 1 + 1) W (W.setCell ⟨w.heap.size + 1 + 1, 0, none⟩ (.bool false)) := Keep.setCell (S := fun k => k = w.heap.size + 1 + 1) (Keep.refl _ _) (fun _ => rfl) _
                        exact ⟨(keepsOthers_of_keep K1 (by rintro k o rfl ho; exact blk_isCells U4.out ho)).from _, ⟨pre, _, rfl, .inl HB.out⟩⟩
                      · clear hB
                        by_cases hle : x1 ≤ lastT pre
                        · have tle : decide (x1 ≤ lastT pre) = true := by simpa using hle
                          have HL := Lib.hid hle
                          clear hle
                          gi_wp2_with fail
                          have K1 : Keep (fun k => k = w.heap.size + 1 + 1) W (W.setCell ⟨w.heap.size + 1 + 1, 0, none⟩ (.bool false)) := Keep.setCell (S := fun k => k = w.heap.size + 1 + 1) (Keep.refl _ _) (fun _ => rfl) _
                          exact ⟨(keepsOthers_of_keep K1 (by rintro k o rfl ho; exact blk_isCells U4.out ho)).from _, ⟨pre, _, rfl, .inr HL.out⟩⟩
                        · have tle : decide (x1 ≤ lastT pre) = false := by simpa using hle
                          clear hle
                          gi_wp2_with fail
                          have K1 : Keep (fun k => k = wg.heap.size) W (W.setCell ⟨wg.heap.size, 0, none⟩ (.int .i64 x1)) := Keep.setCell (S := fun k => k = wg.heap.size) (Keep.refl _ _) (fun _ => rfl) _
                          refine ⟨(keepsOthers_of_keep K1 (by rintro k o rfl ho; exact blk_isCells U2.out ho)).from _, KeepsB.of_keep K1 (by omega), ⟨U1.out.step K1 (by rintro k hk rfl; omega), ?_⟩, ?_, ?_, ?_⟩
                          · rw [lastT_snoc]; exact U2.out.set_ 0 _
                          · exact UL.out.far (by simp; omega) _
                          · exact UM.out.far (by simp; omega) _
                          · exact U4.out.far (by simp; omega) _
            · have hx1b : (x1 == -1) = false := by simpa using hx1
              clear hx1
              gi_wp2_with fail
              gi_loopw [14, 15] (fun b u wr4 => ∃ i : Nat, i ≤ k ∧ b = .bool (isB ([] ++ rows.take i) (x1, x2)) ∧ u = .int .i64 i ∧ W = wr4) (fun _ u _ => k - (intOf u).toNat)
              case atStart => exact ⟨0, by omega, by simp [isB, hx1b], rfl, rfl⟩
              case round =>
                obtain ⟨i, hi, rfl, rfl, rfl⟩ := hrel
                by_cases hlt : i < k
                · obtain ⟨b0, off, o, rfl, lt0, hO, hrow⟩ := opAt_arg2 H5.out H3.out i (by rw [H1.out]; exact hlt)
                  obtain ⟨pA, pB, pC⟩ := hO.fresh U1.out
                  have hst := isB_step ([]) rows (x1, x2) i o.ask o.at_ o.x hrow
                  have HST := Lib.hid hst
                  obtain ⟨oa, ot, ox⟩ := o
                  obtain ⟨bb, hbb⟩ : ∃ bb, isB ([] ++ rows.take i) (x1, x2) = bb := ⟨_, rfl⟩
                  rw [hbb] at HST ⊢
                  clear hst hO hrow hbb
                  simp only at pA pB pC HST
                  cases bb
                  rotate_left
                  · gi_wp2_with fail
                    go_roundw
                    case rel => exact ⟨i + 1, by omega, by rw [HST.out]; simp, by go_num, trivial⟩
                    case measure => simp [intOf]; omega
                  cases t1 : (oa == 0)
                  · gi_wp2_with fail
                    go_roundw
                    case rel => exact ⟨i + 1, by omega, by rw [HST.out, t1]; simp, by go_num, trivial⟩
                    case measure => simp [intOf]; omega
                  cases t2 : (ot == x1)
                  · gi_wp2_with fail
                    go_roundw
                    case rel => exact ⟨i + 1, by omega, by rw [HST.out, t1, t2]; simp, by go_num, trivial⟩
                    case measure => simp [intOf]; omega
                  cases t3 : (ox == x2)
                  all_goals
                    gi_wp2_with fail
                    go_roundw
                    case rel => exact ⟨i + 1, by omega, by rw [HST.out, t1, t2, t3]; simp, by go_num, trivial⟩
                    case measure => simp [intOf]; omega
                · obtain rfl : i = k := by omega
                  rw [List.nil_append, List.take_of_length_le (Nat.le_of_eq H1.out)]
                  gi_wp2_with fail
                  gi_loopw [14, 16] (fun b u wr4 => ∃ i : Nat, i ≤ j ∧ b = .bool (isB (rows ++ rows'.take i) (x1, x2)) ∧ u = .int .i64 i ∧ W = wr4) (fun _ u _ => j - (intOf u).toNat)
                  case atStart => exact ⟨0, by omega, by simp, rfl, rfl⟩
                  case round =>
                    obtain ⟨i, hi, rfl, rfl, rfl⟩ := hrel
                    by_cases hlt : i < j
                    · obtain ⟨b0, off, o, rfl, lt0, hO, hrow⟩ := opAt_arg2 H6.out H4.out i (by rw [H2.out]; exact hlt)
                      obtain ⟨pA, pB, pC⟩ := hO.fresh U1.out
                      have hst := isB_step (rows) rows' (x1, x2) i o.ask o.at_ o.x hrow
                      have HST := Lib.hid hst
                      obtain ⟨oa, ot, ox⟩ := o
                      obtain ⟨bb, hbb⟩ : ∃ bb, isB (rows ++ rows'.take i) (x1, x2) = bb := ⟨_, rfl⟩
                      rw [hbb] at HST ⊢
                      clear hst hO hrow hbb
                      simp only at pA pB pC HST
                      cases bb
                      rotate_left
                      · gi_wp2_with fail
                        go_roundw
                        case rel => exact ⟨i + 1, by omega, by rw [HST.out]; simp, by go_num, trivial⟩
                        case measure => simp [intOf]; omega
                      cases t1 : (oa == 0)
                      · gi_wp2_with fail
                        go_roundw
                        case rel => exact ⟨i + 1, by omega, by rw [HST.out, t1]; simp, by go_num, trivial⟩
                        case measure => simp [intOf]; omega
                      cases t2 : (ot == x1)
                      · gi_wp2_with fail
                        go_roundw
                        case rel => exact ⟨i + 1, by omega, by rw [HST.out, t1, t2]; simp, by go_num, trivial⟩
                        case measure => simp [intOf]; omega
                      cases t3 : (ox == x2)
                      all_goals
                        gi_wp2_with fail
                        go_roundw
                        case rel => exact ⟨i + 1, by omega, by rw [HST.out, t1, t2, t3]; simp, by go_num, trivial⟩
                        case measure => simp [intOf]; omega
                    · obtain rfl : i = j := by omega
                      rw [List.take_of_length_le (Nat.le_of_eq H2.out)]
                      cases hB : isB (rows ++ rows') (x1, x2)
                      · have HB := Lib.hid hB
                        clear hB
                        gi_wp2_with fail
                        have K1 : Keep (fun k => k = w.heap.size + 1 + 1) W (W.setCell ⟨w.heap.size + 1 + 1, 0, none⟩ (.bool false)) := Keep.setCell (S := fun k => k = w.heap.size + 1 + 1) (Keep.refl _ _) (fun _ => rfl) _
                        exact ⟨(keepsOthers_of_keep K1 (by rintro k o rfl ho; exact blk_isCells U4.out ho)).from _, ⟨pre, _, rfl, .inl HB.out⟩⟩
                      · clear hB
                        by_cases hle : x1 ≤ lastT pre
                        · have tle : decide (x1 ≤ lastT pre) = true := by simpa using hle
                          have HL := Lib.hid hle
                          clear hle
                          gi_wp2_with fail
                          have K1 : Keep (fun k => k = w.heap.size + 1 + 1) W (W.setCell ⟨w.heap.size + 1 + 1, 0, none⟩ (.bool false)) := Keep.setCell (S := fun k => k = w.heap.size + 1 + 1) (Keep.refl _ _) (fun _ => rfl) _
                          exact ⟨(keepsOthers_of_keep K1 (by rintro k o rfl ho; exact blk_isCells U4.out ho)).from _, ⟨pre, _, rfl, .inr HL.out⟩⟩
                        · have tle : decide (x1 ≤ lastT pre) = false := by simpa using hle
                          clear hle
                          gi_wp2_with fail
                          have K1 : Keep (fun k => k = wg.heap.size) W (W.setCell ⟨wg.heap.size, 0, none⟩ (.int .i64 x1)) := Keep.setCell (S := fun k => k = wg.heap.size) (Keep.refl _ _) (fun _ => rfl) _
                          refine ⟨(keepsOthers_of_keep K1 (by rintro k o rfl ho; exact blk_isCells U2.out ho)).from _, KeepsB.of_keep K1 (by omega), ⟨U1.out.step K1 (by rintro k hk rfl; omega), ?_⟩, ?_, ?_, ?_⟩
                          · rw [lastT_snoc]; exact U2.out.set_ 0 _
                          · exact UL.out.far (by simp; omega) _
                          · exact UM.out.far (by simp; omega) _
                          · exact U4.out.far (by simp; omega) _
set_option maxRecDepth 100000 in
set_option maxHeartbeats 1000000 in
theorem rise_long (A B : Option Addr) (n c n' c' : Nat) (w : World) (h : 60 < n ∨ 60 < n') (hn : n ≤ 9223372036854775807) (hn' : n' ≤ 9223372036854775807) :
    Law Try.prog 4 #[.slice A n c, .slice B n' c'] w := by
  unfold Law
  have hq : decide (60 < (n : Int)) = true ∨ (decide (60 < (n : Int)) = false ∧ decide (60 < (n' : Int)) = true) := by simp; omega
  have F0 : Fresh w (((w.alloc (.cells #[.slice A n c] 24)).alloc (.cells #[.slice B n' c'] 24)).alloc (.cells #[.bool false] 4)) := (((Keep.refl _ w).alloc _).alloc _).alloc _
  have BL : Blk (((w.alloc (.cells #[.slice A n c] 24)).alloc (.cells #[.slice B n' c'] 24)).alloc (.cells #[.bool false] 4)) w.heap.size 24 #[.slice A n c] := ((Blk.new w _ _).alloc _).alloc _
  have BM : Blk (((w.alloc (.cells #[.slice A n c] 24)).alloc (.cells #[.slice B n' c'] 24)).alloc (.cells #[.bool false] 4)) (w.heap.size + 1) 24 #[.slice B n' c'] := (Blk.at_new (by simp) _ _).alloc _
  have BR : Blk (((w.alloc (.cells #[.slice A n c] 24)).alloc (.cells #[.slice B n' c'] 24)).alloc (.cells #[.bool false] 4)) (w.heap.size + 1 + 1) 4 #[.bool false] := Blk.at_new (by simp) _ _
  have XF := Lib.hid F0
  have XL := Lib.hid BL
  have XM := Lib.hid BM
  have XR := Lib.hid BR
  clear F0 BL BM BR h
  rcases hq with q1 | ⟨q1, q2⟩
  all_goals
    go_enter Try.func4, Try.ntmps4
    go_wp2_with (first
      | (go_at_call 11; refine (new_any 0 _).mono ?_; rintro e w1 ⟨g, v, rfl, h1, f1, _⟩; have cL := (f1.blk_ XL.out).cell; have cM := (f1.blk_ XM.out).cell)
      | (go_at_call 10; refine (awake_any _).mono ?_; rintro e w2 ⟨rfl, f2⟩; have b2 := Fresh.blk_ f2 (f1.blk_ XR.out); have c2 := b2.cell; have z2 := b2.frozen; have l2 := b2.lt))
    have b3 := b2.set_ 0 (.bool true)
    have c3 := b3.cell
    clear c2
    refine bodyPost_ret (by simp [results, Try.results4, go_sem, c3]; try rfl) rfl ?_
    exact ⟨rfl, Fresh.below_ (Keep.setCell ((XF.out.step f1 (fun _ _ h => h)).step f2 (fun _ _ h => h)) (p := ⟨w.heap.size + 1 + 1, 0, none⟩) (fun h => by simp at h; omega) _) (Nat.le_refl _)⟩
open Go.ChangeShapes Go.WideShapes Go.ChangeAt
set_option maxRecDepth 100000 in
theorem savesRise_lifted (os : Os) (started : os.Started) (H : Type) (enc : TypeId × Value → H) :
    ReturnsInHanded {} Try.checked os 4 .any (Rows.savesRiseSpec.pre6 enc Try.prog Try.f4 Rows.savesRiseRow.domain false) (Rows.savesRiseSpec.post enc Try.prog Try.f4 false true false false) := by
  refine law_lifted (C := Try.checked) (tb := 4) (by kernel_rfl) (by kernel_rfl) started (by kernel_rfl) Try.func4 rfl ?_ rfl Try.underlying4 (by kernel_rfl)
    (ChangeSpec.witness6 (enc := enc) (C := Try.checked) false ⟨#[], #[.slice none 0 0, .slice none 0 0], []⟩ 12 (by kernel_rfl) (by kernel_rfl) (by kernel_rfl) (by kernel_rfl)) ?_
  · intro ds hds
    match ds, hds with
    | [e0, e1], _ => rfl
  · intro W base args ds p hval hA hreach
    rw [Try.params4] at hA hval hreach
    obtain ⟨v0, vs0, d0, ds0, p0, q0, hargs, rfl, rfl, h0, r0⟩ := trodAll_cons hA
    obtain ⟨v1, vs1, d1, ds1, p1, q1, rfl, rfl, rfl, h1, r1⟩ := trodAll_cons r0
    obtain ⟨rfl, rfl, rfl⟩ := trodAll_nil r1
    obtain rfl : args = #[v0, v1] := by cases args; simp_all
    obtain ⟨A_l, n_l, c_l, rows_l, rfl, len_l, cap_l, max_l, leaf_l, at_l⟩ := arg_slice (n := 6) Try.underlying24 (by kernel_rfl) (by kernel_rfl) (by rw [show Try.prog.cellsOf 31 = 3 by kernel_rfl]; decide) (hval 0 24 v0 rfl rfl) h0
    rw [show flat Try.prog 6 31 = [3, 3, 3] by kernel_rfl] at leaf_l
    rw [show Try.prog.cellsOf 31 = 3 by kernel_rfl] at at_l
    obtain ⟨A_m, n_m, c_m, rows_m, rfl, len_m, cap_m, max_m, leaf_m, at_m⟩ := arg_slice (n := 6) Try.underlying24 (by kernel_rfl) (by kernel_rfl) (by rw [show Try.prog.cellsOf 31 = 3 by kernel_rfl]; decide) (hval 1 24 v1 rfl rfl) h1
    rw [show flat Try.prog 6 31 = [3, 3, 3] by kernel_rfl] at leaf_m
    rw [show Try.prog.cellsOf 31 = 3 by kernel_rfl] at at_m
    by_cases h : 60 < n_l ∨ 60 < n_m
    · exact rise_long A_l A_m n_l c_l n_m c_m W h (by unfold maxLen at max_l; omega) (by unfold maxLen at max_m; omega)
    · exact rise_ok A_l A_m n_l c_l n_m c_m rows_l rows_m W (by omega) (by omega) len_l len_m (opRow_arg leaf_l) (opRow_arg leaf_m) at_l at_m

theorem savesRise_holds : Rows.SavesRiseSaid :=
  OpenClaim.holds_of_wide 4 Try.f4 rfl rfl rfl rfl rfl rfl rfl ⟨rfl, rfl, rfl, rfl, rfl⟩ rfl rfl rfl rfl rfl (by kernel_rfl) Try.func4 (by kernel_rfl)
    (of_decide_eq_true (by kernel_rfl)) (by unfold Func.isWrapper; first | (rw [if_pos (by decide +kernel)]; kernel_rfl) | (rw [if_neg (by decide +kernel)]; exact ⟨rfl, rfl⟩))
    (fun os started H enc _ => savesRise_lifted os started H enc)
end Go.Proofs.Ytehiakdagmocjaa
