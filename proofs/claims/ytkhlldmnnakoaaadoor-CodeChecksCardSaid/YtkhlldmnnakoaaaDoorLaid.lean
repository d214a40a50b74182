/-
  What the rows' list gives: the table, the library's variables; a world that holds them all.
-/
import Derived.Test.YtkhlldmnnakoaaaDoorAwake
import Derived.Shelf.Vars
import Derived.Lay
namespace Go.Proofs.YtkhlldmnnakoaaaDoor
open Go.ChangeShapes Go.WideShapes Go.ChangeAt Go.RowKit Go.Deep

theorem law_lifted_rowS {C : Checked} {f : FuncId} {fn : Func} {s : ChangeSpec} {laid : List (String × DataW Unit)} {tb : TypeId} {apart : Bool} {os : Os} {H : Type} {enc : TypeId × Value → H} {F : Stop.Interp}
    (own : ownKnob C.prog.godebug = none) (laidOk : laidOutB C.prog = true) (started : os.Started) (noInit : C.prog.inits.idxOf? f = none) (hfn : C.prog.funcs[f]? = some fn)
    (hvars : s.vars = []) (hspec : ∀ ds : List (DataW H), ds.length = fn.params.size → s.fn H ds = { results := [.lit (.bool true)], args := ds })
    (hres : fn.resultTypes = #[tb]) (htb : C.prog.underlying tb = some .bool)
    (hpar : fn.params.toList.all (fun t => C.prog.readableRec t && decide (t < C.prog.types.size)) = true)
    (witness : ∃ (w : World) (tape : Tape) (i : Input), w.os = os ∧ (w.forCall tape i).Shaped C.prog ∧ i.vars = [] ∧ Input.okWide C.prog (w.forCall tape i) .any w.heap.size f i ∧
      (OpenSpec.ofChange s).preRow enc C.prog fn [] apart laid (w.forCall tape i).memory i.args ∧ ({} : Assume).holds C.prog (lone (Frame.enter C.prog f i.args .normal) [] (w.forCall tape i)))
    (walk : ∀ (W : World) (base : Nat) (args : Array Value) (ds : List (DataW H)) (ps : List MemPlace),
      (∀ (j : Nat) t v, fn.params[j]? = some t → args[j]? = some v → Value.okWide C.prog W .any base t v) →
      DataW.TrodAll enc C.prog W 0 (fun _ => true) true fn.params.toList args.toList ds ps →
      (DataW.weightsEach C.prog fn.params.toList ds).all (· ≤ reachBytes) = true → laidMetH C.prog laid W → W.ShapedOpen C.prog → Law C.prog f args W) :
    ReturnsInHanded {} C os f .any ((OpenSpec.ofChange s).preRow enc C.prog fn [] apart laid) (((OpenSpec.ofChange s).at F).post enc C.prog fn apart true false false) := by
  refine returnsInHanded_of_row (C := C) (s := OpenSpec.ofChange s) own started noInit hfn witness ?_
  intro W base args ds gs before hval hW _ _ hsz hL hsh _
  have hvars' : (OpenSpec.ofChange s).vars = [] := hvars
  have hW' := hW
  obtain ⟨p, q, hA, hV, rfl, hfz, hnd⟩ := hW
  rw [hvars'] at hV
  obtain ⟨rfl, rfl⟩ := trodVars_none hV
  have hlt : ∀ x ∈ p, x.block < W.heap.size := fun x hx => hA.lt x hx
  have hvt : (OpenSpec.ofChange s).bare.plain.varTypes C.prog = [] := by
    show s.plain.varTypes C.prog = []
    simp [ChangeSpec.plain, DataSpec.varTypes, hvars]
  have hsz' : (DataW.weightsEach C.prog fn.params.toList ds).all (· ≤ reachBytes) = true := by
    rw [hvt] at hsz
    simpa using hsz
  refine (walk W base args ds p hval hA hsz' hL hsh).mono fun e W' ⟨he, bel⟩ => ?_
  have hlen : ds.length = fn.params.size := by
    have := (trodAll_length hA).2
    simpa using this
  have hsp := hspec ds hlen
  refine ⟨.bool true, he, ?_⟩
  show s.post enc C.prog fn apart true false false W args (.bool true) W'
  refine ⟨ds, [], p ++ [], [], p, [], hW', ?_, ?_, ?_, bel.frame _, fun h => by cases h⟩
  · rw [List.append_nil, hsp, hres]
    exact trodAll_mk1 (shut_bool htb true)
  · rw [List.append_nil, hsp]
    exact trodAll_below laidOk bel hpar hA hlt
  · rw [hvars, List.append_nil, hsp]
    exact rfl

theorem witness_rowZ {H : Type} {enc : TypeId × Value → H} {C : Checked} {os : Os} {f : FuncId} {fn : Func} {s : OpenSpec} {conds : List PathCond} {apart : Bool} {laid : List (String × DataW Unit)} (w0 : World) (args : Array Value) (hos : w0.os = os)
    (hsh : (w0.forCall (fun _ _ => 0) ⟨#[], args, []⟩).Shaped C.prog)
    (hok : Input.okWideB C.prog (w0.forCall (fun _ _ => 0) ⟨#[], args, []⟩) f ⟨#[], args, []⟩ = true)
    (hrow : s.preRow enc C.prog fn conds apart laid (w0.forCall (fun _ _ => 0) ⟨#[], args, []⟩).memory args) :
    ∃ (w : World) (tape : Tape) (i : Input), w.os = os ∧ (w.forCall tape i).Shaped C.prog ∧ i.vars = [] ∧ Input.okWide C.prog (w.forCall tape i) .any w.heap.size f i ∧
      s.preRow enc C.prog fn conds apart laid (w.forCall tape i).memory i.args ∧ ({} : Assume).holds C.prog (lone (Frame.enter C.prog f i.args .normal) [] (w.forCall tape i)) :=
  ⟨w0, fun _ _ => 0, ⟨#[], args, []⟩, hos, hsh, (Input.okWide_of_okWideB (base := 0) hok).1, (Input.okWide_of_okWideB hok).2, hrow, by
    simp only [Assume.holds]
    exact ⟨by simp, by simp, by simp, by simp, by simp⟩⟩

/-- what is listed is there -/
theorem laid_at {P : Program} {w : World} : ∀ {l : List (String × DataW Unit)} {ps : List MemPlace}, DataW.LaidVars P w l ps → ∀ {n : String} {d : DataW Unit}, (n, d) ∈ l → ∃ g t cs fuel p, P.globalNamed n = some g ∧ (P.globals[g]?).map (·.type) = some t ∧ w.var? P n = some cs ∧ DataW.trod (fun _ => ()) P w 0 (fun _ => true) false fuel t cs.toList = some (d, p)
  | [], _, _, _, _, h => by cases h
  | (a, b) :: r, ps, hl, n, d, h => by
    obtain ⟨g, t, cs, fuel, p, q, h1, h2, h3, h4, h5, _⟩ := hl
    rcases List.mem_cons.1 h with e | h
    · injection e with e1 e2
      subst e1 e2
      exact ⟨g, t, cs, fuel, p, h1, h2, h3, h4⟩
    · exact laid_at h5 h
theorem trod_iface {H : Type} {enc : TypeId × Value → H} {P : Program} {w : World} {base : Nat} {sp : Nat → Bool} {fuel : Nat} {t : TypeId} {ms : Array (String × TypeId)} {cs : List Value} {nm : String} {d : DataW H} {p : List MemPlace} (ht : P.underlying t = some (.interface ms))
    (h : DataW.trod enc P w base sp false fuel t cs = some (.iface nm d, p)) : ∃ u v, cs = [.iface u v] := by
  cases fuel with
  | zero => simp [DataW.trod] at h
  | succ fuel =>
    unfold DataW.trod at h
    rw [ht] at h
    simp only at h
    match cs, h with
    | [.iface u v], _ => exact ⟨u, v, rfl⟩
    | [], h => simp at h
    | [.nilIface], h => simp at h
theorem gTab : Tryd.prog.globalNamed "boomerang/code.table" = some 0 := by kernel_rfl
theorem gTabType : (Tryd.prog.globals[0]?).map (·.type) = some 57 := by kernel_rfl
theorem gPow : Tryd.prog.globalNamed "internal/strconv.uint64pow10" = some 2 := by kernel_rfl
theorem gPowType : (Tryd.prog.globals[2]?).map (·.type) = some 100 := by kernel_rfl
theorem gSyn : Tryd.prog.globalNamed "strconv.ErrSyntax" = some 3 := by kernel_rfl
theorem gSynType : (Tryd.prog.globals[3]?).map (·.type) = some 59 := by kernel_rfl
theorem gRng : Tryd.prog.globalNamed "strconv.ErrRange" = some 4 := by kernel_rfl
theorem gRngType : (Tryd.prog.globals[4]?).map (·.type) = some 59 := by kernel_rfl
theorem cellsAbout : Tryd.prog.cellsOf 56 = 6 := by kernel_rfl
theorem cellsWord : Tryd.prog.cellsOf 53 = 2 := by kernel_rfl
theorem cellsNums : Tryd.prog.cellsOf 54 = 4 := by kernel_rfl
theorem cellsInt : Tryd.prog.cellsOf 3 = 1 := by kernel_rfl
theorem cellsStr : Tryd.prog.cellsOf 9 = 1 := by kernel_rfl
theorem cellsU64 : Tryd.prog.cellsOf 85 = 1 := by kernel_rfl
theorem cellsPow : Tryd.prog.cellsOf 100 = 20 := by kernel_rfl
theorem fieldNums : ∃ fs : Array Field, Tryd.prog.underlying 56 = some (.struct fs) ∧ (∃ f, fs[0]? = some f ∧ f.type = 53 ∧ f.offset = 0) ∧ ∃ f, fs[1]? = some f ∧ f.type = 54 ∧ f.offset = 2 := ⟨_, Tryd.underlying56, ⟨_, rfl, rfl, rfl⟩, _, rfl, rfl, rfl⟩
theorem fieldWord : ∃ fs : Array Field, Tryd.prog.underlying 53 = some (.struct fs) ∧ (∃ f, fs[0]? = some f ∧ f.type = 9 ∧ f.offset = 0) ∧ ∃ f, fs[1]? = some f ∧ f.type = 3 ∧ f.offset = 1 := ⟨_, Tryd.underlying53, ⟨_, rfl, rfl, rfl⟩, _, rfl, rfl, rfl⟩
theorem entry : ∀ i : Nat, 1 ≤ i → i ≤ 15 → (match (Rows.laid_boomerang_code_table : DataW Unit) with | .agg l => l[i]? | _ => none) = some (.agg [.agg [.lit (.string (word i)), .lit (.int .i64 (many i : Nat))], Lib.tabData .i64 (ask i)])
  | 0, h, _ => absurd h (by omega)
  | 1, _, _ => rfl
  | 2, _, _ => rfl
  | 3, _, _ => rfl
  | 4, _, _ => rfl
  | 5, _, _ => rfl
  | 6, _, _ => rfl
  | 7, _, _ => rfl
  | 8, _, _ => rfl
  | 9, _, _ => rfl
  | 10, _, _ => rfl
  | 11, _, _ => rfl
  | 12, _, _ => rfl
  | 13, _, _ => rfl
  | 14, _, _ => rfl
  | 15, _, _ => rfl
  | n + 16, _, h => absurd h (by omega)
theorem maxl_of {W : World} (h : W.ShapedOpen Tryd.prog) : ∃ m, W.cell? ⟨1, 0, none⟩ = some (.int .i64 m) :=
  cell_of_shapedOpen_int (P := Tryd.prog) (g := 1) (t := 3) (zero := #[.int .i64 0]) h (of_decide_eq_true (by kernel_rfl)) (by kernel_rfl) rfl (by kernel_rfl) (by kernel_rfl) Tryd.underlying3
theorem tabs_of_laid {W : World} (h0 : laidMetH Tryd.prog Rows.codePrintsRow.laid W) (hsh : W.ShapedOpen Tryd.prog) : Tabs W := by
  have h : laidMet Tryd.prog Rows.codePrintsRow.laid W := h0
  obtain ⟨ps, hl, _⟩ := h
  have hcell : ∀ i : Nat, 1 ≤ i → i ≤ 15 → W.cell? ⟨0, i * 6, none⟩ = some (.string ⟨(word i).toArray⟩) ∧ W.cell? ⟨0, i * 6 + 1, none⟩ = some (.int .i64 (many i : Nat)) ∧ ∀ (j : Nat) (z : Int), (ask i)[j]? = some z → W.cell? ⟨0, i * 6 + 2 + j, none⟩ = some (.int .i64 z) := by
    obtain ⟨g', t', cs, fuel, p, hg', ht', hvar, hd⟩ := laid_at hl (n := "boomerang/code.table") (d := Rows.laid_boomerang_code_table) (List.Mem.tail _ (List.Mem.tail _ (List.Mem.tail _ (List.Mem.tail _ (List.Mem.tail _ (List.Mem.tail _ (List.Mem.head _)))))))
    obtain rfl := Option.some.inj (gTab.symm.trans hg')
    obtain rfl := Option.some.inj (gTabType.symm.trans ht')
    obtain ⟨xs, m, _, hx, hxl, hlen, hf⟩ := DataW.trod_array Tryd.underlying57 hd
    intro i h1 h2
    have he := entry i h1 h2
    have hx1 := congrArg Prod.fst hx
    simp only at hx1
    rw [hx1] at he
    simp only [List.getElem?_map] at he
    obtain ⟨y, hy, hy1⟩ := Option.map_eq_some_iff.1 he
    have hfi := hf i (by omega)
    rw [hy, cellsAbout] at hfi
    obtain ⟨fs, hu, ⟨f0, hf0, hft0, hfo0⟩, f1, hf1, hft1, hfo1⟩ := fieldNums
    obtain ⟨ys, m', _, hyx, _, _, hg⟩ := DataW.trod_struct hu hfi
    rw [hyx] at hy1
    simp only [DataW.agg.injEq] at hy1
    have hz0 : (ys.map (·.1))[0]? = some (.agg [.lit (.string (word i)), .lit (.int .i64 (many i : Nat))]) := by rw [hy1]; rfl
    have hz1 : (ys.map (·.1))[1]? = some (Lib.tabData .i64 (ask i)) := by rw [hy1]; rfl
    rw [List.getElem?_map] at hz0 hz1
    obtain ⟨y0, hy0, hy0'⟩ := Option.map_eq_some_iff.1 hz0
    obtain ⟨y2, hy2, hy3⟩ := Option.map_eq_some_iff.1 hz1
    have hg0 := hg 0 f0 hf0
    have hg1 := hg 1 f1 hf1
    rw [hft0, hfo0, cellsWord, hy0] at hg0
    rw [hft1, hfo1, cellsNums, hy2] at hg1
    obtain ⟨d0, p0⟩ := y0
    obtain ⟨d2, p2⟩ := y2
    simp only at hy0' hy3
    subst hy0' hy3
    have hcs : ∀ (q : Nat) (v : Value), cs.toList[q]? = some v → W.cell? ⟨0, q, none⟩ = some v := fun q v hq => by
      have := World.var?_cell gTab hvar q
      rw [this]
      simpa using hq
    have hcells := Lib.cells_of_tab Tryd.underlying54 Tryd.underlying3 cellsInt cellsNums hg1
    obtain ⟨ws, hwu, ⟨w0, hw0, hwt0, hwo0⟩, w1, hw1, hwt1, hwo1⟩ := fieldWord
    obtain ⟨zs, m2, _, hzx, _, _, hgw⟩ := DataW.trod_struct hwu hg0
    simp only [Prod.mk.injEq, DataW.agg.injEq] at hzx
    have hzz := hzx.1.symm
    have hk0 : (zs.map (·.1))[0]? = some (.lit (.string (word i))) := by rw [hzz]; rfl
    have hk1 : (zs.map (·.1))[1]? = some (.lit (.int .i64 (many i : Nat))) := by rw [hzz]; rfl
    rw [List.getElem?_map] at hk0 hk1
    obtain ⟨z0, hz0, hz0'⟩ := Option.map_eq_some_iff.1 hk0
    obtain ⟨z1, hz1, hz1'⟩ := Option.map_eq_some_iff.1 hk1
    have hw0' := hgw 0 w0 hw0
    have hw1' := hgw 1 w1 hw1
    rw [hwt0, hwo0, cellsStr, hz0] at hw0'
    rw [hwt1, hwo1, cellsInt, hz1] at hw1'
    obtain ⟨sb, hs1, hs2, _⟩ := DataW.trod_string Tryd.underlying9 hw0'
    obtain ⟨n, hn1, hn2, _⟩ := DataW.trod_int Tryd.underlying3 hw1'
    subst hs2 hn2
    simp only [DataW.lit.injEq, Lit.string.injEq, Lit.int.injEq, true_and] at hz0' hz1'
    refine ⟨hcs _ _ ?_, hcs _ _ ?_, fun j z hz => hcs _ _ ?_⟩
    · have h3 := congrArg (fun l => l[0]?) hs1
      simp only [List.getElem?_take, List.getElem?_drop] at h3
      simp at h3
      rw [Array.getElem?_toList, h3, ← hz0', Array.toArray_toList]
    · have h3 := congrArg (fun l => l[0]?) hn1
      simp only [List.getElem?_take, List.getElem?_drop] at h3
      simp at h3
      rw [Array.getElem?_toList, h3, ← hz1']
    · have h3 := congrArg (fun l => l[j]?) hcells
      simp only [List.getElem?_map, hz, Option.map_some] at h3
      have hj : j < 4 := by
        obtain ⟨k0, k1, k2, k3, hk⟩ := ask_four (i : Int)
        rw [hk] at hz
        exact (List.getElem?_eq_some_iff.1 hz).1
      rw [List.getElem?_take, if_pos hj, List.getElem?_drop, List.getElem?_take, if_pos (by omega), List.getElem?_drop] at h3
      rw [Nat.add_assoc]
      exact h3
  refine ⟨fun i h1 h2 => (hcell i h1 h2).2.2, fun i h1 h2 => (hcell i h1 h2).1, fun i h1 h2 => (hcell i h1 h2).2.1, ?_, maxl_of hsh, ?_, ?_⟩
  · obtain ⟨g', t', cs, fuel, p, hg', ht', hvar, hd⟩ := laid_at hl (n := "internal/strconv.uint64pow10") (d := Rows.laid_internal_strconv_uint64pow10) (List.Mem.tail _ (List.Mem.tail _ (List.Mem.head _)))
    obtain rfl := Option.some.inj (gPow.symm.trans hg')
    obtain rfl := Option.some.inj (gPowType.symm.trans ht')
    have hd2 : DataW.trod (fun _ => ()) Tryd.prog W 0 (fun _ => true) false fuel 100 cs.toList = some (Lib.tabData .u64 Lib.pow10Tab, p) := hd
    unfold Lib.TabIs
    rw [hvar, ← Lib.cells_of_tab Tryd.underlying100 Tryd.underlying85 cellsU64 cellsPow hd2]
  · obtain ⟨g', t', cs, fuel, p, hg', ht', hvar, hd⟩ := laid_at hl (n := "strconv.ErrSyntax") (d := Rows.laid_strconv_ErrSyntax) (List.Mem.tail _ (List.Mem.tail _ (List.Mem.tail _ (List.Mem.tail _ (List.Mem.tail _ (List.Mem.head _))))))
    obtain rfl := Option.some.inj (gSyn.symm.trans hg')
    obtain rfl := Option.some.inj (gSynType.symm.trans ht')
    obtain ⟨u, v, hcs⟩ := trod_iface Tryd.underlying59 hd
    refine ⟨u, v, ?_⟩
    rw [hvar]
    congr 1
    exact Array.toList_inj.1 hcs
  · obtain ⟨g', t', cs, fuel, p, hg', ht', hvar, hd⟩ := laid_at hl (n := "strconv.ErrRange") (d := Rows.laid_strconv_ErrRange) (List.Mem.tail _ (List.Mem.tail _ (List.Mem.tail _ (List.Mem.tail _ (List.Mem.head _)))))
    obtain rfl := Option.some.inj (gRng.symm.trans hg')
    obtain rfl := Option.some.inj (gRngType.symm.trans ht')
    obtain ⟨u, v, hcs⟩ := trod_iface Tryd.underlying59 hd
    refine ⟨u, v, ?_⟩
    rw [hvar]
    congr 1
    exact Array.toList_inj.1 hcs
/-- a world for the witness: all that is listed, laid -/
noncomputable def laidWorld (os : Os) : World := World.laidAll Tryd.prog os Rows.codePrintsRow.laid
theorem laid_fits (os : Os) : (World.holding Tryd.prog os ⟨#[], #[], []⟩).layFits Tryd.prog Rows.codePrintsRow.laid [] = true := by kernel_rfl
theorem laid_ifaces (os : Os) : (World.holding Tryd.prog os ⟨#[], #[], []⟩).layIfaces Tryd.prog Rows.codePrintsRow.laid (World.laidAll Tryd.prog os Rows.codePrintsRow.laid) = true := by kernel_rfl
theorem laid_met (os : Os) (args : Array Value) : laidMet Tryd.prog Rows.codePrintsRow.laid ((laidWorld os).forCall (fun _ _ => 0) ⟨#[], args, []⟩).memory := laidMet_laidAll args (laid_fits os) (laid_ifaces os)
end Go.Proofs.YtkhlldmnnakoaaaDoor
