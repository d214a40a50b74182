/-
  The row's step for a law whose row lists package-level variables: it returns true and writes nothing that was there.
-/
import Derived.Test.YtkhlldmnnakoaaaDoorKit
import Derived.Test.YtkhlldmnnakoaaaDoorCards
import Derived.Test.YtkhlldmnnakoaaaDoorTie
import Derived.Deep.DeepHandedRow
import Derived.Lib.LaidTab
namespace Go.Proofs.YtkhlldmnnakoaaaDoor
open Go.ChangeShapes Go.WideShapes Go.ChangeAt Go.RowKit Go.Deep

theorem law_lifted_row {C : Checked} {f : FuncId} {fn : Func} {s : ChangeSpec} {laid : List (String × DataW Unit)} {tb : TypeId} {apart : Bool} {os : Os} {H : Type} {enc : TypeId × Value → H} {F : Stop.Interp}
    (own : ownKnob C.prog.godebug = none) (laidOk : laidOutB C.prog = true) (started : os.Started) (noInit : C.prog.inits.idxOf? f = none) (hfn : C.prog.funcs[f]? = some fn)
    (hvars : s.vars = []) (hspec : ∀ ds : List (DataW H), ds.length = fn.params.size → s.fn H ds = { results := [.lit (.bool true)], args := ds })
    (hres : fn.resultTypes = #[tb]) (htb : C.prog.underlying tb = some .bool)
    (hpar : fn.params.toList.all (fun t => C.prog.readableRec t && decide (t < C.prog.types.size)) = true)
    (witness : ∃ (w : World) (tape : Tape) (i : Input), w.os = os ∧ (w.forCall tape i).Shaped C.prog ∧ i.vars = [] ∧ Input.okWide C.prog (w.forCall tape i) .any w.heap.size f i ∧
      (OpenSpec.ofChange s).preRow enc C.prog fn [] apart laid (w.forCall tape i).memory i.args ∧ ({} : Assume).holds C.prog (lone (Frame.enter C.prog f i.args .normal) [] (w.forCall tape i)))
    (walk : ∀ (W : World) (base : Nat) (args : Array Value) (ds : List (DataW H)) (ps : List MemPlace),
      (∀ (j : Nat) t v, fn.params[j]? = some t → args[j]? = some v → Value.okWide C.prog W .any base t v) →
      DataW.TrodAll enc C.prog W 0 (fun _ => true) true fn.params.toList args.toList ds ps →
      (DataW.weightsEach C.prog fn.params.toList ds).all (· ≤ reachBytes) = true → laidMetH C.prog laid W → Law C.prog f args W) :
    ReturnsInHanded {} C os f .any ((OpenSpec.ofChange s).preRow enc C.prog fn [] apart laid) (((OpenSpec.ofChange s).at F).post enc C.prog fn apart true false false) := by
  refine returnsInHanded_of_row (C := C) (s := OpenSpec.ofChange s) own started noInit hfn witness ?_
  intro W base args ds gs before hval hW _ _ hsz hL _ _
  have hvars' : (OpenSpec.ofChange s).vars = [] := hvars
  have hW' := hW
  obtain ⟨p, q, hA, hV, rfl, hfz, hnd⟩ := hW
  rw [hvars'] at hV
  obtain ⟨rfl, rfl⟩ := trodVars_none hV
  have hlt : ∀ x ∈ p, x.block < W.heap.size := fun x hx => hA.lt x hx
  have hvt : (OpenSpec.ofChange s).bare.plain.varTypes C.prog = [] := by
    show s.plain.varTypes C.prog = []
    simp [ChangeSpec.plain, DataSpec.varTypes, hvars]
  have hsz' : (DataW.weightsEach C.prog fn.params.toList ds).all (· ≤ reachBytes) = true := by
    rw [hvt] at hsz
    simpa using hsz
  refine (walk W base args ds p hval hA hsz' hL).mono fun e W' ⟨he, bel⟩ => ?_
  have hlen : ds.length = fn.params.size := by
    have := (trodAll_length hA).2
    simpa using this
  have hsp := hspec ds hlen
  refine ⟨.bool true, he, ?_⟩
  show s.post enc C.prog fn apart true false false W args (.bool true) W'
  refine ⟨ds, [], p ++ [], [], p, [], hW', ?_, ?_, ?_, bel.frame _, fun h => by cases h⟩
  · rw [List.append_nil, hsp, hres]
    exact trodAll_mk1 (shut_bool htb true)
  · rw [List.append_nil, hsp]
    exact trodAll_below laidOk bel hpar hA hlt
  · rw [hvars, List.append_nil, hsp]
    exact rfl
end Go.Proofs.YtkhlldmnnakoaaaDoor
