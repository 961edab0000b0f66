/-
  For every configuration whose data is not larger than the bound of the statement, the law FrameFills returns true, and its argument reads afterwards as before.
-/
import Derived.Test.YtmoignbaphddeaaRows
import Derived.Test.YtmoignbaphddeaaP8RowFrameFillsUpto
import Derived.Test.YtmoignbaphddeaaB6Law15A
import Derived.Test.YtmoignbaphddeaaB7Law15A
import Derived.ShutString
import Derived.ChangeOld
import Derived.OpenShut
import Derived.WalkKit
import Derived.Deep.CondSized
import Derived.JoinedCond
set_option linter.unusedVariables false
namespace Go.Proofs.Ytmoignbaphddeaa.frameFillsUpto
open Go.ChangeShapes Go.WideShapes Go.ChangeAt Go.RowKit
open Go.ChangeMaps (open_string shut_string)
set_option linter.unusedVariables false

theorem own : ownKnob Try.prog.godebug = none := by kernel_rfl
set_option maxRecDepth 100000 in
theorem k1 : Rows.frameFillsUptoRow.wf (OpenSpec.ofChange (Rows.OpenSpec.upto Rows.frameFillsSpec).bare) = true := by kernel_rfl
set_option maxRecDepth 100000 in
theorem k2 : laidOutB Try.prog = true := by kernel_rfl
set_option maxRecDepth 100000 in
theorem k3 : mapsRowed Try.prog = true := by kernel_rfl
set_option maxRecDepth 100000 in
theorem k4 : Try.f6.params.all (Try.prog.readableRec ·) = true := by kernel_rfl
set_option maxRecDepth 100000 in
theorem k5 : namedTie Try.prog Rows.frameFillsUptoRow.named (Rows.OpenSpec.upto Rows.frameFillsSpec).bare.vars = true := by kernel_rfl
set_option maxRecDepth 100000 in
theorem k6 : (Rows.frameFillsUptoRow.stops == []) = true := by kernel_rfl
set_option maxRecDepth 100000 in
theorem k7 : (Try.prog.stops == []) = true := by kernel_rfl
set_option maxRecDepth 100000 in
theorem k8 : (Rows.frameFillsUptoRow.knobs == []) = true := by kernel_rfl
set_option maxRecDepth 100000 in
theorem k9 : (Try.prog.stopKnobs == []) = true := by kernel_rfl
set_option maxRecDepth 100000 in
theorem k10 : (Rows.frameFillsUptoRow.inPlace == Try.prog.inPlace 6) = true := by kernel_rfl
set_option maxRecDepth 100000 in
theorem k11 : (Rows.frameFillsUptoRow.unfollowed == Try.prog.unfollowed 6) = true := by kernel_rfl
set_option maxRecDepth 100000 in
theorem k12 : (Rows.frameFillsUptoRow.recurses == Try.prog.recurses 6) = true := by kernel_rfl
set_option maxRecDepth 100000 in
theorem k13 : (Rows.frameFillsUptoRow.named == Try.prog.varsNamed 6) = true := by kernel_rfl
set_option maxRecDepth 100000 in
theorem k14 : (Rows.frameFillsUptoRow.maps == (Try.f6.params.toList ++ (Rows.OpenSpec.upto Rows.frameFillsSpec).bare.plain.varTypes Try.prog).any (Try.prog.mapsRec ·)) = true := by kernel_rfl
set_option maxRecDepth 100000 in
theorem k15 : (Rows.frameFillsUptoRow.ifaces == (Try.f6.params.toList ++ (Rows.OpenSpec.upto Rows.frameFillsSpec).bare.plain.varTypes Try.prog).any (Try.prog.ifacesRec ·)) = true := by kernel_rfl
set_option maxRecDepth 100000 in
theorem k16 : (Rows.frameFillsUptoRow.mapsOut == Try.prog.mapsAmong Try.f6.resultTypes.toList) = true := by kernel_rfl
set_option maxRecDepth 100000 in
theorem k17 : (Rows.frameFillsUptoRow.loops == (Try.f6.params.toList ++ (Rows.OpenSpec.upto Rows.frameFillsSpec).bare.plain.varTypes Try.prog).any (Try.prog.loopsFrom ·)) = true := by kernel_rfl
set_option maxRecDepth 100000 in
theorem k18 : (Rows.frameFillsUptoRow.wideKeys == (Try.f6.params.toList ++ (Rows.OpenSpec.upto Rows.frameFillsSpec).bare.plain.varTypes Try.prog ++ Try.f6.resultTypes.toList).any (Try.prog.wideKeysFrom ·)) = true := by kernel_rfl
set_option maxRecDepth 100000 in
theorem k19 : (Rows.OpenSpec.upto Rows.frameFillsSpec).bare.vars.all (Try.prog.varReadable ·) = true := by kernel_rfl
set_option maxRecDepth 100000 in
theorem k20 : Try.f6.resultTypes.all (fun t => Try.prog.readableRec t && decide (t < Try.prog.types.size)) = true := by kernel_rfl
set_option maxRecDepth 100000 in
theorem k21 : (Rows.frameFillsUptoRow.ifacesOut == Try.f6.resultTypes.toList.any (Try.prog.ifacesRec ·)) = true := by kernel_rfl
set_option maxRecDepth 100000 in
theorem k22 : (Rows.frameFillsUptoRow.loopsOut == Try.f6.resultTypes.toList.any (Try.prog.loopsFrom ·)) = true := by kernel_rfl
set_option maxRecDepth 100000 in
theorem k23 : (Rows.frameFillsUptoRow.plainKeys == Try.prog.plainKeys) = true := by kernel_rfl
set_option maxRecDepth 100000 in
theorem k24 : Rows.frameFillsUptoRow.shortTexts.isNone = true := by kernel_rfl
set_option maxRecDepth 100000 in
theorem k25 : Try.prog.stopsHeard = true := by kernel_rfl
set_option maxRecDepth 100000 in
theorem k26 : Try.prog.mayEnter = true := by kernel_rfl
set_option maxRecDepth 100000 in
theorem k27 : (Rows.frameFillsUptoRow.lifted == Try.prog.liftsFinal) = true := by kernel_rfl
set_option maxRecDepth 100000 in
theorem k28 : (Try.prog.make == some Rows.frameFillsUptoRow.make) = true := by kernel_rfl
set_option maxRecDepth 100000 in
theorem k29 : (Rows.frameFillsUptoRow.kinds == (if Rows.frameFillsUptoRow.domain.isEmpty then [] else Try.f6.params.toList.map fun t => match Try.prog.underlying t with | some (.int k) => some k | _ => none)) = true := by kernel_rfl
set_option maxRecDepth 100000 in
theorem k30 : (Rows.frameFillsUptoRow.pinned == Rows.frameFillsUptoRow.pinnedBy) = true := by kernel_rfl
set_option maxRecDepth 100000 in
theorem k31 : (Rows.frameFillsUptoRow.veiled == (Try.f6.params.toList ++ (Rows.OpenSpec.upto Rows.frameFillsSpec).bare.plain.varTypes Try.prog ++ Try.f6.resultTypes.toList).any (Try.prog.veiledRec ·)) = true := by kernel_rfl
set_option maxRecDepth 100000 in
theorem k32 : Rows.frameFillsUptoRow.veiledFits Try.prog Try.f6.params.toList (Try.f6.params.toList ++ (Rows.OpenSpec.upto Rows.frameFillsSpec).bare.plain.varTypes Try.prog ++ Try.f6.resultTypes.toList) = true := by kernel_rfl
theorem both {a b : Bool} (h : a = true) (k : b = true) : (a && b) = true := by rw [h, k]; rfl
set_option maxRecDepth 100000 in
theorem closed : joinedFacts Try.prog 6 Try.f6 ((Rows.OpenSpec.upto Rows.frameFillsSpec).bare) Rows.frameFillsUptoRow = true := by
  unfold joinedFacts
  exact (both (both (both (both (both (both (both (both (both (both (both (both (both (both (both (both (both (both (both (both (both (both (both (both (both (both (both (both (both (both (both k1 k2) k3) k4) k5) k6) k7) k8) k9) k10) k11) k12) k13) k14) k15) k16) k17) k18) k19) k20) k21) k22) k23) k24) k25) k26) k27) k28) k29) k30) k31) k32)

set_option maxRecDepth 100000 in
theorem lifted (os : Os) (started : os.Started) (H : Type) (enc : TypeId × Value → H) (FF : Stop.Interp) :
    ReturnsInHanded {} Try.checked os 6 .any ((Rows.OpenSpec.upto Rows.frameFillsSpec).pre6 enc Try.prog Try.f6 Rows.frameFillsUptoRow.domain false) (((Rows.OpenSpec.upto Rows.frameFillsSpec).at FF).post enc Try.prog Try.f6 false true false false) := by
  refine returnsInHanded_of_cond_sized (C := Try.checked) (s := (Rows.OpenSpec.upto Rows.frameFillsSpec)) (k := Rows.uptoSmall) rfl own started (by kernel_rfl) Try.func6
    (OpenSpec.witness (enc := enc) (C := Try.checked) (s := (Rows.OpenSpec.upto Rows.frameFillsSpec)) (k := Rows.uptoSmall) rfl false ⟨#[], #[.agg #[.int .u64 0, .slice none 0 0, .slice none 0 0, .slice none 0 0, .slice none 0 0, .slice none 0 0]], []⟩ 8 (by kernel_rfl) (by kernel_rfl) (by kernel_rfl)
      (x := ([.agg [.lit (.int .u64 0), .nil, .nil, .nil, .nil, .nil]], [], [])) (by kernel_rfl) rfl (by kernel_rfl)) ?_
  intro W base args ds gs before hval0 hW hcnd hk hsz0 _
  have hsz : (DataW.weightsEach Try.prog (Try.f6.params.toList ++ (Rows.OpenSpec.upto Rows.frameFillsSpec).bare.plain.varTypes Try.prog) (ds ++ gs)).all (· ≤ reachBytes) = true := hsz0
  have hval : ∀ (j : Nat) t v, Try.f6.params[j]? = some t → args[j]? = some v → Value.okWide Try.prog W .any base t v := hval0
  have hW' := hW
  obtain ⟨p, q, hA0, hV, rfl, hfz, hnd⟩ := hW
  have hA : DataW.TrodAll enc Try.prog W 0 (fun _ => true) true Try.f6.params.toList args.toList ds p := hA0
  rw [Try.params6] at hA hval hsz
  obtain ⟨v0, vs0, d0, ds0, p0, q0, hargs, rfl, rfl, h0, r0⟩ := trodAll_cons hA
  obtain ⟨rfl, rfl, rfl⟩ := trodAll_nil r0
  obtain rfl : args = #[v0] := by cases args; simp_all
  obtain ⟨rfl, rfl⟩ := trodVars_none hV
  have k00 := h0
  have lt0 : ∀ x ∈ p0, x.block < W.heap.size := by obtain ⟨m, hm⟩ := k00; exact DataW.trod_lt m _ _ _ hm
  obtain ⟨c, A, rfl, hc, hcd⟩ := open_cfg (hval 0 29 v0 rfl rfl) h0 (fun n hn => by
    have := List.all_eq_true.1 hsz n (DataW.weights_mem_each (j := 0) rfl rfl n hn)
    simpa using this)
  have hbulk := bulk_cfg hcd (uptoBulkAll_mem (by simp) (bound_of hk))
  clear hA0 hval0
  refine (FrameFills_walk W c A hc hbulk).mono fun e W' ⟨he, bel⟩ => ?_
  subst he
  exact ⟨_, rfl, _, _, _, [], _, [], hW', trodAll_mk1 (shut_bool Try.underlying4 _), (trodAll_cons_mk (Below.trod (k2 : laidOutB Try.prog = true) (by kernel_rfl) (of_decide_eq_true (by kernel_rfl)) k00 bel lt0) trodAll_mk0), rfl, bel.frame _, fun h => by cases h⟩

theorem named : Try.prog.funcNamed "fenestra/fenestralaw15.FrameFills" = some 6 := by kernel_rfl
theorem instance_ : Try.f6.isInstance Try.prog Rows.frameFillsUptoRow.origin Rows.frameFillsUptoRow.targs := of_decide_eq_true (by kernel_rfl)
theorem wrap_ : Try.f6.isWrapper Try.prog Rows.frameFillsUptoRow.wrapper Rows.frameFillsUptoRow.mainSum := by
  unfold Func.isWrapper; first | (rw [if_pos (by decide +kernel)]; kernel_rfl) | (rw [if_neg (by decide +kernel)]; exact ⟨rfl, rfl⟩)

theorem over : Rows.frameFillsUptoRow.holds Try.pinned (Rows.OpenSpec.upto Rows.frameFillsSpec) :=
  OpenClaim.holds_of_cond 6 Try.f6 rfl rfl rfl rfl rfl rfl rfl ⟨rfl, rfl, rfl, rfl, rfl⟩ rfl rfl rfl rfl rfl named Try.func6 closed instance_ wrap_
    (fun os started H enc _ FF => lifted os started H enc FF)

theorem proved : Rows.FrameFillsUptoSaid := over
end Go.Proofs.Ytmoignbaphddeaa.frameFillsUpto
