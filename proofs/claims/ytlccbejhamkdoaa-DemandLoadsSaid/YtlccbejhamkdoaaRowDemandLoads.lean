/-
  For every configuration, the law DemandLoads returns true, and its argument reads afterwards as before. No condition.
-/
import Derived.Test.YtlccbejhamkdoaaRows
import Derived.Test.YtlccbejhamkdoaaLawDemD
import Derived.Test.YtlccbejhamkdoaaOpen
import Derived.Test.YtlccbejhamkdoaaBulk
import Derived.ShutString
import Derived.ChangeOld
import Derived.OpenShut
import Derived.WalkKit
import Derived.Deep.CondSized
import Derived.JoinedCond
namespace Go.Proofs.Ytlccbejhamkdoaa.demandLoads
open Go.ChangeShapes Go.WideShapes Go.ChangeAt Go.RowKit
open Go.ChangeMaps (open_string shut_string)
set_option linter.unusedVariables false

theorem own : ownKnob Try.prog.godebug = none := by kernel_rfl
set_option maxRecDepth 100000 in
theorem k1 : Rows.demandLoadsRow.wf (OpenSpec.ofChange Rows.demandLoadsSpec) = true := by kernel_rfl
set_option maxRecDepth 100000 in
theorem k2 : laidOutB Try.prog = true := by kernel_rfl
set_option maxRecDepth 100000 in
theorem k3 : mapsRowed Try.prog = true := by kernel_rfl
set_option maxRecDepth 100000 in
theorem k4 : Try.f7.params.all (Try.prog.readableRec ·) = true := by kernel_rfl
set_option maxRecDepth 100000 in
theorem k5 : namedTie Try.prog Rows.demandLoadsRow.named Rows.demandLoadsSpec.vars = true := by kernel_rfl
set_option maxRecDepth 100000 in
theorem k6 : (Rows.demandLoadsRow.stops == []) = true := by kernel_rfl
set_option maxRecDepth 100000 in
theorem k7 : (Try.prog.stops == []) = true := by kernel_rfl
set_option maxRecDepth 100000 in
theorem k8 : (Rows.demandLoadsRow.knobs == []) = true := by kernel_rfl
set_option maxRecDepth 100000 in
theorem k9 : (Try.prog.stopKnobs == []) = true := by kernel_rfl
set_option maxRecDepth 100000 in
theorem k10 : (Rows.demandLoadsRow.inPlace == Try.prog.inPlace 7) = true := by kernel_rfl
set_option maxRecDepth 100000 in
theorem k11 : (Rows.demandLoadsRow.unfollowed == Try.prog.unfollowed 7) = true := by kernel_rfl
set_option maxRecDepth 100000 in
theorem k12 : (Rows.demandLoadsRow.recurses == Try.prog.recurses 7) = true := by kernel_rfl
set_option maxRecDepth 100000 in
theorem k13 : (Rows.demandLoadsRow.named == Try.prog.varsNamed 7) = true := by kernel_rfl
set_option maxRecDepth 100000 in
theorem k14 : (Rows.demandLoadsRow.maps == (Try.f7.params.toList ++ Rows.demandLoadsSpec.plain.varTypes Try.prog).any (Try.prog.mapsRec ·)) = true := by kernel_rfl
set_option maxRecDepth 100000 in
theorem k15 : (Rows.demandLoadsRow.ifaces == (Try.f7.params.toList ++ Rows.demandLoadsSpec.plain.varTypes Try.prog).any (Try.prog.ifacesRec ·)) = true := by kernel_rfl
set_option maxRecDepth 100000 in
theorem k16 : (Rows.demandLoadsRow.mapsOut == Try.prog.mapsAmong Try.f7.resultTypes.toList) = true := by kernel_rfl
set_option maxRecDepth 100000 in
theorem k17 : (Rows.demandLoadsRow.loops == (Try.f7.params.toList ++ Rows.demandLoadsSpec.plain.varTypes Try.prog).any (Try.prog.loopsFrom ·)) = true := by kernel_rfl
set_option maxRecDepth 100000 in
theorem k18 : (Rows.demandLoadsRow.wideKeys == (Try.f7.params.toList ++ Rows.demandLoadsSpec.plain.varTypes Try.prog ++ Try.f7.resultTypes.toList).any (Try.prog.wideKeysFrom ·)) = true := by kernel_rfl
set_option maxRecDepth 100000 in
theorem k19 : Rows.demandLoadsSpec.vars.all (Try.prog.varReadable ·) = true := by kernel_rfl
set_option maxRecDepth 100000 in
theorem k20 : Try.f7.resultTypes.all (fun t => Try.prog.readableRec t && decide (t < Try.prog.types.size)) = true := by kernel_rfl
set_option maxRecDepth 100000 in
theorem k21 : (Rows.demandLoadsRow.ifacesOut == Try.f7.resultTypes.toList.any (Try.prog.ifacesRec ·)) = true := by kernel_rfl
set_option maxRecDepth 100000 in
theorem k22 : (Rows.demandLoadsRow.loopsOut == Try.f7.resultTypes.toList.any (Try.prog.loopsFrom ·)) = true := by kernel_rfl
set_option maxRecDepth 100000 in
theorem k23 : (Rows.demandLoadsRow.plainKeys == Try.prog.plainKeys) = true := by kernel_rfl
set_option maxRecDepth 100000 in
theorem k24 : Rows.demandLoadsRow.shortTexts.isNone = true := by kernel_rfl
set_option maxRecDepth 100000 in
theorem k25 : Try.prog.stopsHeard = true := by kernel_rfl
set_option maxRecDepth 100000 in
theorem k26 : Try.prog.mayEnter = true := by kernel_rfl
set_option maxRecDepth 100000 in
theorem k27 : (Rows.demandLoadsRow.lifted == Try.prog.liftsFinal) = true := by kernel_rfl
set_option maxRecDepth 100000 in
theorem k28 : (Try.prog.make == some Rows.demandLoadsRow.make) = true := by kernel_rfl
set_option maxRecDepth 100000 in
theorem k29 : (Rows.demandLoadsRow.kinds == (if Rows.demandLoadsRow.domain.isEmpty then [] else Try.f7.params.toList.map fun t => match Try.prog.underlying t with | some (.int k) => some k | _ => none)) = true := by kernel_rfl
set_option maxRecDepth 100000 in
theorem k30 : (Rows.demandLoadsRow.pinned == Rows.demandLoadsRow.pinnedBy) = true := by kernel_rfl
set_option maxRecDepth 100000 in
theorem k31 : (Rows.demandLoadsRow.veiled == (Try.f7.params.toList ++ Rows.demandLoadsSpec.plain.varTypes Try.prog ++ Try.f7.resultTypes.toList).any (Try.prog.veiledRec ·)) = true := by kernel_rfl
set_option maxRecDepth 100000 in
theorem k32 : Rows.demandLoadsRow.veiledFits Try.prog Try.f7.params.toList (Try.f7.params.toList ++ Rows.demandLoadsSpec.plain.varTypes Try.prog ++ Try.f7.resultTypes.toList) = true := by kernel_rfl
theorem both {a b : Bool} (h : a = true) (k : b = true) : (a && b) = true := by rw [h, k]; rfl
set_option maxRecDepth 100000 in
theorem closed : joinedFacts Try.prog 7 Try.f7 Rows.demandLoadsSpec Rows.demandLoadsRow = true := by
  unfold joinedFacts
  exact (both (both (both (both (both (both (both (both (both (both (both (both (both (both (both (both (both (both (both (both (both (both (both (both (both (both (both (both (both (both (both k1 k2) k3) k4) k5) k6) k7) k8) k9) k10) k11) k12) k13) k14) k15) k16) k17) k18) k19) k20) k21) k22) k23) k24) k25) k26) k27) k28) k29) k30) k31) k32)

set_option maxRecDepth 100000 in
theorem lifted (os : Os) (started : os.Started) (H : Type) (enc : TypeId × Value → H) :
    ReturnsInHanded {} Try.checked os 7 .any (Rows.demandLoadsSpec.pre6 enc Try.prog Try.f7 Rows.demandLoadsRow.domain false) (Rows.demandLoadsSpec.post enc Try.prog Try.f7 false true false false) := by
  refine returnsInHanded_of_change_sized (C := Try.checked) own started (by kernel_rfl) Try.func7
    (ChangeSpec.witness6 (enc := enc) (C := Try.checked) false ⟨#[], #[.agg #[.int .u64 0, .slice none 0 0, .slice none 0 0, .slice none 0 0, .slice none 0 0, .slice none 0 0]], []⟩ 8 (by kernel_rfl) (by kernel_rfl) (by kernel_rfl) (by kernel_rfl)) ?_
  intro W base args ds gs before hval0 hW hcnd hsz0 _
  have hsz : (DataW.weightsEach Try.prog (Try.f7.params.toList ++ Rows.demandLoadsSpec.plain.varTypes Try.prog) (ds ++ gs)).all (· ≤ reachBytes) = true := hsz0
  have hval : ∀ (j : Nat) t v, Try.f7.params[j]? = some t → args[j]? = some v → Value.okWide Try.prog W .any base t v := hval0
  have hW' := hW
  obtain ⟨p, q, hA0, hV, rfl, hfz, hnd⟩ := hW
  have hA : DataW.TrodAll enc Try.prog W 0 (fun _ => true) true Try.f7.params.toList args.toList ds p := hA0
  rw [Try.params7] at hA hval hsz
  obtain ⟨v0, vs0, d0, ds0, p0, q0, hargs, rfl, rfl, h0, r0⟩ := trodAll_cons hA
  obtain ⟨rfl, rfl, rfl⟩ := trodAll_nil r0
  obtain rfl : args = #[v0] := by cases args; simp_all
  obtain ⟨rfl, rfl⟩ := trodVars_none hV
  have k00 := h0
  have lt0 : ∀ x ∈ p0, x.block < W.heap.size := by obtain ⟨m, hm⟩ := k00; exact DataW.trod_lt m _ _ _ hm
  obtain ⟨c, A, rfl, hc, hcd⟩ := open_cfg (hval 0 29 v0 rfl rfl) h0 (fun n hn => by
    have := List.all_eq_true.1 hsz n (DataW.weights_mem_each (j := 0) rfl rfl n hn)
    simpa using this)
  clear hA0 hval0
  refine (DemandLoads_walk W c A hc).mono fun e W' ⟨he, bel⟩ => ?_
  subst he
  exact ⟨_, rfl, _, _, _, [], _, [], hW', trodAll_mk1 (shut_bool Try.underlying4 _), (trodAll_cons_mk (Below.trod (k2 : laidOutB Try.prog = true) (by kernel_rfl) (of_decide_eq_true (by kernel_rfl)) k00 bel lt0) trodAll_mk0), rfl, bel.frame _, fun h => by cases h⟩

theorem named : Try.prog.funcNamed "fenestra/fenestralaw16.DemandLoads" = some 7 := by kernel_rfl
theorem instance_ : Try.f7.isInstance Try.prog Rows.demandLoadsRow.origin Rows.demandLoadsRow.targs := of_decide_eq_true (by kernel_rfl)
theorem wrap_ : Try.f7.isWrapper Try.prog Rows.demandLoadsRow.wrapper Rows.demandLoadsRow.mainSum := by
  unfold Func.isWrapper; first | (rw [if_pos (by decide +kernel)]; kernel_rfl) | (rw [if_neg (by decide +kernel)]; exact ⟨rfl, rfl⟩)

theorem over : Rows.demandLoadsRow.holds Try.pinned (OpenSpec.ofChange Rows.demandLoadsSpec) :=
  OpenClaim.holds_of_wide 7 Try.f7 rfl rfl rfl rfl rfl rfl rfl ⟨rfl, rfl, rfl, rfl, rfl⟩ rfl rfl rfl rfl rfl named Try.func7 closed instance_ wrap_
    (fun os started H enc _ => lifted os started H enc)

theorem proved : Rows.DemandLoadsSaid := over
end Go.Proofs.Ytlccbejhamkdoaa.demandLoads
