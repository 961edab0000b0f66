/-
  For every configuration, partition and three numbers, the law FrameCounts returns true, and its arguments read afterwards as before. No condition.
-/
import Derived.Test.YtmoignbaphddeaaRows
import Derived.Test.YtmoignbaphddeaaP8RowFrameCounts
import Derived.Test.YtmoignbaphddeaaB6Law15A
import Derived.Test.YtmoignbaphddeaaB7Law15A
import Derived.ShutString
import Derived.ChangeOld
import Derived.OpenShut
import Derived.WalkKit
import Derived.Deep.CondSized
import Derived.JoinedCond
set_option linter.unusedVariables false
namespace Go.Proofs.Ytmoignbaphddeaa.frameCounts
open Go.ChangeShapes Go.WideShapes Go.ChangeAt Go.RowKit
open Go.ChangeMaps (open_string shut_string)
set_option linter.unusedVariables false

theorem own : ownKnob Try.prog.godebug = none := by kernel_rfl
set_option maxRecDepth 100000 in
theorem k1 : Rows.frameCountsRow.wf (OpenSpec.ofChange Rows.frameCountsSpec) = true := by kernel_rfl
set_option maxRecDepth 100000 in
theorem k2 : laidOutB Try.prog = true := by kernel_rfl
set_option maxRecDepth 100000 in
theorem k3 : mapsRowed Try.prog = true := by kernel_rfl
set_option maxRecDepth 100000 in
theorem k4 : Try.f4.params.all (Try.prog.readableRec ·) = true := by kernel_rfl
set_option maxRecDepth 100000 in
theorem k5 : namedTie Try.prog Rows.frameCountsRow.named Rows.frameCountsSpec.vars = true := by kernel_rfl
set_option maxRecDepth 100000 in
theorem k6 : (Rows.frameCountsRow.stops == []) = true := by kernel_rfl
set_option maxRecDepth 100000 in
theorem k7 : (Try.prog.stops == []) = true := by kernel_rfl
set_option maxRecDepth 100000 in
theorem k8 : (Rows.frameCountsRow.knobs == []) = true := by kernel_rfl
set_option maxRecDepth 100000 in
theorem k9 : (Try.prog.stopKnobs == []) = true := by kernel_rfl
set_option maxRecDepth 100000 in
theorem k10 : (Rows.frameCountsRow.inPlace == Try.prog.inPlace 4) = true := by kernel_rfl
set_option maxRecDepth 100000 in
theorem k11 : (Rows.frameCountsRow.unfollowed == Try.prog.unfollowed 4) = true := by kernel_rfl
set_option maxRecDepth 100000 in
theorem k12 : (Rows.frameCountsRow.recurses == Try.prog.recurses 4) = true := by kernel_rfl
set_option maxRecDepth 100000 in
theorem k13 : (Rows.frameCountsRow.named == Try.prog.varsNamed 4) = true := by kernel_rfl
set_option maxRecDepth 100000 in
theorem k14 : (Rows.frameCountsRow.maps == (Try.f4.params.toList ++ Rows.frameCountsSpec.plain.varTypes Try.prog).any (Try.prog.mapsRec ·)) = true := by kernel_rfl
set_option maxRecDepth 100000 in
theorem k15 : (Rows.frameCountsRow.ifaces == (Try.f4.params.toList ++ Rows.frameCountsSpec.plain.varTypes Try.prog).any (Try.prog.ifacesRec ·)) = true := by kernel_rfl
set_option maxRecDepth 100000 in
theorem k16 : (Rows.frameCountsRow.mapsOut == Try.prog.mapsAmong Try.f4.resultTypes.toList) = true := by kernel_rfl
set_option maxRecDepth 100000 in
theorem k17 : (Rows.frameCountsRow.loops == (Try.f4.params.toList ++ Rows.frameCountsSpec.plain.varTypes Try.prog).any (Try.prog.loopsFrom ·)) = true := by kernel_rfl
set_option maxRecDepth 100000 in
theorem k18 : (Rows.frameCountsRow.wideKeys == (Try.f4.params.toList ++ Rows.frameCountsSpec.plain.varTypes Try.prog ++ Try.f4.resultTypes.toList).any (Try.prog.wideKeysFrom ·)) = true := by kernel_rfl
set_option maxRecDepth 100000 in
theorem k19 : Rows.frameCountsSpec.vars.all (Try.prog.varReadable ·) = true := by kernel_rfl
set_option maxRecDepth 100000 in
theorem k20 : Try.f4.resultTypes.all (fun t => Try.prog.readableRec t && decide (t < Try.prog.types.size)) = true := by kernel_rfl
set_option maxRecDepth 100000 in
theorem k21 : (Rows.frameCountsRow.ifacesOut == Try.f4.resultTypes.toList.any (Try.prog.ifacesRec ·)) = true := by kernel_rfl
set_option maxRecDepth 100000 in
theorem k22 : (Rows.frameCountsRow.loopsOut == Try.f4.resultTypes.toList.any (Try.prog.loopsFrom ·)) = true := by kernel_rfl
set_option maxRecDepth 100000 in
theorem k23 : (Rows.frameCountsRow.plainKeys == Try.prog.plainKeys) = true := by kernel_rfl
set_option maxRecDepth 100000 in
theorem k24 : Rows.frameCountsRow.shortTexts.isNone = true := by kernel_rfl
set_option maxRecDepth 100000 in
theorem k25 : Try.prog.stopsHeard = true := by kernel_rfl
set_option maxRecDepth 100000 in
theorem k26 : Try.prog.mayEnter = true := by kernel_rfl
set_option maxRecDepth 100000 in
theorem k27 : (Rows.frameCountsRow.lifted == Try.prog.liftsFinal) = true := by kernel_rfl
set_option maxRecDepth 100000 in
theorem k28 : (Try.prog.make == some Rows.frameCountsRow.make) = true := by kernel_rfl
set_option maxRecDepth 100000 in
theorem k29 : (Rows.frameCountsRow.kinds == (if Rows.frameCountsRow.domain.isEmpty then [] else Try.f4.params.toList.map fun t => match Try.prog.underlying t with | some (.int k) => some k | _ => none)) = true := by kernel_rfl
set_option maxRecDepth 100000 in
theorem k30 : (Rows.frameCountsRow.pinned == Rows.frameCountsRow.pinnedBy) = true := by kernel_rfl
set_option maxRecDepth 100000 in
theorem k31 : (Rows.frameCountsRow.veiled == (Try.f4.params.toList ++ Rows.frameCountsSpec.plain.varTypes Try.prog ++ Try.f4.resultTypes.toList).any (Try.prog.veiledRec ·)) = true := by kernel_rfl
set_option maxRecDepth 100000 in
theorem k32 : Rows.frameCountsRow.veiledFits Try.prog Try.f4.params.toList (Try.f4.params.toList ++ Rows.frameCountsSpec.plain.varTypes Try.prog ++ Try.f4.resultTypes.toList) = true := by kernel_rfl
theorem both {a b : Bool} (h : a = true) (k : b = true) : (a && b) = true := by rw [h, k]; rfl
set_option maxRecDepth 100000 in
theorem closed : joinedFacts Try.prog 4 Try.f4 Rows.frameCountsSpec Rows.frameCountsRow = true := by
  unfold joinedFacts
  exact (both (both (both (both (both (both (both (both (both (both (both (both (both (both (both (both (both (both (both (both (both (both (both (both (both (both (both (both (both (both (both k1 k2) k3) k4) k5) k6) k7) k8) k9) k10) k11) k12) k13) k14) k15) k16) k17) k18) k19) k20) k21) k22) k23) k24) k25) k26) k27) k28) k29) k30) k31) k32)

set_option maxRecDepth 100000 in
theorem lifted (os : Os) (started : os.Started) (H : Type) (enc : TypeId × Value → H) :
    ReturnsInHanded {} Try.checked os 4 .any (Rows.frameCountsSpec.pre6 enc Try.prog Try.f4 Rows.frameCountsRow.domain false) (Rows.frameCountsSpec.post enc Try.prog Try.f4 false true false false) := by
  refine returnsInHanded_of_change_sized (C := Try.checked) own started (by kernel_rfl) Try.func4
    (ChangeSpec.witness6 (enc := enc) (C := Try.checked) false ⟨#[], #[.agg #[.int .u64 0, .slice none 0 0, .slice none 0 0, .slice none 0 0, .slice none 0 0, .slice none 0 0], .int .u16 0, .agg #[.int .u64 0, .int .u64 0, .int .u64 0]], []⟩ 8 (by kernel_rfl) (by kernel_rfl) (by kernel_rfl) (by kernel_rfl)) ?_
  intro W base args ds gs before hval0 hW hcnd hsz0 _
  have hsz : (DataW.weightsEach Try.prog (Try.f4.params.toList ++ Rows.frameCountsSpec.plain.varTypes Try.prog) (ds ++ gs)).all (· ≤ reachBytes) = true := hsz0
  have hval : ∀ (j : Nat) t v, Try.f4.params[j]? = some t → args[j]? = some v → Value.okWide Try.prog W .any base t v := hval0
  have hW' := hW
  obtain ⟨p, q, hA0, hV, rfl, hfz, hnd⟩ := hW
  have hA : DataW.TrodAll enc Try.prog W 0 (fun _ => true) true Try.f4.params.toList args.toList ds p := hA0
  rw [Try.params4] at hA hval hsz
  obtain ⟨v0, vs0, d0, ds0, p0, q0, hargs, rfl, rfl, h0, r0⟩ := trodAll_cons hA
  obtain ⟨v1, vs1, d1, ds1, p1, q1, rfl, rfl, rfl, h1, r1⟩ := trodAll_cons r0
  obtain ⟨v2, vs2, d2, ds2, p2, q2, rfl, rfl, rfl, h2, r2⟩ := trodAll_cons r1
  obtain ⟨rfl, rfl, rfl⟩ := trodAll_nil r2
  obtain rfl : args = #[v0, v1, v2] := by cases args; simp_all
  obtain ⟨rfl, rfl⟩ := trodVars_none hV
  have k00 := h0
  have lt0 : ∀ x ∈ p0, x.block < W.heap.size := by obtain ⟨m, hm⟩ := k00; exact DataW.trod_lt m _ _ _ hm
  obtain ⟨c, A, rfl, hc, hcd⟩ := open_cfg (hval 0 29 v0 rfl rfl) h0 (fun n hn => by
    have := List.all_eq_true.1 hsz n (DataW.weights_mem_each (j := 0) rfl rfl n hn)
    simpa using this)
  obtain ⟨a1, rfl, rfl, rfl, w1⟩ := open_int Try.underlying38 (hval 1 38 v1 rfl rfl) h1
  have k02 := h2
  have lt2 : ∀ x ∈ p2, x.block < W.heap.size := by obtain ⟨m, hm⟩ := k02; exact DataW.trod_lt m _ _ _ hm
  obtain ⟨x2, y2, z2, rfl, wx2, wy2, wz2⟩ := open_three (hval 2 39 v2 rfl rfl) h2
  clear hA0 hval0
  refine (FrameCounts_walk W c A hc a1 (wf_u16 w1) x2 y2 z2 wx2 wy2 wz2).mono fun e W' ⟨he, bel⟩ => ?_
  subst he
  exact ⟨_, rfl, _, _, _, [], _, [], hW', trodAll_mk1 (shut_bool Try.underlying4 _), (trodAll_cons_mk (Below.trod (k2 : laidOutB Try.prog = true) (by kernel_rfl) (of_decide_eq_true (by kernel_rfl)) k00 bel lt0) (trodAll_cons_mk (shut_int Try.underlying38 w1) (trodAll_cons_mk (Below.trod (k2 : laidOutB Try.prog = true) (by kernel_rfl) (of_decide_eq_true (by kernel_rfl)) k02 bel lt2) trodAll_mk0))), rfl, bel.frame _, fun h => by cases h⟩

theorem named : Try.prog.funcNamed "fenestra/fenestralaw15.FrameCounts" = some 4 := by kernel_rfl
theorem instance_ : Try.f4.isInstance Try.prog Rows.frameCountsRow.origin Rows.frameCountsRow.targs := of_decide_eq_true (by kernel_rfl)
theorem wrap_ : Try.f4.isWrapper Try.prog Rows.frameCountsRow.wrapper Rows.frameCountsRow.mainSum := by
  unfold Func.isWrapper; first | (rw [if_pos (by decide +kernel)]; kernel_rfl) | (rw [if_neg (by decide +kernel)]; exact ⟨rfl, rfl⟩)

theorem over : Rows.frameCountsRow.holds Try.pinned (OpenSpec.ofChange Rows.frameCountsSpec) :=
  OpenClaim.holds_of_wide 4 Try.f4 rfl rfl rfl rfl rfl rfl rfl ⟨rfl, rfl, rfl, rfl, rfl⟩ rfl rfl rfl rfl rfl named Try.func4 closed instance_ wrap_
    (fun os started H enc _ => lifted os started H enc)

theorem proved : Rows.FrameCountsSaid := over
end Go.Proofs.Ytmoignbaphddeaa.frameCounts
