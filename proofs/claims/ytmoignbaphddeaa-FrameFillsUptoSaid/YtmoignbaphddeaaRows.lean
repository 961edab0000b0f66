/-
  No cell of these rows narrows 'for every input' (looked for: loops, veiled, ifaces, maps, wideKeys, modest, calm, conditions, laid).
  DERIVED. THE GIVEN ROWS OF THIS SEAT. 4 by the template 'for every input the law returns true; each argument reads behind the call as it read before'; 0 by the template 'total and deterministic' (their statements: YtmoignbaphddeaaTotals.lean).
  GIVEN WITH THE SEED: the statements are not yours to turn. If you find one false, say at which input.
  Laid BY PROGRAM, IN A SANDBOX (cutbox-rows.mjs): the forced cells as the released guide's own fill.sh prints them over the translation 107c1b6577617b8f… (all of the seat's roots in one cut). By AI agents, Wed Nov 11 2026. No macro, syntax, notation, axiom, sorry.
-/
import Derived.Test.YtmoignbaphddeaaChecked
import GoSem.Claim
import GoSem.ClaimJoined
import GoSem.ClaimMapViews
import Derived.JoinedTies
import Derived.KernelRfl
namespace Go.Proofs.Ytmoignbaphddeaa
/- THE CELL 'sum', in the pinned program and in every row, IS THE sha256 OF THE DUMP (.gsa) THAT YtmoignbaphddeaaProg.lean LOADS. Nothing in Lean hashes anything: it is a label: what it is worth is what the hold of that sum in a sandbox is worth. -/
noncomputable def Try.pinned : Pinned := { name := "ytmoignbaphddeaa", sum := "107c1b6577617b8fbe31dde72d68fd1ee6ac370ddfd762bb45d8ca244a724328", checked := Try.checked }
namespace Rows
def none {H : Type} : Left H := { results := [], args := [] }

/-- 'fenestralaw15.FrameChecks': WHATEVER THE INPUT: true; the input reads as it did. -/
def frameChecksSpec : ChangeSpec := { name := "frameChecks", fn := fun _ => fun
  | [d] => { results := [.lit (.bool true)], args := [d] }
  | _ => none }
def frameChecksRow : OpenClaim := { program := "ytmoignbaphddeaa", sum := "107c1b6577617b8fbe31dde72d68fd1ee6ac370ddfd762bb45d8ca244a724328", func := "fenestra/fenestralaw15.FrameChecks", spec := "frameChecks", inPlace := ["math/bits.Add64"], unfollowed := true, recurses := true, plainKeys := false, apart := false }
def FrameChecksSaid : Prop := frameChecksRow.holds Try.pinned (OpenSpec.ofChange frameChecksSpec)

/-- ITS FALSE NEIGHBOUR: 'it returns false'. Refute it at one input. -/
def frameChecksWrong : ChangeSpec := { name := "frameChecks", fn := fun _ => fun
  | [d] => { results := [.lit (.bool false)], args := [d] }
  | _ => none }
def FrameChecksWrongFalsely : Prop := frameChecksRow.holds Try.pinned (OpenSpec.ofChange frameChecksWrong)

/-- 'fenestralaw15.FrameCounts': WHATEVER THE INPUT: true; the input reads as it did. -/
def frameCountsSpec : ChangeSpec := { name := "frameCounts", fn := fun _ => fun
  | [d1, d2, d3] => { results := [.lit (.bool true)], args := [d1, d2, d3] }
  | _ => none }
def frameCountsRow : OpenClaim := { program := "ytmoignbaphddeaa", sum := "107c1b6577617b8fbe31dde72d68fd1ee6ac370ddfd762bb45d8ca244a724328", func := "fenestra/fenestralaw15.FrameCounts", spec := "frameCounts", inPlace := ["math/bits.Add64"], unfollowed := true, recurses := true, plainKeys := false, apart := false }
def FrameCountsSaid : Prop := frameCountsRow.holds Try.pinned (OpenSpec.ofChange frameCountsSpec)

/-- ITS FALSE NEIGHBOUR: 'it returns false'. Refute it at one input. -/
def frameCountsWrong : ChangeSpec := { name := "frameCounts", fn := fun _ => fun
  | [d1, d2, d3] => { results := [.lit (.bool false)], args := [d1, d2, d3] }
  | _ => none }
def FrameCountsWrongFalsely : Prop := frameCountsRow.holds Try.pinned (OpenSpec.ofChange frameCountsWrong)

/-- 'fenestralaw15.FrameAdds': WHATEVER THE INPUT: true; the input reads as it did. -/
def frameAddsSpec : ChangeSpec := { name := "frameAdds", fn := fun _ => fun
  | [d1, d2] => { results := [.lit (.bool true)], args := [d1, d2] }
  | _ => none }
def frameAddsRow : OpenClaim := { program := "ytmoignbaphddeaa", sum := "107c1b6577617b8fbe31dde72d68fd1ee6ac370ddfd762bb45d8ca244a724328", func := "fenestra/fenestralaw15.FrameAdds", spec := "frameAdds", inPlace := ["math/bits.Add64"], unfollowed := true, recurses := true, plainKeys := false, apart := false }
def FrameAddsSaid : Prop := frameAddsRow.holds Try.pinned (OpenSpec.ofChange frameAddsSpec)

/-- ITS FALSE NEIGHBOUR: 'it returns false'. Refute it at one input. -/
def frameAddsWrong : ChangeSpec := { name := "frameAdds", fn := fun _ => fun
  | [d1, d2] => { results := [.lit (.bool false)], args := [d1, d2] }
  | _ => none }
def FrameAddsWrongFalsely : Prop := frameAddsRow.holds Try.pinned (OpenSpec.ofChange frameAddsWrong)

/-- 'fenestralaw15.FrameFills': WHATEVER THE INPUT: true; the input reads as it did. -/
def frameFillsSpec : ChangeSpec := { name := "frameFills", fn := fun _ => fun
  | [d] => { results := [.lit (.bool true)], args := [d] }
  | _ => none }
def frameFillsRow : OpenClaim := { program := "ytmoignbaphddeaa", sum := "107c1b6577617b8fbe31dde72d68fd1ee6ac370ddfd762bb45d8ca244a724328", func := "fenestra/fenestralaw15.FrameFills", spec := "frameFills", inPlace := ["math/bits.Add64"], unfollowed := true, recurses := true, plainKeys := false, apart := false }
def FrameFillsSaid : Prop := frameFillsRow.holds Try.pinned (OpenSpec.ofChange frameFillsSpec)

/-- ITS FALSE NEIGHBOUR: 'it returns false'. Refute it at one input. -/
def frameFillsWrong : ChangeSpec := { name := "frameFills", fn := fun _ => fun
  | [d] => { results := [.lit (.bool false)], args := [d] }
  | _ => none }
def FrameFillsWrongFalsely : Prop := frameFillsRow.holds Try.pinned (OpenSpec.ofChange frameFillsWrong)

/- THE SECOND FORM. 'bulk': how many values and letters a reading holds, each counted each time it is reached (what is shared counts as often as it is met; a slice's spare places count too). A statement '..UptoSaid' is the law's where the arguments, and the package variables that the reading takes, are together of bulk at most 1048576: NARROWER than '..Said'. Prove '..Said' where nothing that the law and all that it calls make is longer than what came in: it says more and counts as full. Else prove '..UptoSaid'. A law counts once. -/
mutual
def uptoBulk {H : Type} : DataW H → Nat
  | .lit (.string bytes) => bytes.length + 1
  | .lit _ => 1
  | .nil => 1
  | .ptr d => uptoBulk d + 1
  | .slice elems spare => uptoBulkAll elems + uptoBulkAll spare + 1
  | .agg parts => uptoBulkAll parts + 1
  | .iface _ d => uptoBulk d + 1
  | .map entries => uptoBulkEntries entries + 1
  | .held _ => 1
def uptoBulkAll {H : Type} : List (DataW H) → Nat
  | [] => 0
  | d :: r => uptoBulk d + uptoBulkAll r
def uptoBulkEntries {H : Type} : List (Lit × DataW H) → Nat
  | [] => 0
  | x :: r => uptoBulkEntry x + uptoBulkEntries r
def uptoBulkEntry {H : Type} : Lit × DataW H → Nat
  | (.string bytes, d) => bytes.length + uptoBulk d + 1
  | (_, d) => uptoBulk d + 1
 end
def uptoSmall : (H : Type) → List (DataW H) → Bool := fun _ ds => decide (uptoBulkAll ds ≤ 1048576)
def OpenSpec.upto (s : _root_.Go.ChangeSpec) : _root_.Go.OpenSpec := { _root_.Go.OpenSpec.ofChange s with cond := some uptoSmall }

/-- 'fenestralaw15.FrameChecks', WHERE WHAT IT READS IS OF BULK AT MOST 1048576: true; the input reads as it did. -/
def frameChecksUptoRow : OpenClaim := { program := "ytmoignbaphddeaa", sum := "107c1b6577617b8fbe31dde72d68fd1ee6ac370ddfd762bb45d8ca244a724328", func := "fenestra/fenestralaw15.FrameChecks", spec := "frameChecks", inPlace := ["math/bits.Add64"], unfollowed := true, recurses := true, plainKeys := false, apart := false, narrowed := true }
def FrameChecksUptoSaid : Prop := frameChecksUptoRow.holds Try.pinned (OpenSpec.upto frameChecksSpec)

/-- 'fenestralaw15.FrameCounts', WHERE WHAT IT READS IS OF BULK AT MOST 1048576: true; the input reads as it did. -/
def frameCountsUptoRow : OpenClaim := { program := "ytmoignbaphddeaa", sum := "107c1b6577617b8fbe31dde72d68fd1ee6ac370ddfd762bb45d8ca244a724328", func := "fenestra/fenestralaw15.FrameCounts", spec := "frameCounts", inPlace := ["math/bits.Add64"], unfollowed := true, recurses := true, plainKeys := false, apart := false, narrowed := true }
def FrameCountsUptoSaid : Prop := frameCountsUptoRow.holds Try.pinned (OpenSpec.upto frameCountsSpec)

/-- 'fenestralaw15.FrameAdds', WHERE WHAT IT READS IS OF BULK AT MOST 1048576: true; the input reads as it did. -/
def frameAddsUptoRow : OpenClaim := { program := "ytmoignbaphddeaa", sum := "107c1b6577617b8fbe31dde72d68fd1ee6ac370ddfd762bb45d8ca244a724328", func := "fenestra/fenestralaw15.FrameAdds", spec := "frameAdds", inPlace := ["math/bits.Add64"], unfollowed := true, recurses := true, plainKeys := false, apart := false, narrowed := true }
def FrameAddsUptoSaid : Prop := frameAddsUptoRow.holds Try.pinned (OpenSpec.upto frameAddsSpec)

/-- 'fenestralaw15.FrameFills', WHERE WHAT IT READS IS OF BULK AT MOST 1048576: true; the input reads as it did. -/
def frameFillsUptoRow : OpenClaim := { program := "ytmoignbaphddeaa", sum := "107c1b6577617b8fbe31dde72d68fd1ee6ac370ddfd762bb45d8ca244a724328", func := "fenestra/fenestralaw15.FrameFills", spec := "frameFills", inPlace := ["math/bits.Add64"], unfollowed := true, recurses := true, plainKeys := false, apart := false, narrowed := true }
def FrameFillsUptoSaid : Prop := frameFillsUptoRow.holds Try.pinned (OpenSpec.upto frameFillsSpec)

end Rows
end Go.Proofs.Ytmoignbaphddeaa
