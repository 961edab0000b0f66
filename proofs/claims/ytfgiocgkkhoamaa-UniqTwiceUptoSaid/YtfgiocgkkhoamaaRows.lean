/-
  No cell of these rows narrows 'for every input' (looked for: loops, veiled, ifaces, maps, wideKeys, modest, calm, conditions, laid).
  DERIVED. THE GIVEN ROWS OF THIS SEAT. 15 by the template 'for every input the law returns true; each argument reads behind the call as it read before'; 0 by the template 'total and deterministic' (their statements: YtfgiocgkkhoamaaTotals.lean).
  GIVEN WITH THE SEED: the statements are not yours to turn. If you find one false, say at which input.
  Laid BY PROGRAM, IN A SANDBOX (cutbox-rows.mjs): the forced cells as the released guide's own fill.sh prints them over the translation 42e83b40667b3fe5… (all of the seat's roots in one cut). By AI agents, Wed Nov 11 2026. No macro, syntax, notation, axiom, sorry.
-/
import Derived.Test.YtfgiocgkkhoamaaChecked
import GoSem.Claim
import GoSem.ClaimJoined
import GoSem.ClaimMapViews
import Derived.JoinedTies
import Derived.KernelRfl
namespace Go.Proofs.Ytfgiocgkkhoamaa
/- THE CELL 'sum', in the pinned program and in every row, IS THE sha256 OF THE DUMP (.gsa) THAT YtfgiocgkkhoamaaProg.lean LOADS. Nothing in Lean hashes anything: it is a label: what it is worth is what the hold of that sum in a sandbox is worth. -/
noncomputable def Try.pinned : Pinned := { name := "ytfgiocgkkhoamaa", sum := "42e83b40667b3fe55722f00d0c578eba2a79d8aca3467ee3d86dcb6cb3f00c67", checked := Try.checked }
namespace Rows
def none {H : Type} : Left H := { results := [], args := [] }

/-- 'fenestralaw13.UniqFinds': WHATEVER THE INPUT: true; the input reads as it did. -/
def uniqFindsSpec : ChangeSpec := { name := "uniqFinds", fn := fun _ => fun
  | [d1, d2, d3] => { results := [.lit (.bool true)], args := [d1, d2, d3] }
  | _ => none }
def uniqFindsRow : OpenClaim := { program := "ytfgiocgkkhoamaa", sum := "42e83b40667b3fe55722f00d0c578eba2a79d8aca3467ee3d86dcb6cb3f00c67", func := "fenestra/fenestralaw13.UniqFinds", spec := "uniqFinds", unfollowed := true, recurses := true, plainKeys := false, apart := false }
def UniqFindsSaid : Prop := uniqFindsRow.holds Try.pinned (OpenSpec.ofChange uniqFindsSpec)

/-- ITS FALSE NEIGHBOUR: 'it returns false'. Refute it at one input. -/
def uniqFindsWrong : ChangeSpec := { name := "uniqFinds", fn := fun _ => fun
  | [d1, d2, d3] => { results := [.lit (.bool false)], args := [d1, d2, d3] }
  | _ => none }
def UniqFindsWrongFalsely : Prop := uniqFindsRow.holds Try.pinned (OpenSpec.ofChange uniqFindsWrong)

/-- 'fenestralaw13.UniqChecks': WHATEVER THE INPUT: true; the input reads as it did. -/
def uniqChecksSpec : ChangeSpec := { name := "uniqChecks", fn := fun _ => fun
  | [d] => { results := [.lit (.bool true)], args := [d] }
  | _ => none }
def uniqChecksRow : OpenClaim := { program := "ytfgiocgkkhoamaa", sum := "42e83b40667b3fe55722f00d0c578eba2a79d8aca3467ee3d86dcb6cb3f00c67", func := "fenestra/fenestralaw13.UniqChecks", spec := "uniqChecks", unfollowed := true, recurses := true, plainKeys := false, apart := false }
def UniqChecksSaid : Prop := uniqChecksRow.holds Try.pinned (OpenSpec.ofChange uniqChecksSpec)

/-- ITS FALSE NEIGHBOUR: 'it returns false'. Refute it at one input. -/
def uniqChecksWrong : ChangeSpec := { name := "uniqChecks", fn := fun _ => fun
  | [d] => { results := [.lit (.bool false)], args := [d] }
  | _ => none }
def UniqChecksWrongFalsely : Prop := uniqChecksRow.holds Try.pinned (OpenSpec.ofChange uniqChecksWrong)

/-- 'fenestralaw13.UniqTwice': WHATEVER THE INPUT: true; the input reads as it did. -/
def uniqTwiceSpec : ChangeSpec := { name := "uniqTwice", fn := fun _ => fun
  | [d] => { results := [.lit (.bool true)], args := [d] }
  | _ => none }
def uniqTwiceRow : OpenClaim := { program := "ytfgiocgkkhoamaa", sum := "42e83b40667b3fe55722f00d0c578eba2a79d8aca3467ee3d86dcb6cb3f00c67", func := "fenestra/fenestralaw13.UniqTwice", spec := "uniqTwice", unfollowed := true, recurses := true, plainKeys := false, apart := false }
def UniqTwiceSaid : Prop := uniqTwiceRow.holds Try.pinned (OpenSpec.ofChange uniqTwiceSpec)

/-- ITS FALSE NEIGHBOUR: 'it returns false'. Refute it at one input. -/
def uniqTwiceWrong : ChangeSpec := { name := "uniqTwice", fn := fun _ => fun
  | [d] => { results := [.lit (.bool false)], args := [d] }
  | _ => none }
def UniqTwiceWrongFalsely : Prop := uniqTwiceRow.holds Try.pinned (OpenSpec.ofChange uniqTwiceWrong)

/-- 'fenestralaw13.UniqOrder': WHATEVER THE INPUT: true; the input reads as it did. -/
def uniqOrderSpec : ChangeSpec := { name := "uniqOrder", fn := fun _ => fun
  | [d] => { results := [.lit (.bool true)], args := [d] }
  | _ => none }
def uniqOrderRow : OpenClaim := { program := "ytfgiocgkkhoamaa", sum := "42e83b40667b3fe55722f00d0c578eba2a79d8aca3467ee3d86dcb6cb3f00c67", func := "fenestra/fenestralaw13.UniqOrder", spec := "uniqOrder", unfollowed := true, recurses := true, plainKeys := false, apart := false }
def UniqOrderSaid : Prop := uniqOrderRow.holds Try.pinned (OpenSpec.ofChange uniqOrderSpec)

/-- ITS FALSE NEIGHBOUR: 'it returns false'. Refute it at one input. -/
def uniqOrderWrong : ChangeSpec := { name := "uniqOrder", fn := fun _ => fun
  | [d] => { results := [.lit (.bool false)], args := [d] }
  | _ => none }
def UniqOrderWrongFalsely : Prop := uniqOrderRow.holds Try.pinned (OpenSpec.ofChange uniqOrderWrong)

/-- 'fenestralaw16.DemandChecks': WHATEVER THE INPUT: true; the input reads as it did. -/
def demandChecksSpec : ChangeSpec := { name := "demandChecks", fn := fun _ => fun
  | [d] => { results := [.lit (.bool true)], args := [d] }
  | _ => none }
def demandChecksRow : OpenClaim := { program := "ytfgiocgkkhoamaa", sum := "42e83b40667b3fe55722f00d0c578eba2a79d8aca3467ee3d86dcb6cb3f00c67", func := "fenestra/fenestralaw16.DemandChecks", spec := "demandChecks", unfollowed := true, recurses := true, plainKeys := false, apart := false }
def DemandChecksSaid : Prop := demandChecksRow.holds Try.pinned (OpenSpec.ofChange demandChecksSpec)

/-- ITS FALSE NEIGHBOUR: 'it returns false'. Refute it at one input. -/
def demandChecksWrong : ChangeSpec := { name := "demandChecks", fn := fun _ => fun
  | [d] => { results := [.lit (.bool false)], args := [d] }
  | _ => none }
def DemandChecksWrongFalsely : Prop := demandChecksRow.holds Try.pinned (OpenSpec.ofChange demandChecksWrong)

/-- 'fenestralaw16.DemandLeasts': WHATEVER THE INPUT: true; the input reads as it did. -/
def demandLeastsSpec : ChangeSpec := { name := "demandLeasts", fn := fun _ => fun
  | [d] => { results := [.lit (.bool true)], args := [d] }
  | _ => none }
def demandLeastsRow : OpenClaim := { program := "ytfgiocgkkhoamaa", sum := "42e83b40667b3fe55722f00d0c578eba2a79d8aca3467ee3d86dcb6cb3f00c67", func := "fenestra/fenestralaw16.DemandLeasts", spec := "demandLeasts", unfollowed := true, recurses := true, plainKeys := false, apart := false }
def DemandLeastsSaid : Prop := demandLeastsRow.holds Try.pinned (OpenSpec.ofChange demandLeastsSpec)

/-- ITS FALSE NEIGHBOUR: 'it returns false'. Refute it at one input. -/
def demandLeastsWrong : ChangeSpec := { name := "demandLeasts", fn := fun _ => fun
  | [d] => { results := [.lit (.bool false)], args := [d] }
  | _ => none }
def DemandLeastsWrongFalsely : Prop := demandLeastsRow.holds Try.pinned (OpenSpec.ofChange demandLeastsWrong)

/-- 'fenestralaw16.DemandSlacks': WHATEVER THE INPUT: true; the input reads as it did. -/
def demandSlacksSpec : ChangeSpec := { name := "demandSlacks", fn := fun _ => fun
  | [d] => { results := [.lit (.bool true)], args := [d] }
  | _ => none }
def demandSlacksRow : OpenClaim := { program := "ytfgiocgkkhoamaa", sum := "42e83b40667b3fe55722f00d0c578eba2a79d8aca3467ee3d86dcb6cb3f00c67", func := "fenestra/fenestralaw16.DemandSlacks", spec := "demandSlacks", unfollowed := true, recurses := true, plainKeys := false, apart := false }
def DemandSlacksSaid : Prop := demandSlacksRow.holds Try.pinned (OpenSpec.ofChange demandSlacksSpec)

/-- ITS FALSE NEIGHBOUR: 'it returns false'. Refute it at one input. -/
def demandSlacksWrong : ChangeSpec := { name := "demandSlacks", fn := fun _ => fun
  | [d] => { results := [.lit (.bool false)], args := [d] }
  | _ => none }
def DemandSlacksWrongFalsely : Prop := demandSlacksRow.holds Try.pinned (OpenSpec.ofChange demandSlacksWrong)

/-- 'fenestralaw16.DemandLoads': WHATEVER THE INPUT: true; the input reads as it did. -/
def demandLoadsSpec : ChangeSpec := { name := "demandLoads", fn := fun _ => fun
  | [d] => { results := [.lit (.bool true)], args := [d] }
  | _ => none }
def demandLoadsRow : OpenClaim := { program := "ytfgiocgkkhoamaa", sum := "42e83b40667b3fe55722f00d0c578eba2a79d8aca3467ee3d86dcb6cb3f00c67", func := "fenestra/fenestralaw16.DemandLoads", spec := "demandLoads", inPlace := ["math/bits.Add64"], unfollowed := true, recurses := true, plainKeys := false, apart := false }
def DemandLoadsSaid : Prop := demandLoadsRow.holds Try.pinned (OpenSpec.ofChange demandLoadsSpec)

/-- ITS FALSE NEIGHBOUR: 'it returns false'. Refute it at one input. -/
def demandLoadsWrong : ChangeSpec := { name := "demandLoads", fn := fun _ => fun
  | [d] => { results := [.lit (.bool false)], args := [d] }
  | _ => none }
def DemandLoadsWrongFalsely : Prop := demandLoadsRow.holds Try.pinned (OpenSpec.ofChange demandLoadsWrong)

/-- 'fenestralaw15.FrameChecks': WHATEVER THE INPUT: true; the input reads as it did. -/
def frameChecksSpec : ChangeSpec := { name := "frameChecks", fn := fun _ => fun
  | [d] => { results := [.lit (.bool true)], args := [d] }
  | _ => none }
def frameChecksRow : OpenClaim := { program := "ytfgiocgkkhoamaa", sum := "42e83b40667b3fe55722f00d0c578eba2a79d8aca3467ee3d86dcb6cb3f00c67", func := "fenestra/fenestralaw15.FrameChecks", spec := "frameChecks", inPlace := ["math/bits.Add64"], unfollowed := true, recurses := true, plainKeys := false, apart := false }
def FrameChecksSaid : Prop := frameChecksRow.holds Try.pinned (OpenSpec.ofChange frameChecksSpec)

/-- ITS FALSE NEIGHBOUR: 'it returns false'. Refute it at one input. -/
def frameChecksWrong : ChangeSpec := { name := "frameChecks", fn := fun _ => fun
  | [d] => { results := [.lit (.bool false)], args := [d] }
  | _ => none }
def FrameChecksWrongFalsely : Prop := frameChecksRow.holds Try.pinned (OpenSpec.ofChange frameChecksWrong)

/-- 'fenestralaw15.FrameCounts': WHATEVER THE INPUT: true; the input reads as it did. -/
def frameCountsSpec : ChangeSpec := { name := "frameCounts", fn := fun _ => fun
  | [d1, d2, d3] => { results := [.lit (.bool true)], args := [d1, d2, d3] }
  | _ => none }
def frameCountsRow : OpenClaim := { program := "ytfgiocgkkhoamaa", sum := "42e83b40667b3fe55722f00d0c578eba2a79d8aca3467ee3d86dcb6cb3f00c67", func := "fenestra/fenestralaw15.FrameCounts", spec := "frameCounts", inPlace := ["math/bits.Add64"], unfollowed := true, recurses := true, plainKeys := false, apart := false }
def FrameCountsSaid : Prop := frameCountsRow.holds Try.pinned (OpenSpec.ofChange frameCountsSpec)

/-- ITS FALSE NEIGHBOUR: 'it returns false'. Refute it at one input. -/
def frameCountsWrong : ChangeSpec := { name := "frameCounts", fn := fun _ => fun
  | [d1, d2, d3] => { results := [.lit (.bool false)], args := [d1, d2, d3] }
  | _ => none }
def FrameCountsWrongFalsely : Prop := frameCountsRow.holds Try.pinned (OpenSpec.ofChange frameCountsWrong)

/-- 'fenestralaw15.FrameAdds': WHATEVER THE INPUT: true; the input reads as it did. -/
def frameAddsSpec : ChangeSpec := { name := "frameAdds", fn := fun _ => fun
  | [d1, d2] => { results := [.lit (.bool true)], args := [d1, d2] }
  | _ => none }
def frameAddsRow : OpenClaim := { program := "ytfgiocgkkhoamaa", sum := "42e83b40667b3fe55722f00d0c578eba2a79d8aca3467ee3d86dcb6cb3f00c67", func := "fenestra/fenestralaw15.FrameAdds", spec := "frameAdds", inPlace := ["math/bits.Add64"], unfollowed := true, recurses := true, plainKeys := false, apart := false }
def FrameAddsSaid : Prop := frameAddsRow.holds Try.pinned (OpenSpec.ofChange frameAddsSpec)

/-- ITS FALSE NEIGHBOUR: 'it returns false'. Refute it at one input. -/
def frameAddsWrong : ChangeSpec := { name := "frameAdds", fn := fun _ => fun
  | [d1, d2] => { results := [.lit (.bool false)], args := [d1, d2] }
  | _ => none }
def FrameAddsWrongFalsely : Prop := frameAddsRow.holds Try.pinned (OpenSpec.ofChange frameAddsWrong)

/-- 'fenestralaw17.MemoryOwners': WHATEVER THE INPUT: true; the input reads as it did. -/
def memoryOwnersSpec : ChangeSpec := { name := "memoryOwners", fn := fun _ => fun
  | [d1, d2] => { results := [.lit (.bool true)], args := [d1, d2] }
  | _ => none }
def memoryOwnersRow : OpenClaim := { program := "ytfgiocgkkhoamaa", sum := "42e83b40667b3fe55722f00d0c578eba2a79d8aca3467ee3d86dcb6cb3f00c67", func := "fenestra/fenestralaw17.MemoryOwners", spec := "memoryOwners", unfollowed := true, recurses := true, plainKeys := false, apart := false }
def MemoryOwnersSaid : Prop := memoryOwnersRow.holds Try.pinned (OpenSpec.ofChange memoryOwnersSpec)

/-- ITS FALSE NEIGHBOUR: 'it returns false'. Refute it at one input. -/
def memoryOwnersWrong : ChangeSpec := { name := "memoryOwners", fn := fun _ => fun
  | [d1, d2] => { results := [.lit (.bool false)], args := [d1, d2] }
  | _ => none }
def MemoryOwnersWrongFalsely : Prop := memoryOwnersRow.holds Try.pinned (OpenSpec.ofChange memoryOwnersWrong)

/-- 'fenestralaw17.MemoryAllows': WHATEVER THE INPUT: true; the input reads as it did. -/
def memoryAllowsSpec : ChangeSpec := { name := "memoryAllows", fn := fun _ => fun
  | [d1, d2, d3] => { results := [.lit (.bool true)], args := [d1, d2, d3] }
  | _ => none }
def memoryAllowsRow : OpenClaim := { program := "ytfgiocgkkhoamaa", sum := "42e83b40667b3fe55722f00d0c578eba2a79d8aca3467ee3d86dcb6cb3f00c67", func := "fenestra/fenestralaw17.MemoryAllows", spec := "memoryAllows", unfollowed := true, recurses := true, plainKeys := false, apart := false }
def MemoryAllowsSaid : Prop := memoryAllowsRow.holds Try.pinned (OpenSpec.ofChange memoryAllowsSpec)

/-- ITS FALSE NEIGHBOUR: 'it returns false'. Refute it at one input. -/
def memoryAllowsWrong : ChangeSpec := { name := "memoryAllows", fn := fun _ => fun
  | [d1, d2, d3] => { results := [.lit (.bool false)], args := [d1, d2, d3] }
  | _ => none }
def MemoryAllowsWrongFalsely : Prop := memoryAllowsRow.holds Try.pinned (OpenSpec.ofChange memoryAllowsWrong)

/-- 'fenestralaw17.MemoryOwns': WHATEVER THE INPUT: true; the input reads as it did. -/
def memoryOwnsSpec : ChangeSpec := { name := "memoryOwns", fn := fun _ => fun
  | [d1, d2, d3] => { results := [.lit (.bool true)], args := [d1, d2, d3] }
  | _ => none }
def memoryOwnsRow : OpenClaim := { program := "ytfgiocgkkhoamaa", sum := "42e83b40667b3fe55722f00d0c578eba2a79d8aca3467ee3d86dcb6cb3f00c67", func := "fenestra/fenestralaw17.MemoryOwns", spec := "memoryOwns", unfollowed := true, recurses := true, plainKeys := false, apart := false }
def MemoryOwnsSaid : Prop := memoryOwnsRow.holds Try.pinned (OpenSpec.ofChange memoryOwnsSpec)

/-- ITS FALSE NEIGHBOUR: 'it returns false'. Refute it at one input. -/
def memoryOwnsWrong : ChangeSpec := { name := "memoryOwns", fn := fun _ => fun
  | [d1, d2, d3] => { results := [.lit (.bool false)], args := [d1, d2, d3] }
  | _ => none }
def MemoryOwnsWrongFalsely : Prop := memoryOwnsRow.holds Try.pinned (OpenSpec.ofChange memoryOwnsWrong)

/-- 'fenestralaw15.FrameFills': WHATEVER THE INPUT: true; the input reads as it did. -/
def frameFillsSpec : ChangeSpec := { name := "frameFills", fn := fun _ => fun
  | [d] => { results := [.lit (.bool true)], args := [d] }
  | _ => none }
def frameFillsRow : OpenClaim := { program := "ytfgiocgkkhoamaa", sum := "42e83b40667b3fe55722f00d0c578eba2a79d8aca3467ee3d86dcb6cb3f00c67", func := "fenestra/fenestralaw15.FrameFills", spec := "frameFills", inPlace := ["math/bits.Add64"], unfollowed := true, recurses := true, plainKeys := false, apart := false }
def FrameFillsSaid : Prop := frameFillsRow.holds Try.pinned (OpenSpec.ofChange frameFillsSpec)

/-- ITS FALSE NEIGHBOUR: 'it returns false'. Refute it at one input. -/
def frameFillsWrong : ChangeSpec := { name := "frameFills", fn := fun _ => fun
  | [d] => { results := [.lit (.bool false)], args := [d] }
  | _ => none }
def FrameFillsWrongFalsely : Prop := frameFillsRow.holds Try.pinned (OpenSpec.ofChange frameFillsWrong)

/- THE SECOND FORM. 'bulk': how many values and letters a reading holds, each counted each time it is reached (what is shared counts as often as it is met; a slice's spare places count too). A statement '..UptoSaid' is the law's where the arguments, and the package variables that the reading takes, are together of bulk at most 1048576: NARROWER than '..Said'. Prove '..Said' where nothing that the law and all that it calls make is longer than what came in: it says more and counts as full. Else prove '..UptoSaid'. A law counts once. -/
mutual
def uptoBulk {H : Type} : DataW H → Nat
  | .lit (.string bytes) => bytes.length + 1
  | .lit _ => 1
  | .nil => 1
  | .ptr d => uptoBulk d + 1
  | .slice elems spare => uptoBulkAll elems + uptoBulkAll spare + 1
  | .agg parts => uptoBulkAll parts + 1
  | .iface _ d => uptoBulk d + 1
  | .map entries => uptoBulkEntries entries + 1
  | .held _ => 1
def uptoBulkAll {H : Type} : List (DataW H) → Nat
  | [] => 0
  | d :: r => uptoBulk d + uptoBulkAll r
def uptoBulkEntries {H : Type} : List (Lit × DataW H) → Nat
  | [] => 0
  | x :: r => uptoBulkEntry x + uptoBulkEntries r
def uptoBulkEntry {H : Type} : Lit × DataW H → Nat
  | (.string bytes, d) => bytes.length + uptoBulk d + 1
  | (_, d) => uptoBulk d + 1
 end
def uptoSmall : (H : Type) → List (DataW H) → Bool := fun _ ds => decide (uptoBulkAll ds ≤ 1048576)
def OpenSpec.upto (s : _root_.Go.ChangeSpec) : _root_.Go.OpenSpec := { _root_.Go.OpenSpec.ofChange s with cond := some uptoSmall }

/-- 'fenestralaw13.UniqFinds', WHERE WHAT IT READS IS OF BULK AT MOST 1048576: true; the input reads as it did. -/
def uniqFindsUptoRow : OpenClaim := { program := "ytfgiocgkkhoamaa", sum := "42e83b40667b3fe55722f00d0c578eba2a79d8aca3467ee3d86dcb6cb3f00c67", func := "fenestra/fenestralaw13.UniqFinds", spec := "uniqFinds", unfollowed := true, recurses := true, plainKeys := false, apart := false, narrowed := true }
def UniqFindsUptoSaid : Prop := uniqFindsUptoRow.holds Try.pinned (OpenSpec.upto uniqFindsSpec)

/-- 'fenestralaw13.UniqChecks', WHERE WHAT IT READS IS OF BULK AT MOST 1048576: true; the input reads as it did. -/
def uniqChecksUptoRow : OpenClaim := { program := "ytfgiocgkkhoamaa", sum := "42e83b40667b3fe55722f00d0c578eba2a79d8aca3467ee3d86dcb6cb3f00c67", func := "fenestra/fenestralaw13.UniqChecks", spec := "uniqChecks", unfollowed := true, recurses := true, plainKeys := false, apart := false, narrowed := true }
def UniqChecksUptoSaid : Prop := uniqChecksUptoRow.holds Try.pinned (OpenSpec.upto uniqChecksSpec)

/-- 'fenestralaw13.UniqTwice', WHERE WHAT IT READS IS OF BULK AT MOST 1048576: true; the input reads as it did. -/
def uniqTwiceUptoRow : OpenClaim := { program := "ytfgiocgkkhoamaa", sum := "42e83b40667b3fe55722f00d0c578eba2a79d8aca3467ee3d86dcb6cb3f00c67", func := "fenestra/fenestralaw13.UniqTwice", spec := "uniqTwice", unfollowed := true, recurses := true, plainKeys := false, apart := false, narrowed := true }
def UniqTwiceUptoSaid : Prop := uniqTwiceUptoRow.holds Try.pinned (OpenSpec.upto uniqTwiceSpec)

/-- 'fenestralaw13.UniqOrder', WHERE WHAT IT READS IS OF BULK AT MOST 1048576: true; the input reads as it did. -/
def uniqOrderUptoRow : OpenClaim := { program := "ytfgiocgkkhoamaa", sum := "42e83b40667b3fe55722f00d0c578eba2a79d8aca3467ee3d86dcb6cb3f00c67", func := "fenestra/fenestralaw13.UniqOrder", spec := "uniqOrder", unfollowed := true, recurses := true, plainKeys := false, apart := false, narrowed := true }
def UniqOrderUptoSaid : Prop := uniqOrderUptoRow.holds Try.pinned (OpenSpec.upto uniqOrderSpec)

/-- 'fenestralaw16.DemandChecks', WHERE WHAT IT READS IS OF BULK AT MOST 1048576: true; the input reads as it did. -/
def demandChecksUptoRow : OpenClaim := { program := "ytfgiocgkkhoamaa", sum := "42e83b40667b3fe55722f00d0c578eba2a79d8aca3467ee3d86dcb6cb3f00c67", func := "fenestra/fenestralaw16.DemandChecks", spec := "demandChecks", unfollowed := true, recurses := true, plainKeys := false, apart := false, narrowed := true }
def DemandChecksUptoSaid : Prop := demandChecksUptoRow.holds Try.pinned (OpenSpec.upto demandChecksSpec)

/-- 'fenestralaw16.DemandLeasts', WHERE WHAT IT READS IS OF BULK AT MOST 1048576: true; the input reads as it did. -/
def demandLeastsUptoRow : OpenClaim := { program := "ytfgiocgkkhoamaa", sum := "42e83b40667b3fe55722f00d0c578eba2a79d8aca3467ee3d86dcb6cb3f00c67", func := "fenestra/fenestralaw16.DemandLeasts", spec := "demandLeasts", unfollowed := true, recurses := true, plainKeys := false, apart := false, narrowed := true }
def DemandLeastsUptoSaid : Prop := demandLeastsUptoRow.holds Try.pinned (OpenSpec.upto demandLeastsSpec)

/-- 'fenestralaw16.DemandSlacks', WHERE WHAT IT READS IS OF BULK AT MOST 1048576: true; the input reads as it did. -/
def demandSlacksUptoRow : OpenClaim := { program := "ytfgiocgkkhoamaa", sum := "42e83b40667b3fe55722f00d0c578eba2a79d8aca3467ee3d86dcb6cb3f00c67", func := "fenestra/fenestralaw16.DemandSlacks", spec := "demandSlacks", unfollowed := true, recurses := true, plainKeys := false, apart := false, narrowed := true }
def DemandSlacksUptoSaid : Prop := demandSlacksUptoRow.holds Try.pinned (OpenSpec.upto demandSlacksSpec)

/-- 'fenestralaw16.DemandLoads', WHERE WHAT IT READS IS OF BULK AT MOST 1048576: true; the input reads as it did. -/
def demandLoadsUptoRow : OpenClaim := { program := "ytfgiocgkkhoamaa", sum := "42e83b40667b3fe55722f00d0c578eba2a79d8aca3467ee3d86dcb6cb3f00c67", func := "fenestra/fenestralaw16.DemandLoads", spec := "demandLoads", inPlace := ["math/bits.Add64"], unfollowed := true, recurses := true, plainKeys := false, apart := false, narrowed := true }
def DemandLoadsUptoSaid : Prop := demandLoadsUptoRow.holds Try.pinned (OpenSpec.upto demandLoadsSpec)

/-- 'fenestralaw15.FrameChecks', WHERE WHAT IT READS IS OF BULK AT MOST 1048576: true; the input reads as it did. -/
def frameChecksUptoRow : OpenClaim := { program := "ytfgiocgkkhoamaa", sum := "42e83b40667b3fe55722f00d0c578eba2a79d8aca3467ee3d86dcb6cb3f00c67", func := "fenestra/fenestralaw15.FrameChecks", spec := "frameChecks", inPlace := ["math/bits.Add64"], unfollowed := true, recurses := true, plainKeys := false, apart := false, narrowed := true }
def FrameChecksUptoSaid : Prop := frameChecksUptoRow.holds Try.pinned (OpenSpec.upto frameChecksSpec)

/-- 'fenestralaw15.FrameCounts', WHERE WHAT IT READS IS OF BULK AT MOST 1048576: true; the input reads as it did. -/
def frameCountsUptoRow : OpenClaim := { program := "ytfgiocgkkhoamaa", sum := "42e83b40667b3fe55722f00d0c578eba2a79d8aca3467ee3d86dcb6cb3f00c67", func := "fenestra/fenestralaw15.FrameCounts", spec := "frameCounts", inPlace := ["math/bits.Add64"], unfollowed := true, recurses := true, plainKeys := false, apart := false, narrowed := true }
def FrameCountsUptoSaid : Prop := frameCountsUptoRow.holds Try.pinned (OpenSpec.upto frameCountsSpec)

/-- 'fenestralaw15.FrameAdds', WHERE WHAT IT READS IS OF BULK AT MOST 1048576: true; the input reads as it did. -/
def frameAddsUptoRow : OpenClaim := { program := "ytfgiocgkkhoamaa", sum := "42e83b40667b3fe55722f00d0c578eba2a79d8aca3467ee3d86dcb6cb3f00c67", func := "fenestra/fenestralaw15.FrameAdds", spec := "frameAdds", inPlace := ["math/bits.Add64"], unfollowed := true, recurses := true, plainKeys := false, apart := false, narrowed := true }
def FrameAddsUptoSaid : Prop := frameAddsUptoRow.holds Try.pinned (OpenSpec.upto frameAddsSpec)

/-- 'fenestralaw17.MemoryOwners', WHERE WHAT IT READS IS OF BULK AT MOST 1048576: true; the input reads as it did. -/
def memoryOwnersUptoRow : OpenClaim := { program := "ytfgiocgkkhoamaa", sum := "42e83b40667b3fe55722f00d0c578eba2a79d8aca3467ee3d86dcb6cb3f00c67", func := "fenestra/fenestralaw17.MemoryOwners", spec := "memoryOwners", unfollowed := true, recurses := true, plainKeys := false, apart := false, narrowed := true }
def MemoryOwnersUptoSaid : Prop := memoryOwnersUptoRow.holds Try.pinned (OpenSpec.upto memoryOwnersSpec)

/-- 'fenestralaw17.MemoryAllows', WHERE WHAT IT READS IS OF BULK AT MOST 1048576: true; the input reads as it did. -/
def memoryAllowsUptoRow : OpenClaim := { program := "ytfgiocgkkhoamaa", sum := "42e83b40667b3fe55722f00d0c578eba2a79d8aca3467ee3d86dcb6cb3f00c67", func := "fenestra/fenestralaw17.MemoryAllows", spec := "memoryAllows", unfollowed := true, recurses := true, plainKeys := false, apart := false, narrowed := true }
def MemoryAllowsUptoSaid : Prop := memoryAllowsUptoRow.holds Try.pinned (OpenSpec.upto memoryAllowsSpec)

/-- 'fenestralaw17.MemoryOwns', WHERE WHAT IT READS IS OF BULK AT MOST 1048576: true; the input reads as it did. -/
def memoryOwnsUptoRow : OpenClaim := { program := "ytfgiocgkkhoamaa", sum := "42e83b40667b3fe55722f00d0c578eba2a79d8aca3467ee3d86dcb6cb3f00c67", func := "fenestra/fenestralaw17.MemoryOwns", spec := "memoryOwns", unfollowed := true, recurses := true, plainKeys := false, apart := false, narrowed := true }
def MemoryOwnsUptoSaid : Prop := memoryOwnsUptoRow.holds Try.pinned (OpenSpec.upto memoryOwnsSpec)

/-- 'fenestralaw15.FrameFills', WHERE WHAT IT READS IS OF BULK AT MOST 1048576: true; the input reads as it did. -/
def frameFillsUptoRow : OpenClaim := { program := "ytfgiocgkkhoamaa", sum := "42e83b40667b3fe55722f00d0c578eba2a79d8aca3467ee3d86dcb6cb3f00c67", func := "fenestra/fenestralaw15.FrameFills", spec := "frameFills", inPlace := ["math/bits.Add64"], unfollowed := true, recurses := true, plainKeys := false, apart := false, narrowed := true }
def FrameFillsUptoSaid : Prop := frameFillsUptoRow.holds Try.pinned (OpenSpec.upto frameFillsSpec)

end Rows
end Go.Proofs.Ytfgiocgkkhoamaa
