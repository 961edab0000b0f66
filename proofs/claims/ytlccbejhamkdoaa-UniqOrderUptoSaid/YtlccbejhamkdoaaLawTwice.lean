/- the walk of UniqTwice -/
import Derived.Test.YtlccbejhamkdoaaLawChecks
import Derived.Test.YtlccbejhamkdoaaClone
namespace Go.Proofs.Ytlccbejhamkdoaa
open Go.RowKit

theorem refParts_n (w : World) (c : Cfg) (A : Adr) (hc : CfgAt w c A) (p : Int) (hp : dup2 (fd (c.parts.map (·.id)) c.parts.length) (fd (c.parts.map (·.name)) c.parts.length) = p) :
    Calls Try.prog 15 #[cfgVal c A] w fun e w' => e = .returned (.int .i64 p) ∧ Below w.heap.size w w' := by
  subst hp; exact refPartitions_c w c A hc
theorem refPorts_n (w : World) (c : Cfg) (A : Adr) (hc : CfgAt w c A) (p : Int) (hp : dup2 (fd (c.ports.map (·.id)) c.ports.length) (fd (c.ports.map (fun p => (p.part, p.name))) c.ports.length) = p) :
    Calls Try.prog 17 #[cfgVal c A] w fun e w' => e = .returned (.int .i64 p) ∧ Below w.heap.size w w' := by
  subst hp; exact refPorts_c w c A hc
theorem refChans_n (w : World) (c : Cfg) (A : Adr) (hc : CfgAt w c A) (p : Int) (hp : fd (c.chans.map (·.id)) c.chans.length = p) :
    Calls Try.prog 19 #[cfgVal c A] w fun e w' => e = .returned (.int .i64 p) ∧ Below w.heap.size w w' := by
  subst hp; exact refChannels_c w c A hc
theorem box_keep {w w' : World} {b : Nat} {c : Cfg} {A : Adr} {t : TypeId} (h : w.heap[b]? = some (.cells (cfgCells c A) t (0, 0))) (hb : Below w.heap.size w w') : w'.heap[b]? = some (.cells (cfgCells c A) t (0, 0)) := heap_keep h hb


end Go.Proofs.Ytlccbejhamkdoaa
