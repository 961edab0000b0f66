/- the walk of UniqChecks -/
import Derived.Test.YtlccbejhamkdoaaAlive13
import Derived.Test.YtlccbejhamkdoaaLater
namespace Go.Proofs.Ytlccbejhamkdoaa
open Go.RowKit



theorem Partitions_c' (w : World) (c : Cfg) (A : Adr) (hc : CfgAt w c A) (f : Int × Int × Int) (hf : dupFault 1 (dup2 (fd (c.parts.map (·.id)) c.parts.length) (fd (c.parts.map (·.name)) c.parts.length)) = f) :
    Calls Try.prog 14 #[cfgVal c A] w fun e w' => e = .returned (.agg #[.int .i64 f.1, .int .i64 f.2.1, .int .i64 f.2.2]) ∧ Below w.heap.size w w' := by
  subst hf; exact Partitions_c w c A hc
theorem Ports_c' (w : World) (c : Cfg) (A : Adr) (hc : CfgAt w c A) (f : Int × Int × Int) (hf : dupFault 4 (dup2 (fd (c.ports.map (·.id)) c.ports.length) (fd (c.ports.map (fun p => (p.part, p.name))) c.ports.length)) = f) :
    Calls Try.prog 16 #[cfgVal c A] w fun e w' => e = .returned (.agg #[.int .i64 f.1, .int .i64 f.2.1, .int .i64 f.2.2]) ∧ Below w.heap.size w w' := by
  subst hf; exact Ports_c w c A hc
theorem Channels_c' (w : World) (c : Cfg) (A : Adr) (hc : CfgAt w c A) (f : Int × Int × Int) (hf : dupFault 5 (fd (c.chans.map (·.id)) c.chans.length) = f) :
    Calls Try.prog 18 #[cfgVal c A] w fun e w' => e = .returned (.agg #[.int .i64 f.1, .int .i64 f.2.1, .int .i64 f.2.2]) ∧ Below w.heap.size w w' := by
  subst hf; exact Channels_c w c A hc



end Go.Proofs.Ytlccbejhamkdoaa
