/- what a block holds in every later world -/
import Derived.Test.YtlccbejhamkdoaaData
namespace Go.Proofs.Ytlccbejhamkdoaa
open Go.RowKit

theorem cells_later {w5 : World} {b : Nat} {cs : Array Value} {t : TypeId} (h : w5.heap[b]? = some (.cells cs t (0, 0))) (i : Nat) {v : Value} (hv : cs[i]? = some v) : ∀ W, Below w5.heap.size w5 W → W.cell? ⟨b, i, none⟩ = some v :=
  fun _ hW => cell_of_heap (heap_keep h hW) hv
theorem box_later {w5 : World} {b : Nat} {c : Cfg} {a1 a2 a3 a4 a5 : Option Addr} {k1 k2 k3 k4 k5 : Nat} {t : TypeId} (h : w5.heap[b]? = some (.cells (cfgCells c ⟨a1, k1, a2, k2, a3, k3, a4, k4, a5, k5⟩) t (0, 0))) :
    (∀ W, Below w5.heap.size w5 W → W.cell? ⟨b, 0, none⟩ = some (.int .u64 c.frame)) ∧ (∀ W, Below w5.heap.size w5 W → W.cell? ⟨b, 1, none⟩ = some (.slice a1 c.parts.length k1)) ∧
    (∀ W, Below w5.heap.size w5 W → W.cell? ⟨b, 2, none⟩ = some (.slice a2 c.wins.length k2)) ∧ (∀ W, Below w5.heap.size w5 W → W.cell? ⟨b, 3, none⟩ = some (.slice a3 c.regs.length k3)) ∧
    (∀ W, Below w5.heap.size w5 W → W.cell? ⟨b, 4, none⟩ = some (.slice a4 c.ports.length k4)) ∧ (∀ W, Below w5.heap.size w5 W → W.cell? ⟨b, 5, none⟩ = some (.slice a5 c.chans.length k5)) :=
  ⟨cells_later h 0 rfl, cells_later h 1 rfl, cells_later h 2 rfl, cells_later h 3 rfl, cells_later h 4 rfl, cells_later h 5 rfl⟩

end Go.Proofs.Ytlccbejhamkdoaa
