/- small laws: stores into a block of the call's own; a result that lies in memory -/
import Derived.Test.YtlccbejhamkdoaaOwn
import Derived.Test.YtlccbejhamkdoaaChecked
namespace Go.Proofs.Ytlccbejhamkdoaa
open Go.RowKit

theorem heap_set {w : World} {b i : Nat} {cs : Array Value} {t : TypeId} {f : Nat × Nat} (h : w.heap[b]? = some (.cells cs t f)) (v : Value) :
    (w.setCell ⟨b, i, none⟩ v).heap[b]? = some (.cells (cs.setIfInBounds i v) t f) := by
  unfold World.setCell
  simp only [Array.getElem?_modify, h]
  simp
theorem heap_set_ne {w : World} {b i n : Nat} {o : Obj} (h : w.heap[n]? = some o) (hne : n ≠ b) (v : Value) : (w.setCell ⟨b, i, none⟩ v).heap[n]? = some o := by
  rw [Below.heap_setCell _ _ _ _ hne]; exact h
theorem set3 {w : World} {b : Nat} {a0 a1 a2 : Value} {t : TypeId} {f : Nat × Nat} (h : w.heap[b]? = some (.cells #[a0, a1, a2] t f)) (x0 x1 x2 : Value) :
    (((w.setCell ⟨b, 0, none⟩ x0).setCell ⟨b, 1, none⟩ x1).setCell ⟨b, 2, none⟩ x2).heap[b]? = some (.cells #[x0, x1, x2] t f) := by
  rw [heap_set (heap_set (heap_set h x0) x1) x2]; rfl

theorem set7 {w : World} {b : Nat} {a0 a1 a2 a3 a4 a5 a6 : Value} {t : TypeId} {f : Nat × Nat} (h : w.heap[b]? = some (.cells #[a0, a1, a2, a3, a4, a5, a6] t f)) (x0 x1 x2 x3 x4 x5 x6 : Value) :
    (((((((w.setCell ⟨b, 0, none⟩ x0).setCell ⟨b, 1, none⟩ x1).setCell ⟨b, 2, none⟩ x2).setCell ⟨b, 3, none⟩ x3).setCell ⟨b, 4, none⟩ x4).setCell ⟨b, 5, none⟩ x5).setCell ⟨b, 6, none⟩ x6).heap[b]? = some (.cells #[x0, x1, x2, x3, x4, x5, x6] t f) := by
  rw [heap_set (heap_set (heap_set (heap_set (heap_set (heap_set (heap_set h x0) x1) x2) x3) x4) x5) x6]; rfl
theorem bset {w W : World} {b : Nat} (h : Below w.heap.size w W) (hb : w.heap.size ≤ b) (i : Nat) (v : Value) : Below w.heap.size w (W.setCell ⟨b, i, none⟩ v) := h.setCell (p := ⟨b, i, none⟩) hb v

theorem bodyPost_fault {fn : Func} {R : Ending → World → Prop} {a : Act} {w : World} {p : Tmp} (hres : fn.results = #[.cell p 47]) (hd : a.defers = []) {b : Nat} (hp : a.tmps.getD p undef = .pointer (some ⟨b, 0, none⟩))
    {x0 x1 x2 : Value} {t : TypeId} {f : Nat × Nat} (hh : w.heap[b]? = some (.cells #[x0, x1, x2] t f)) (hR : R (.returned (.agg #[x0, x1, x2])) w) : bodyPost Try.prog fn R .ret a w := by
  have h0 : w.cell? ⟨b, 0, none⟩ = some x0 := cell_of_heap hh rfl
  have h1 : w.cell? ⟨b, 1, none⟩ = some x1 := cell_of_heap hh rfl
  have h2 : w.cell? ⟨b, 2, none⟩ = some x2 := cell_of_heap hh rfl
  refine bodyPost_ret (v := .agg #[x0, x1, x2]) ?_ hd hR
  simp only [Array.getD_eq_getD_getElem?] at hp
  simp [results, hres, go_sem, hp, h0, h1, h2]
theorem bodyPost_seven {fn : Func} {R : Ending → World → Prop} {a : Act} {w : World} {p : Tmp} (hres : fn.results = #[.cell p 58]) (hd : a.defers = []) {b : Nat} (hp : a.tmps.getD p undef = .pointer (some ⟨b, 0, none⟩))
    {x0 x1 x2 x3 x4 x5 x6 : Value} {t : TypeId} {f : Nat × Nat} (hh : w.heap[b]? = some (.cells #[x0, x1, x2, x3, x4, x5, x6] t f)) (hR : R (.returned (.agg #[x0, x1, x2, x3, x4, x5, x6])) w) : bodyPost Try.prog fn R .ret a w := by
  have h0 : w.cell? ⟨b, 0, none⟩ = some x0 := cell_of_heap hh rfl
  have h1 : w.cell? ⟨b, 1, none⟩ = some x1 := cell_of_heap hh rfl
  have h2 : w.cell? ⟨b, 2, none⟩ = some x2 := cell_of_heap hh rfl
  have h3 : w.cell? ⟨b, 3, none⟩ = some x3 := cell_of_heap hh rfl
  have h4 : w.cell? ⟨b, 4, none⟩ = some x4 := cell_of_heap hh rfl
  have h5 : w.cell? ⟨b, 5, none⟩ = some x5 := cell_of_heap hh rfl
  have h6 : w.cell? ⟨b, 6, none⟩ = some x6 := cell_of_heap hh rfl
  refine bodyPost_ret (v := .agg #[x0, x1, x2, x3, x4, x5, x6]) ?_ hd hR
  simp only [Array.getD_eq_getD_getElem?] at hp
  simp [results, hres, go_sem, hp, h0, h1, h2, h3, h4, h5, h6]
end Go.Proofs.Ytlccbejhamkdoaa
