/- the reference's checks of windows (layer 15), Few and Check of layer 16 -/
import Derived.Test.YtlccbejhamkdoaaDem16B
import Derived.Test.YtlccbejhamkdoaaFew
namespace Go.Proofs.Ytlccbejhamkdoaa
open Go.RowKit

theorem last_c (w : World) (lo len : Int) (h0 : 0 ≤ lo) (h1 : 0 < len) (h2 : lo + len ≤ 18446744073709551615) :
    Calls Try.prog 119 #[.agg #[.int .u64 lo, .int .u64 len]] w fun e w' => e = .returned (.int .u64 (lo + (len - 1))) ∧ Below w.heap.size w w' := by
  go_enter Try.func119, Try.ntmps119
  go_wp2
  go_ret
  exact ⟨rfl, below_new _ _⟩
theorem has_c (w : World) (lo len x : Int) (h0 : 0 ≤ lo) (h1 : 0 < len) (h2 : lo + len ≤ 18446744073709551615) :
    Calls Try.prog 106 #[.agg #[.int .u64 lo, .int .u64 len], .int .u64 x] w fun e w' => e = .returned (.bool (decide (lo ≤ x ∧ x ≤ lo + (len - 1)))) ∧ Below w.heap.size w w' := by
  obtain ⟨r, hr⟩ : ∃ r, decide (lo ≤ x ∧ x ≤ lo + (len - 1)) = r := ⟨_, rfl⟩
  rw [hr]
  by_cases hx : lo ≤ x
  · have Hr : Hid (decide (x ≤ lo + (len - 1)) = r) := by show _ = _; rw [← hr]; simp [hx]
    clear hr
    go_enter Try.func106, Try.ntmps106
    go_wp2_with fail
    refine (last_c _ lo len h0 h1 h2).mono ?_
    rintro e w2 ⟨rfl, hb2⟩
    have hbf := bthen (below_new w _) hb2
    clear hb2
    go_wp2
    go_ret
    exact ⟨ret_bool Hr.out, hbf⟩
  · have Hr : Hid (false = r) := by show _ = _; rw [← hr]; simp [hx]
    clear hr
    go_enter Try.func106, Try.ntmps106
    go_wp2
    go_ret
    exact ⟨ret_bool Hr.out, below_new _ _⟩
/-- whether two windows have a tick in common -/
def meets (x y : Win) : Bool := decide (x.start ≤ y.start ∧ y.start ≤ x.start + (x.len - 1)) || decide (y.start ≤ x.start ∧ x.start ≤ y.start + (y.len - 1))
theorem meets_free {x y : Win} (h : meets x y = false) : Free x y := by
  unfold meets at h
  rw [Bool.or_eq_false_iff, decide_eq_false_iff_not, decide_eq_false_iff_not] at h
  unfold Free
  omega
theorem meet_c (w : World) (x y : Win) (h0 : 0 ≤ x.start) (h1 : 0 < x.len) (h2 : x.start + x.len ≤ 18446744073709551615) (g0 : 0 ≤ y.start) (g1 : 0 < y.len) (g2 : y.start + y.len ≤ 18446744073709551615) :
    Calls Try.prog 94 #[.agg #[.int .u64 x.start, .int .u64 x.len], .agg #[.int .u64 y.start, .int .u64 y.len]] w fun e w' => e = .returned (.bool (meets x y)) ∧ Below w.heap.size w w' := by
  obtain ⟨r, hr⟩ : ∃ r, meets x y = r := ⟨_, rfl⟩
  rw [hr]
  have hcall := fun w => has_c w x.start x.len y.start h0 h1 h2
  obtain ⟨d1, hd1⟩ : ∃ d1, decide (x.start ≤ y.start ∧ y.start ≤ x.start + (x.len - 1)) = d1 := ⟨_, rfl⟩
  rw [hd1] at hcall
  unfold meets at hr
  rw [hd1] at hr
  have Hr := hid hr
  have Hcall := hid hcall
  clear hcall hr hd1
  go_enter Try.func94, Try.ntmps94
  go_wp2_with fail
  refine (Hcall.out _).mono ?_
  rintro e w2 ⟨rfl, hb2⟩
  have hbf := bthen ((below_new w _).alloc (by simp) _) hb2
  have hbx := heap_keep (heap_alloc' (heap_new w (.cells #[.int .u64 x.start, .int .u64 x.len] 133)) (.cells #[.int .u64 y.start, .int .u64 y.len] 133)) hb2
  have hby := heap_keep (heap_new (w.alloc (.cells #[.int .u64 x.start, .int .u64 x.len] 133)) (.cells #[.int .u64 y.start, .int .u64 y.len] 133)) hb2
  simp only [World.size_alloc] at hby
  have q0 := cell_of_heap (i := 0) hbx rfl
  have q1 := cell_of_heap (i := 1) hbx rfl
  have r0 := cell_of_heap (i := 0) hby rfl
  have r1 := cell_of_heap (i := 1) hby rfl
  clear hb2 hbx hby Hcall
  cases d1
  · go_wp2_with fail
    refine (has_c _ y.start y.len x.start g0 g1 g2).mono ?_
    rintro e w3 ⟨rfl, hb3⟩
    have hbf := bthen hbf hb3
    clear hb3
    have Hr2 : Hid (decide (y.start ≤ x.start ∧ x.start ≤ y.start + (y.len - 1)) = r) := Hr.out
    obtain ⟨d2, hd2⟩ : ∃ d2, decide (y.start ≤ x.start ∧ x.start ≤ y.start + (y.len - 1)) = d2 := ⟨_, rfl⟩
    rw [hd2] at Hr2 ⊢
    clear hd2
    go_wp2
    go_ret
    exact ⟨ret_bool Hr2.out, hbf⟩
  · have Hr2 : Hid (true = r) := Hr.out
    go_wp2
    go_ret
    exact ⟨ret_bool Hr2.out, hbf⟩

theorem bodyPost_two {fn : Func} {R : Ending → World → Prop} {a : Act} {w : World} {p : Tmp} (hres : fn.results = #[.cell p 133]) (hd : a.defers = []) {b : Nat} (hp : a.tmps.getD p undef = .pointer (some ⟨b, 0, none⟩))
    {x0 x1 : Value} {t : TypeId} {f : Nat × Nat} (hh : w.heap[b]? = some (.cells #[x0, x1] t f)) (hR : R (.returned (.agg #[x0, x1])) w) : bodyPost Try.prog fn R .ret a w := by
  have h0 : w.cell? ⟨b, 0, none⟩ = some x0 := cell_of_heap hh rfl
  have h1 : w.cell? ⟨b, 1, none⟩ = some x1 := cell_of_heap hh rfl
  refine bodyPost_ret (v := .agg #[x0, x1]) ?_ hd hR
  simp only [Array.getD_eq_getD_getElem?] at hp
  simp [results, hres, go_sem, hp, h0, h1]
theorem span_c (w : World) (x : Win) :
    Calls Try.prog 95 #[.agg #[.int .u64 x.start, .int .u64 x.len, .int .u16 x.part]] w fun e w' => e = .returned (.agg #[.int .u64 x.start, .int .u64 x.len]) ∧ Below w.heap.size w w' := by
  go_enter Try.func95, Try.ntmps95
  go_wp2
  refine bodyPost_two rfl rfl rfl (b := w.heap.size + 1) (x0 := .int .u64 x.start) (x1 := .int .u64 x.len) (by repeat (first | (refine heap_at ?_; simp; done) | refine heap_alloc' ?_ _)) ⟨rfl, (below_new _ _).alloc (by simp) _⟩
end Go.Proofs.Ytlccbejhamkdoaa
