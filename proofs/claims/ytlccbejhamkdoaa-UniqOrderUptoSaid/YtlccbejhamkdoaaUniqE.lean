/- uniq.first and the checks of uniq -/
import Derived.Test.YtlccbejhamkdoaaUniqD
import Derived.Test.YtlccbejhamkdoaaAux
namespace Go.Proofs.Ytlccbejhamkdoaa
open Go.RowKit

def faultV (f : Int × Int × Int) : Value := .agg #[.int .i64 f.1, .int .i64 f.2.1, .int .i64 f.2.2]
/-- the fault for an index that is not negative -/
def dupFault (sec i : Int) : Int × Int × Int := if 0 ≤ i then (18, sec, i) else (0, 0, 0)
theorem dupFault_pos {sec i : Int} (h : 0 ≤ i) : dupFault sec i = (18, sec, i) := by simp [dupFault, h]
theorem dupFault_neg {sec i : Int} (h : i < 0) : dupFault sec i = (0, 0, 0) := by
  have h' : ¬ 0 ≤ i := by omega
  simp [dupFault, h']
def firstNonneg : List Int → Int
  | [] => -1
  | x :: r => if 0 ≤ x then x else firstNonneg r

theorem firstNonneg_at {l : List Int} {k : Nat} {x : Int} (hx : l[k]? = some x) (h0 : 0 ≤ x) (hb : ∀ (j : Nat) (y : Int), j < k → l[j]? = some y → y < 0) : firstNonneg l = x := by
  induction l generalizing k with
  | nil => simp at hx
  | cons y l ih =>
    cases k with
    | zero => simp at hx; subst hx; simp [firstNonneg, h0]
    | succ k =>
      have hy := hb 0 y (by omega) rfl
      have : ¬ 0 ≤ y := by omega
      simp only [firstNonneg, this, if_false]
      exact ih (by simpa using hx) (fun j z hj hz => hb (j + 1) z (by omega) (by simpa using hz))
theorem firstNonneg_no {l : List Int} (hb : ∀ (j : Nat) (y : Int), j < l.length → l[j]? = some y → y < 0) : firstNonneg l = -1 := by
  induction l with
  | nil => rfl
  | cons y l ih =>
    have hy := hb 0 y (by simp) rfl
    have : ¬ 0 ≤ y := by omega
    simp only [firstNonneg, this, if_false]
    exact ih (fun j z hj hz => hb (j + 1) z (by simpa using hj) (by simpa using hz))

set_option maxHeartbeats 400000 in
theorem first_c (w : World) (sec : Int) (a : Option Addr) (cap : Nat) (l : List Int) (hrow : RowAt 1 (fun n => [.int .i64 n]) w a l) (hlen : l.length ≤ 1000) :
    Calls Try.prog 40 #[.int .i64 sec, .slice a l.length cap] w fun e w' => e = .returned (faultV (dupFault sec (firstNonneg l))) ∧ Below w.heap.size w w' := by
  obtain ⟨f, hf⟩ : ∃ f, dupFault sec (firstNonneg l) = f := ⟨_, rfl⟩
  rw [hf]
  have Hf := hid hf
  clear hf
  go_enter Try.func40, Try.ntmps40
  go_wp2
  go_loop [9] (fun i => ∃ k : Nat, k ≤ l.length ∧ i = .int .i64 k ∧ Hid (∀ (j : Nat) (y : Int), j < k → l[j]? = some y → y < 0)) (fun i => l.length - (intOf i).toNat)
  case atStart => exact ⟨0, Nat.zero_le _, rfl, fun j y hj => by omega⟩
  case round =>
    obtain ⟨k, hkn, rfl, Hk⟩ := hrel
    by_cases hlt : k < l.length
    · obtain ⟨b, o, rfl, hbs, h0⟩ := RowAt.one (enc := fun n => Value.int .i64 n) hrow hlt
      clear hrow
      by_cases hp : 0 ≤ l[k]
      · have hfin : Hid (f = (18, sec, l[k])) := by rw [← Hf.out, firstNonneg_at (x := l[k]) (by simp [hlt]) hp Hk.out, dupFault_pos hp]; rfl
        go_wp2
        exact bodyPost_ret (v := .agg #[.int .i64 18, .int .i64 sec, .int .i64 l[k]]) (by simp [results, Try.results40, go_sem]) rfl ⟨by rw [hfin.out]; rfl, below_new _ _⟩
      · have hnext : Hid (∀ (j : Nat) (y : Int), j < k + 1 → l[j]? = some y → y < 0) := by
          intro j y hj hy
          rcases Nat.lt_succ_iff_lt_or_eq.1 hj with h | rfl
          · exact Hk.out j y h hy
          · rw [List.getElem?_eq_getElem hlt] at hy; cases hy; omega
        go_wp2
        go_round
        case rel => exact ⟨k + 1, by omega, by go_num, hnext⟩
        case measure => simp [intOf]; omega
    · have hfin : Hid (f = (0, 0, 0)) := by
        rw [← Hf.out, firstNonneg_no (fun j y hj hy => Hk.out j y (by omega) hy), dupFault_neg (by omega)]; rfl
      go_wp2
      exact bodyPost_ret (v := .agg #[.int .i64 0, .int .i64 0, .int .i64 0]) (by simp [results, Try.results40, go_sem]) rfl ⟨by rw [hfin.out]; rfl, below_new _ _⟩

theorem first_c' (w : World) (sec : Int) (a : Option Addr) (cap : Nat) (l : List Int) (hrow : RowAt 1 (fun n => [.int .i64 n]) w a l) (hlen : l.length ≤ 1000) :
    Calls Try.prog 40 #[.int .i64 sec, .slice a l.length cap] w fun e w' => e = .returned (.agg #[.int .i64 (dupFault sec (firstNonneg l)).1, .int .i64 (dupFault sec (firstNonneg l)).2.1, .int .i64 (dupFault sec (firstNonneg l)).2.2]) ∧ Below w.heap.size w w' :=
  first_c w sec a cap l hrow hlen
theorem dup2_first {sec a b : Int} : dupFault sec (firstNonneg [a, b]) = dupFault sec (dup2 a b) := by
  by_cases h1 : 0 ≤ a <;> by_cases h2 : 0 ≤ b <;> simp [dup2, firstNonneg, dupFault, h1, h2]

set_option maxHeartbeats 2000000 in
theorem Partitions_c (w : World) (c : Cfg) (A : Adr) (hc : CfgAt w c A) :
    Calls Try.prog 14 #[cfgVal c A] w fun e w' => e = .returned (faultV (dupFault 1 (dup2 (fd (c.parts.map (·.id)) c.parts.length) (fd (c.parts.map (·.name)) c.parts.length)))) ∧ Below w.heap.size w w' := by
  have hmm := @run_makeMap Try.prog
  obtain ⟨a1, k1, a2, k2, a3, k3, a4, k4, a5, k5⟩ := A
  have hn := hc.ok.nparts
  rw [← dup2_first]
  simp only [cfgVal, cfgCells]
  go_enter Try.func14, Try.ntmps14
  go_wp2_with fail
  refine wp_name (fun W => Below w.heap.size w W ∧ W.heap.size = w.heap.size + 2 ∧ W.heap[w.heap.size]? = some (.cells (cfgCells c ⟨a1, k1, a2, k2, a3, k3, a4, k4, a5, k5⟩) 29 (0, 0)) ∧ W.heap[w.heap.size + 1]? = some (.cells #[.int .i64 0, .int .i64 0, .int .i64 0] 47 (0, 0))) ⟨(below_new _ _).alloc (by simp) _, by simp, by repeat (first | (refine heap_at ?_; simp; done) | refine heap_alloc' ?_ _), by repeat (first | (refine heap_at ?_; simp; done) | refine heap_alloc' ?_ _)⟩ ?_
  rintro w1 ⟨hb1, hs1, hbox, hres⟩
  clear hs1
  have hrow : RowAt 4 encPart w1 a1 c.parts := (hc.below hb1).parts
  have hl : c.parts.length ≤ 140737488351232 := by omega
  have e1 := (box_cfg hbox).2.1
  simp only at e1
  have hA : Below w1.heap.size w1 (w1.alloc (.map #[] 0)).drew := (below_new _ _).drew
  have hB : Below w1.heap.size w1 ((w1.alloc (.map #[] 0)).alloc (.map #[] 0)).drew := ((below_new _ _).alloc (by simp) _).drew
  have mA : Map16 (w1.alloc (.map #[] 0)).drew w1.heap.size [] := MapAt.new w1
  have mB : Map16 ((w1.alloc (.map #[] 0)).alloc (.map #[] 0)).drew w1.heap.size [] := (MapAt.new w1).below (below_new _ _).drew
  have mC : Map16 ((w1.alloc (.map #[] 0)).alloc (.map #[] 0)).drew (w1.heap.size + 1) [] := by have := MapAt.new (encK := Value.int .u16) (encV := Value.int .i64) (w1.alloc (.map #[] 0)); rw [World.size_alloc] at this; exact this.below (Below.refl _ _).drew
  have nB : MapStr ((w1.alloc (.map #[] 0)).alloc (.map #[] 0)).drew (w1.heap.size + 1) [] := by have := MapAt.new (encK := Value.string) (encV := Value.int .i64) (w1.alloc (.map #[] 0)); rw [World.size_alloc] at this; exact this.below (Below.refl _ _).drew
  have nC : MapStr ((w1.alloc (.map #[] 0)).alloc (.map #[] 0)).drew w1.heap.size [] := (MapAt.new w1).below (below_new _ _).drew
  clear hbox hc
  go_region_held3 (fun W => W.cell? ⟨w.heap.size, 1, none⟩ = some (.slice a1 c.parts.length k1)) (go_keep) (first
    | (go_at_call 41; (with_reducible refine (collectP16_c (w1.alloc (.map #[] 0)).drew a1 k1 w1.heap.size c.parts (hrow.below hA) hl mA).mono ?_); rintro e w2 ⟨rfl, hm2, hg2⟩; have hx2 : Below w1.heap.size w1 w2 := bgrown hA hg2 (by omega); have hrow2 := hrow.below hx2; clear hm2 hg2; have e2 : w2.cell? ⟨w.heap.size, 1, none⟩ = some (.slice a1 c.parts.length k1) := cell_below hx2 e1)
    | (go_at_call 41; (with_reducible refine (collectP16_c ((w1.alloc (.map #[] 0)).alloc (.map #[] 0)).drew a1 k1 w1.heap.size c.parts (hrow.below hB) hl mB).mono ?_); rintro e w2 ⟨rfl, hm2, hg2⟩; have hx2 : Below w1.heap.size w1 w2 := bgrown hB hg2 (by omega); have hrow2 := hrow.below hx2; have hn2 : MapStr w2 (w1.heap.size + 1) [] := nB.grown hg2 (by omega); clear hm2 hg2; have e2 : w2.cell? ⟨w.heap.size, 1, none⟩ = some (.slice a1 c.parts.length k1) := cell_below hx2 e1)
    | (go_at_call 41; (with_reducible refine (collectP16_c ((w1.alloc (.map #[] 0)).alloc (.map #[] 0)).drew a1 k1 (w1.heap.size + 1) c.parts (hrow.below hB) hl mC).mono ?_); rintro e w2 ⟨rfl, hm2, hg2⟩; have hx2 : Below w1.heap.size w1 w2 := bgrown hB hg2 (by omega); have hrow2 := hrow.below hx2; have hn2 : MapStr w2 w1.heap.size [] := nC.grown hg2 (by omega); clear hm2 hg2; have e2 : w2.cell? ⟨w.heap.size, 1, none⟩ = some (.slice a1 c.parts.length k1) := cell_below hx2 e1)
    | (go_at_call 44; (with_reducible refine (collectPStr_c (w2.alloc (.map #[] 0)) a1 k1 w2.heap.size c.parts (hrow2.below (below_new _ _)) hl (MapAt.new _)).mono ?_); rintro e w3 ⟨rfl, hm3, hg3⟩; have hx3 : Below w1.heap.size w1 w3 := bgrown (bthen hx2 (below_new _ _)) hg3 (by have := hx2.size; omega); clear hm3 hg3; have e3 : w3.cell? ⟨w.heap.size, 1, none⟩ = some (.slice a1 c.parts.length k1) := cell_below hx3 e1)
    | (go_at_call 44; (with_reducible refine (collectPStr_c w2 a1 k1 _ c.parts hrow2 hl hn2).mono ?_); rintro e w3 ⟨rfl, hm3, hg3⟩; have hx3 : Below w1.heap.size w1 w3 := bgrown hx2 hg3 (by omega); clear hm3 hg3; have e3 : w3.cell? ⟨w.heap.size, 1, none⟩ = some (.slice a1 c.parts.length k1) := cell_below hx3 e1)
    | (go_at_call 40; refine (first_c' _ 1 _ _ [fd (c.parts.map (·.id)) c.parts.length, fd (c.parts.map (·.name)) c.parts.length] (row_new w3 (Value.int .i64) [fd (c.parts.map (·.id)) c.parts.length, fd (c.parts.map (·.name)) c.parts.length] 3) (by simp)).mono ?_; rintro e w4 ⟨rfl, hb4⟩; have hx4 : Below w1.heap.size w1 w4 := bthen hx3 (bthen (below_new _ _) hb4); clear hb4; have e4 : w4.cell? ⟨w.heap.size, 1, none⟩ = some (.slice a1 c.parts.length k1) := cell_below hx4 e1; have hres4 := heap_keep hres hx4; have q0 := cell_of_heap (i := 0) hres4 rfl; have q1 := cell_of_heap (i := 1) hres4 rfl; have q2 := cell_of_heap (i := 2) hres4 rfl; have qf : ∀ i, w4.frozen? ⟨w.heap.size + 1, i, none⟩ = false := fun i => free_of_heap hres4))
  all_goals go_wp2
  all_goals
    refine bodyPost_fault rfl rfl rfl (set3 hres4 _ _ _) ⟨rfl, ?_⟩
    exact (((bthen hb1 hx4).setCell (p := ⟨w.heap.size + 1, 0, none⟩) (by simp) _).setCell (p := ⟨w.heap.size + 1, 1, none⟩) (by simp) _).setCell (p := ⟨w.heap.size + 1, 2, none⟩) (by simp) _
end Go.Proofs.Ytlccbejhamkdoaa
