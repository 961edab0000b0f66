/- uniq.Ports and uniq.Channels -/
import Derived.Test.YtlccbejhamkdoaaUniqE
namespace Go.Proofs.Ytlccbejhamkdoaa
open Go.RowKit

set_option maxHeartbeats 2000000 in
theorem Ports_c (w : World) (c : Cfg) (A : Adr) (hc : CfgAt w c A) :
    Calls Try.prog 16 #[cfgVal c A] w fun e w' => e = .returned (faultV (dupFault 4 (dup2 (fd (c.ports.map (·.id)) c.ports.length) (fd (c.ports.map (fun p => (p.part, p.name))) c.ports.length)))) ∧ Below w.heap.size w w' := by
  have hmm := @run_makeMap Try.prog
  obtain ⟨a1, k1, a2, k2, a3, k3, a4, k4, a5, k5⟩ := A
  have hn := hc.ok.nports
  rw [← dup2_first]
  simp only [cfgVal, cfgCells]
  go_enter Try.func16, Try.ntmps16
  go_wp2_with fail
  refine wp_name (fun W => Below w.heap.size w W ∧ W.heap.size = w.heap.size + 2 ∧ W.heap[w.heap.size]? = some (.cells (cfgCells c ⟨a1, k1, a2, k2, a3, k3, a4, k4, a5, k5⟩) 29 (0, 0)) ∧ W.heap[w.heap.size + 1]? = some (.cells #[.int .i64 0, .int .i64 0, .int .i64 0] 47 (0, 0))) ⟨(below_new _ _).alloc (by simp) _, by simp, by repeat (first | (refine heap_at ?_; simp; done) | refine heap_alloc' ?_ _), by repeat (first | (refine heap_at ?_; simp; done) | refine heap_alloc' ?_ _)⟩ ?_
  rintro w1 ⟨hb1, hs1, hbox, hres⟩
  clear hs1
  have hrow : RowAt 6 encPrt w1 a4 c.ports := (hc.below hb1).ports
  have hl : c.ports.length ≤ 140737488351232 := by omega
  have e1 := (box_cfg hbox).2.2.2.2.1
  simp only at e1
  have hA : Below w1.heap.size w1 (w1.alloc (.map #[] 0)).drew := (below_new _ _).drew
  have hB : Below w1.heap.size w1 ((w1.alloc (.map #[] 0)).alloc (.map #[] 0)).drew := ((below_new _ _).alloc (by simp) _).drew
  have mA : Map16 (w1.alloc (.map #[] 0)).drew w1.heap.size [] := MapAt.new w1
  have mB : Map16 ((w1.alloc (.map #[] 0)).alloc (.map #[] 0)).drew w1.heap.size [] := (MapAt.new w1).below (below_new _ _).drew
  have mC : Map16 ((w1.alloc (.map #[] 0)).alloc (.map #[] 0)).drew (w1.heap.size + 1) [] := by have := MapAt.new (encK := Value.int .u16) (encV := Value.int .i64) (w1.alloc (.map #[] 0)); rw [World.size_alloc] at this; exact this.below (Below.refl _ _).drew
  have nB : MapNm ((w1.alloc (.map #[] 0)).alloc (.map #[] 0)).drew (w1.heap.size + 1) [] := by have := MapAt.new (encK := namedVal) (encV := Value.int .i64) (w1.alloc (.map #[] 0)); rw [World.size_alloc] at this; exact this.below (Below.refl _ _).drew
  have nC : MapNm ((w1.alloc (.map #[] 0)).alloc (.map #[] 0)).drew w1.heap.size [] := (MapAt.new w1).below (below_new _ _).drew
  clear hbox hc
  go_region_held3 (fun W => W.cell? ⟨w.heap.size, 4, none⟩ = some (.slice a4 c.ports.length k4)) (go_keep) (first
    | (go_at_call 48; (with_reducible refine (collectO16_c (w1.alloc (.map #[] 0)).drew a4 k4 w1.heap.size c.ports (hrow.below hA) hl mA).mono ?_); rintro e w2 ⟨rfl, hm2, hg2⟩; have hx2 : Below w1.heap.size w1 w2 := bgrown hA hg2 (by omega); have hrow2 := hrow.below hx2; clear hm2 hg2; have e2 : w2.cell? ⟨w.heap.size, 4, none⟩ = some (.slice a4 c.ports.length k4) := cell_below hx2 e1)
    | (go_at_call 48; (with_reducible refine (collectO16_c ((w1.alloc (.map #[] 0)).alloc (.map #[] 0)).drew a4 k4 w1.heap.size c.ports (hrow.below hB) hl mB).mono ?_); rintro e w2 ⟨rfl, hm2, hg2⟩; have hx2 : Below w1.heap.size w1 w2 := bgrown hB hg2 (by omega); have hrow2 := hrow.below hx2; have hn2 : MapNm w2 (w1.heap.size + 1) [] := nB.grown hg2 (by omega); clear hm2 hg2; have e2 : w2.cell? ⟨w.heap.size, 4, none⟩ = some (.slice a4 c.ports.length k4) := cell_below hx2 e1)
    | (go_at_call 48; (with_reducible refine (collectO16_c ((w1.alloc (.map #[] 0)).alloc (.map #[] 0)).drew a4 k4 (w1.heap.size + 1) c.ports (hrow.below hB) hl mC).mono ?_); rintro e w2 ⟨rfl, hm2, hg2⟩; have hx2 : Below w1.heap.size w1 w2 := bgrown hB hg2 (by omega); have hrow2 := hrow.below hx2; have hn2 : MapNm w2 w1.heap.size [] := nC.grown hg2 (by omega); clear hm2 hg2; have e2 : w2.cell? ⟨w.heap.size, 4, none⟩ = some (.slice a4 c.ports.length k4) := cell_below hx2 e1)
    | (go_at_call 50; (with_reducible refine (collectONm_c (w2.alloc (.map #[] 0)) a4 k4 w2.heap.size c.ports (hrow2.below (below_new _ _)) hl (MapAt.new _)).mono ?_); rintro e w3 ⟨rfl, hm3, hg3⟩; have hx3 : Below w1.heap.size w1 w3 := bgrown (bthen hx2 (below_new _ _)) hg3 (by have := hx2.size; omega); clear hm3 hg3; have e3 : w3.cell? ⟨w.heap.size, 4, none⟩ = some (.slice a4 c.ports.length k4) := cell_below hx3 e1)
    | (go_at_call 50; (with_reducible refine (collectONm_c w2 a4 k4 _ c.ports hrow2 hl hn2).mono ?_); rintro e w3 ⟨rfl, hm3, hg3⟩; have hx3 : Below w1.heap.size w1 w3 := bgrown hx2 hg3 (by omega); clear hm3 hg3; have e3 : w3.cell? ⟨w.heap.size, 4, none⟩ = some (.slice a4 c.ports.length k4) := cell_below hx3 e1)
    | (go_at_call 40; refine (first_c' _ 4 _ _ [fd (c.ports.map (·.id)) c.ports.length, fd (c.ports.map (fun p => (p.part, p.name))) c.ports.length] (row_new w3 (Value.int .i64) [fd (c.ports.map (·.id)) c.ports.length, fd (c.ports.map (fun p => (p.part, p.name))) c.ports.length] 3) (by simp)).mono ?_; rintro e w4 ⟨rfl, hb4⟩; have hx4 : Below w1.heap.size w1 w4 := bthen hx3 (bthen (below_new _ _) hb4); clear hb4; have e4 : w4.cell? ⟨w.heap.size, 4, none⟩ = some (.slice a4 c.ports.length k4) := cell_below hx4 e1; have hres4 := heap_keep hres hx4; have q0 := cell_of_heap (i := 0) hres4 rfl; have q1 := cell_of_heap (i := 1) hres4 rfl; have q2 := cell_of_heap (i := 2) hres4 rfl; have qf : ∀ i, w4.frozen? ⟨w.heap.size + 1, i, none⟩ = false := fun i => free_of_heap hres4))
  all_goals go_wp2
  all_goals
    refine bodyPost_fault rfl rfl rfl (set3 hres4 _ _ _) ⟨rfl, ?_⟩
    exact (((bthen hb1 hx4).setCell (p := ⟨w.heap.size + 1, 0, none⟩) (by simp) _).setCell (p := ⟨w.heap.size + 1, 1, none⟩) (by simp) _).setCell (p := ⟨w.heap.size + 1, 2, none⟩) (by simp) _

theorem dup1_first {sec a : Int} : dupFault sec (firstNonneg [a]) = dupFault sec a := by
  by_cases h1 : 0 ≤ a <;> simp [firstNonneg, dupFault, h1]

set_option maxHeartbeats 400000 in
theorem Channels_c (w : World) (c : Cfg) (A : Adr) (hc : CfgAt w c A) :
    Calls Try.prog 18 #[cfgVal c A] w fun e w' => e = .returned (faultV (dupFault 5 (fd (c.chans.map (·.id)) c.chans.length))) ∧ Below w.heap.size w w' := by
  have hmm := @run_makeMap Try.prog
  obtain ⟨a1, k1, a2, k2, a3, k3, a4, k4, a5, k5⟩ := A
  have hn := hc.ok.nchans
  rw [← dup1_first]
  obtain ⟨w1, hw1⟩ : ∃ w1, w1 = (w.alloc (.cells (cfgCells c ⟨a1, k1, a2, k2, a3, k3, a4, k4, a5, k5⟩) 29)).alloc (.cells #[.int .i64 0, .int .i64 0, .int .i64 0] 47) := ⟨_, rfl⟩
  have hb1 : Below w.heap.size w w1 := by rw [hw1]; exact (below_new _ _).alloc (by simp) _
  have hres : w1.heap[w.heap.size + 1]? = some (.cells #[.int .i64 0, .int .i64 0, .int .i64 0] 47 (0, 0)) := by rw [hw1]; exact heap_at (by simp)
  have hrow : ChnAt w1 a5 c.chans := (hc.below hb1).chans
  have hm1 : Map16 (w1.alloc (.map #[] 0)) w1.heap.size [] := MapAt.new w1
  have hs1 : w1.heap.size = w.heap.size + 2 := by rw [hw1]; simp
  have hcc := collectC16_c (w1.alloc (.map #[] 0)) a5 k5 w1.heap.size c.chans (hrow.below (below_new _ _)) (by omega) hm1
  rw [hs1, hw1] at hcc
  have Hcc := hid hcc
  clear hcc hc hrow hm1 hn
  simp only [cfgVal, cfgCells]
  go_enter Try.func18, Try.ntmps18
  go_wp2_with fail
  refine Hcc.out.mono ?_
  rintro e w2 ⟨rfl, -, hg2⟩
  rw [← hw1] at hg2
  have hx2 : Below w1.heap.size w1 w2 := bgrown (below_new _ _) hg2 (by omega)
  clear hg2 Hcc
  go_wp2_with fail
  refine (first_c' _ 5 _ _ [fd (c.chans.map (·.id)) c.chans.length] (row_new w2 (Value.int .i64) [fd (c.chans.map (·.id)) c.chans.length] 3) (by simp)).mono ?_
  rintro e w4 ⟨rfl, hb4⟩
  have hx4 : Below w1.heap.size w1 w4 := bthen hx2 (bthen (below_new _ _) hb4)
  have hres4 := heap_keep hres hx4
  have q0 := cell_of_heap (i := 0) hres4 rfl
  have q1 := cell_of_heap (i := 1) hres4 rfl
  have q2 := cell_of_heap (i := 2) hres4 rfl
  have qf : ∀ i, w4.frozen? ⟨w.heap.size + 1, i, none⟩ = false := fun i => free_of_heap hres4
  clear hb4 hw1 hs1 hx2 hres
  go_wp2
  refine bodyPost_fault rfl rfl rfl (set3 hres4 _ _ _) ⟨rfl, ?_⟩
  exact (((bthen hb1 hx4).setCell (p := ⟨w.heap.size + 1, 0, none⟩) (by simp) _).setCell (p := ⟨w.heap.size + 1, 1, none⟩) (by simp) _).setCell (p := ⟨w.heap.size + 1, 2, none⟩) (by simp) _
end Go.Proofs.Ytlccbejhamkdoaa
