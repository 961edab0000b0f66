/- the index of a configuration -/
import Derived.Test.YtlccbejhamkdoaaUniqB
import Derived.Deep.RegionHeld3
namespace Go.Proofs.Ytlccbejhamkdoaa
open Go.RowKit

/-- what an index holds -/
structure IdxAt (w : World) (x : Nat) (c : Cfg) (r1 r2 r3 r4 : Nat) : Prop where
  cells : w.heap[x]? = some (.cells #[.map (some r1), .map (some r2), .map (some r3), .map (some r4)] 110 (0, 0))
  parts : Map16 w r1 (fm (c.parts.map (·.id)) c.parts.length)
  ports : Map16 w r2 (fm (c.ports.map (·.id)) c.ports.length)
  chans : Map16 w r3 (fm (c.chans.map (·.id)) c.chans.length)
  names : MapNm w r4 (fm (c.ports.map (fun p => (p.part, p.name))) c.ports.length)

theorem IdxAt.below {w w' : World} {x : Nat} {c : Cfg} {r1 r2 r3 r4 : Nat} (h : IdxAt w x c r1 r2 r3 r4) (hb : Below w.heap.size w w') : IdxAt w' x c r1 r2 r3 r4 :=
  ⟨heap_keep h.cells hb, h.parts.below hb, h.ports.below hb, h.chans.below hb, h.names.below hb⟩

theorem New_c (w : World) (c : Cfg) (A : Adr) (hc : CfgAt w c A) :
    Calls Try.prog 35 #[cfgVal c A] w fun e w' => ∃ x r1 r2 r3 r4, e = .returned (.pointer (some ⟨x, 0, none⟩)) ∧ IdxAt w' x c r1 r2 r3 r4 ∧ Below w.heap.size w w' := by
  have hmm := @run_makeMap Try.prog
  unfold cfgVal cfgCells
  go_enter Try.func35, Try.ntmps35
  go_wp2_with fail
  refine wp_name (fun W => Below w.heap.size w W ∧ W.heap.size = w.heap.size + 6 ∧ W.heap[w.heap.size]? = some (.cells (cfgCells c A) 29 (0, 0)) ∧
      W.heap[w.heap.size + 1 + 1 + 1 + 1 + 1]? = some (.cells #[.map (some (w.heap.size + 1)), .map (some (w.heap.size + 1 + 1)), .map (some (w.heap.size + 1 + 1 + 1)), .map (some (w.heap.size + 1 + 1 + 1 + 1))] 110 (0, 0)) ∧
      Map16 W (w.heap.size + 1) [] ∧ Map16 W (w.heap.size + 1 + 1) [] ∧ Map16 W (w.heap.size + 1 + 1 + 1) [] ∧ MapNm W (w.heap.size + 1 + 1 + 1 + 1) []) ?_ ?_
  · refine ⟨?_, by simp, (by repeat (first | (refine heap_at ?_; simp; done) | refine heap_alloc' ?_ _)), (by repeat (first | (refine heap_at ?_; simp; done) | refine heap_alloc' ?_ _)), ⟨#[], 0, (by repeat (first | (refine heap_at ?_; simp; done) | refine heap_alloc' ?_ _)), rfl⟩, ⟨#[], 0, (by repeat (first | (refine heap_at ?_; simp; done) | refine heap_alloc' ?_ _)), rfl⟩, ⟨#[], 0, (by repeat (first | (refine heap_at ?_; simp; done) | refine heap_alloc' ?_ _)), rfl⟩, ⟨#[], 0, (by repeat (first | (refine heap_at ?_; simp; done) | refine heap_alloc' ?_ _)), rfl⟩⟩
    exact (((((below_new _ _).alloc (by simp) _).alloc (by simp; omega) _).alloc (by simp; omega) _).alloc (by simp; omega) _).alloc (by simp; omega) _
  rintro w1 ⟨hb1, hs1, hbox1, hidx1, hm1, hm2, hm3, hm4⟩
  have hp1 : RowAt 4 encPart w1.drew A.a1 c.parts := (hc.below hb1).parts
  have hl1 : c.parts.length ≤ 140737488351232 := by have := hc.ok.nparts; omega
  have d1 := cell_of_heap (i := 0) hidx1 rfl
  have b1 := (box_cfg hbox1).2.1
  go_region_held3 (fun W => W.cell? ⟨w.heap.size, 1, none⟩ = some (.slice A.a1 c.parts.length A.k1) ∧ W.cell? ⟨w.heap.size + 1 + 1 + 1 + 1 + 1, 0, none⟩ = some (.map (some (w.heap.size + 1)))) (go_keep) (first | (go_at_call 41; refine (collectP16_c w1.drew A.a1 A.k1 (w.heap.size + 1) c.parts hp1 hl1 hm1).mono ?_; rintro e w2 ⟨rfl, hn1, hg1'⟩; have hg1 := undrew hg1'; clear hg1'; have hbox2 := heap_grown hg1 hbox1 (by omega); have hidx2 := heap_grown hg1 hidx1 (by omega); have eb := (box_cfg hbox2).2.1; have ed := cell_of_heap (i := 0) hidx2 rfl))
  have hb2 : Below w.heap.size w w2 := bgrown hb1 hg1 (by omega)
  have hm2' := MapAt.grown hm2 hg1 (by omega)
  clear hm2
  have hm2 := hm2'
  clear hm2'
  have hm3' := MapAt.grown hm3 hg1 (by omega)
  clear hm3
  have hm3 := hm3'
  clear hm3'
  have hm4' := MapAt.grown hm4 hg1 (by omega)
  clear hm4
  have hm4 := hm4'
  clear hm4'
  clear hp1 hl1 d1 b1 eb ed hbox1 hidx1 hg1 hb1 hm1
  go_wp2_with fail
  have hp2 : RowAt 6 encPrt w2.drew A.a4 c.ports := (hc.below hb2).ports
  have hl2 : c.ports.length ≤ 140737488351232 := by have := hc.ok.nports; omega
  have d2 := cell_of_heap (i := 1) hidx2 rfl
  have b2 := (box_cfg hbox2).2.2.2.2.1
  go_region_held3 (fun W => W.cell? ⟨w.heap.size, 4, none⟩ = some (.slice A.a4 c.ports.length A.k4) ∧ W.cell? ⟨w.heap.size + 1 + 1 + 1 + 1 + 1, 1, none⟩ = some (.map (some (w.heap.size + 1 + 1)))) (go_keep) (first | (go_at_call 48; refine (collectO16_c w2.drew A.a4 A.k4 (w.heap.size + 1 + 1) c.ports hp2 hl2 hm2).mono ?_; rintro e w3 ⟨rfl, hn2, hg2'⟩; have hg2 := undrew hg2'; clear hg2'; have hbox3 := heap_grown hg2 hbox2 (by omega); have hidx3 := heap_grown hg2 hidx2 (by omega); have eb := (box_cfg hbox3).2.2.2.2.1; have ed := cell_of_heap (i := 1) hidx3 rfl))
  have hb3 : Below w.heap.size w w3 := bgrown hb2 hg2 (by omega)
  have hn1' := MapAt.grown hn1 hg2 (by omega)
  clear hn1
  have hn1 := hn1'
  clear hn1'
  have hm3' := MapAt.grown hm3 hg2 (by omega)
  clear hm3
  have hm3 := hm3'
  clear hm3'
  have hm4' := MapAt.grown hm4 hg2 (by omega)
  clear hm4
  have hm4 := hm4'
  clear hm4'
  clear hp2 hl2 d2 b2 eb ed hbox2 hidx2 hg2 hb2 hm2
  go_wp2_with fail
  have hp3 : ChnAt w3.drew A.a5 c.chans := (hc.below hb3).chans
  have hl3 : c.chans.length ≤ 140737488351232 := by have := hc.ok.nchans; omega
  have d3 := cell_of_heap (i := 2) hidx3 rfl
  have b3 := (box_cfg hbox3).2.2.2.2.2
  go_region_held3 (fun W => W.cell? ⟨w.heap.size, 5, none⟩ = some (.slice A.a5 c.chans.length A.k5) ∧ W.cell? ⟨w.heap.size + 1 + 1 + 1 + 1 + 1, 2, none⟩ = some (.map (some (w.heap.size + 1 + 1 + 1)))) (go_keep) (first | (go_at_call 54; refine (collectC16_c w3.drew A.a5 A.k5 (w.heap.size + 1 + 1 + 1) c.chans hp3 hl3 hm3).mono ?_; rintro e w4 ⟨rfl, hn3, hg3'⟩; have hg3 := undrew hg3'; clear hg3'; have hbox4 := heap_grown hg3 hbox3 (by omega); have hidx4 := heap_grown hg3 hidx3 (by omega); have eb := (box_cfg hbox4).2.2.2.2.2; have ed := cell_of_heap (i := 2) hidx4 rfl))
  have hb4 : Below w.heap.size w w4 := bgrown hb3 hg3 (by omega)
  have hn1' := MapAt.grown hn1 hg3 (by omega)
  clear hn1
  have hn1 := hn1'
  clear hn1'
  have hn2' := MapAt.grown hn2 hg3 (by omega)
  clear hn2
  have hn2 := hn2'
  clear hn2'
  have hm4' := MapAt.grown hm4 hg3 (by omega)
  clear hm4
  have hm4 := hm4'
  clear hm4'
  clear hp3 hl3 d3 b3 eb ed hbox3 hidx3 hg3 hb3 hm3
  go_wp2_with fail
  have hp4 : RowAt 6 encPrt w4.drew A.a4 c.ports := (hc.below hb4).ports
  have hl4 : c.ports.length ≤ 140737488351232 := by have := hc.ok.nports; omega
  have d4 := cell_of_heap (i := 3) hidx4 rfl
  have b4 := (box_cfg hbox4).2.2.2.2.1
  go_region_held3 (fun W => W.cell? ⟨w.heap.size, 4, none⟩ = some (.slice A.a4 c.ports.length A.k4) ∧ W.cell? ⟨w.heap.size + 1 + 1 + 1 + 1 + 1, 3, none⟩ = some (.map (some (w.heap.size + 1 + 1 + 1 + 1)))) (go_keep) (first | (go_at_call 50; refine (collectONm_c w4.drew A.a4 A.k4 (w.heap.size + 1 + 1 + 1 + 1) c.ports hp4 hl4 hm4).mono ?_; rintro e w5 ⟨rfl, hn4, hg4'⟩; have hg4 := undrew hg4'; clear hg4'; have hbox5 := heap_grown hg4 hbox4 (by omega); have hidx5 := heap_grown hg4 hidx4 (by omega); have eb := (box_cfg hbox5).2.2.2.2.1; have ed := cell_of_heap (i := 3) hidx5 rfl))
  have hb5 : Below w.heap.size w w5 := bgrown hb4 hg4 (by omega)
  have hn1' := MapAt.grown hn1 hg4 (by omega)
  clear hn1
  have hn1 := hn1'
  clear hn1'
  have hn2' := MapAt.grown hn2 hg4 (by omega)
  clear hn2
  have hn2 := hn2'
  clear hn2'
  have hn3' := MapAt.grown hn3 hg4 (by omega)
  clear hn3
  have hn3 := hn3'
  clear hn3'
  clear hp4 hl4 d4 b4 eb ed hbox4 hidx4 hg4 hb4 hm4
  go_wp2
  go_ret
  exact ⟨_, _, _, _, _, rfl, ⟨hidx5, hn1, hn2, hn3, hn4⟩, hb5⟩
end Go.Proofs.Ytlccbejhamkdoaa
