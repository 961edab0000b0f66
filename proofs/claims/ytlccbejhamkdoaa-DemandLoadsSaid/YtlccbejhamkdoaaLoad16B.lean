/- the load of a configuration, as the program and the reference reckon it -/
import Derived.Test.YtlccbejhamkdoaaLoad16A
import Derived.StillTailTactics
namespace Go.Proofs.Ytlccbejhamkdoaa
open Go.RowKit

theorem infoU64 : (Try.prog.info? 22).map (fun i => (i.zero, i.size, i.bytes)) = some (some (.int .u64 0), 1, 8) := by kernel_rfl

def loadP (c : Cfg) : Int × Bool := if c.parts.all (fun p => (totP p c.frame).2) = true then addF 0 (c.parts.map fun p => (totP p c.frame).1) else (0, false)
theorem totP_u64 {p : Part} {fr : Int} (hp : p.ok) (hf : U64 fr) : U64 (totP p fr).1 := by
  unfold totP
  split
  · rename_i hd
    obtain ⟨hP, _⟩ := divs_facts hd
    split
    · rename_i hle
      have h1 := quo_u64 hf hP
      have h2 := hp.2.2.2
      unfold U64 at *
      exact ⟨Int.mul_nonneg h2.1 h1.1, hle⟩
    · unfold U64; simp
  · unfold U64; simp
theorem loadP_no {c : Cfg} {k : Nat} (hk : k < c.parts.length) (h : (totP c.parts[k] c.frame).2 = false) : loadP c = (0, false) := by
  rw [loadP, if_neg]
  rw [all_no hk h]; decide
theorem loadP_yes {c : Cfg} (h : ∀ j (hj : j < c.parts.length), (totP c.parts[j] c.frame).2 = true) : loadP c = addF 0 (c.parts.map fun p => (totP p c.frame).1) := by
  rw [loadP, if_pos (all_yes h)]

set_option maxHeartbeats 4000000 in
theorem load_c (w : World) (c : Cfg) (A : Adr) (hc : CfgAt w c A) :
    Calls Try.prog 32 #[cfgVal c A] w fun e w' => e = .returned (.tuple #[.int .u64 (loadP c).1, .bool (loadP c).2]) ∧ Below w.heap.size w w' := by
  obtain ⟨a1, k1, a2, k2, a3, k3, a4, k4, a5, k5⟩ := A
  have hn := hc.ok.nparts
  have hokp := hid hc.ok.parts
  have hfr := hid hc.ok.frame
  obtain ⟨e0, e1, hm⟩ : ∃ e0 e1, loadP c = (e0, e1) := ⟨_, _, rfl⟩
  rw [hm]
  have Hm := hid hm
  clear hm
  simp only [cfgVal, cfgCells]
  go_enter Try.func32, Try.ntmps32
  go_wp2
  refine wp_name (fun W => Below w.heap.size w W ∧ W.heap[w.heap.size]? = some (.cells (cfgCells c ⟨a1, k1, a2, k2, a3, k3, a4, k4, a5, k5⟩) 29 (0, 0))) ⟨below_new _ _, heap_new _ _⟩ ?_
  rintro w1 ⟨hb1, hbox⟩
  have hc1 := hid (hc.below hb1)
  have Hbox := hid hbox
  have Hb1 := hid hb1
  have hw1 : w.heap.size < w1.heap.size := lt_of_block hbox
  clear hc hbox hb1
  go_loopw [4, 12] (fun v i wr => ∃ k : Nat, k ≤ c.parts.length ∧ i = .int .i64 k ∧ Hid (∀ j, j < k → ∀ (hj : j < c.parts.length), (totP c.parts[j] c.frame).2 = true) ∧ wr.ownsRow w1.heap.size 22 1 v k (((c.parts.map fun p => (totP p c.frame).1).take k).flatMap (fun n => [.int .u64 n])) ∧ Below w1.heap.size w1 wr) (fun _ i _ => c.parts.length - (intOf i).toNat)
  case atStart => exact ⟨0, Nat.zero_le _, rfl, fun j hj => by omega, World.ownsRow_nil _ _ _ _, Below.refl _ _⟩
  case round =>
    obtain ⟨k, hkn, rfl, Hk, hown, hbr⟩ := hrel
    have hwr : w.heap.size < wr.heap.size := by have := hbr.size; omega
    by_cases hlt : k < c.parts.length
    · obtain ⟨b, o, ha, hb0, h0, h1, h2, h3⟩ := (hc1.out.below hbr).parts.part hlt
      simp only at ha
      subst ha
      obtain ⟨p, hp⟩ : ∃ p, c.parts[k] = p := ⟨_, rfl⟩
      rw [hp] at h0 h1 h2 h3
      have Hp := hid hp
      have hok := hid (hokp.out p (by rw [← hp]; exact List.getElem_mem hlt))
      obtain ⟨z0, z1, z2, z3, z4, z5⟩ := box_cfg (heap_keep Hbox.out hbr)
      simp only at z0 z1 z2 z3 z4 z5
      have hcr := hid (hc1.out.below hbr)
      have Hown := hid hown
      have hsz := hbr.size
      have Hbr := hid hbr
      clear hp hown hbr
      go_wp2_with fail
      refine (of_c _ c ⟨some ⟨b, o, none⟩, k1, a2, k2, a3, k3, a4, k4, a5, k5⟩ (hcr.out.below (below_new _ _)) p).mono ?_
      rintro e w3 ⟨a', cap', m, rfl, hm1, hm2, hm3, hm4, hm5, hm6, hb3⟩
      have hb03 := hid (bthen (below_new wr (.cells #[.int .u16 p.id, .string p.name, .int .u64 p.period, .int .u64 p.dur] 36)) hb3)
      clear h0 h1 h2 h3 z0 z1 z2 z3 z4 z5 hb0 hm1 hm2 hm3 hm4 hm5 hm6 hb3
      go_wp2_with fail
      refine (total_c w3 p c.frame a' m.length cap' hok.out hfr.out).mono ?_
      rintro e w4 ⟨rfl, hb4⟩
      have hb04 := hid (bthen hb03.out hb4)
      have Hown4 := hid (own_later Hown.out hb04.out)
      have Hb14 := hid (bthen Hbr.out hb04.out)
      have hs4 := Hb14.out.size
      clear hb4 hb03 hb04 hcr
      obtain ⟨t, ok, htp⟩ : ∃ t ok, totP p c.frame = (t, ok) := ⟨_, _, rfl⟩
      rw [htp]
      have Htp := hid htp
      clear htp
      cases ok
      · have hfin : Hid (((0 : Int), false) = (e0, e1)) := (loadP_no hlt (by rw [Hp.out, Htp.out])).symm.trans Hm.out
        have hbw := hid (bthen Hb1.out Hb14.out)
        go_wp2
        go_ret2
        have hf := hfin.out
        simp only [Prod.mk.injEq] at hf
        obtain ⟨rfl, rfl⟩ := hf
        exact ⟨rfl, hbw.out⟩
      · have hnext : Hid (∀ j, j < k + 1 → ∀ (hj : j < c.parts.length), (totP c.parts[j] c.frame).2 = true) := by
          intro j hj hjl
          rcases Nat.lt_succ_iff_lt_or_eq.1 hj with h | rfl
          · exact Hk.out j h hjl
          · rw [Hp.out, Htp.out]
        go_wp2_with (at_builtin; refine stop ?_)
        refine go_on ?_
        refine wp_append_lit rfl _ _ 106 22 rfl (z := .int .u64 0) (size := 1) (bytes := 8) Try.underlying106 infoU64 rfl (by decide) _ w1.heap.size _ k _ [.int .u64 t] 1 rfl rfl (by exact Hown4.out) rfl (by simp [Value.oneCell']) (by omega) (by omega) (by omega) ?_
        intro v' w' hown' hg _
        have Hown' := hid hown'
        have Hg := hid hg
        clear hown' hg
        go_wp2
        go_roundw
        case rel =>
          refine ⟨k + 1, by omega, by go_num, hnext, ?_, below_own Hb14.out Hown4.out (Nat.le_refl _) Hg.out⟩
          have := Hown'.out
          rw [List.take_add_one, List.getElem?_map, List.getElem?_eq_getElem hlt, List.flatMap_append]
          have e : (totP c.parts[k] c.frame).1 = t := by rw [Hp.out, Htp.out]
          simp only [Option.map_some, Option.toList_some, List.flatMap_cons, List.flatMap_nil, List.append_nil, e]
          exact this
        case measure => simp [intOf]; omega
    · have hke : k = c.parts.length := by omega
      subst hke
      rw [List.take_of_length_le (by simp)] at hown
      obtain ⟨a, cap, rfl, hcap⟩ := own_slice hown
      have hrow : RowAt 1 (fun n => [.int .u64 n]) wr a (c.parts.map fun p => (totP p c.frame).1) := own_row hown (by simp) (by simp)
      have hbw := hid (bthen Hb1.out hbr)
      have hall := hid (loadP_yes (fun j hj => Hk.out j hj hj))
      have hcall := hid (addNum_c wr a cap (c.parts.map fun p => (totP p c.frame).1) hrow (by simp; omega) (by
        intro x hx
        obtain ⟨p, hp, rfl⟩ := List.mem_map.1 hx
        exact totP_u64 (hokp.out p hp) hfr.out))
      rw [← hall.out, Hm.out, List.length_map] at hcall
      clear hown hbr hrow hwr
      go_wp2_with fail
      refine hcall.out.mono ?_
      rintro e w2 ⟨rfl, hb2⟩
      have hbf := bthen hbw.out hb2
      clear hb2 hcall
      go_wp2
      go_ret2
      exact ⟨rfl, hbf⟩

set_option maxHeartbeats 4000000 in
theorem refLoad_c (w : World) (c : Cfg) (A : Adr) (hc : CfgAt w c A) :
    Calls Try.prog 33 #[cfgVal c A] w fun e w' => e = .returned (.tuple #[.int .u64 (loadP c).1, .bool (loadP c).2]) ∧ Below w.heap.size w w' := by
  obtain ⟨a1, k1, a2, k2, a3, k3, a4, k4, a5, k5⟩ := A
  have hn := hc.ok.nparts
  have hokp := hid hc.ok.parts
  have hfr := hid hc.ok.frame
  have hfr2 := hc.ok.frame
  unfold U64 at hfr2
  obtain ⟨e0, e1, hm⟩ : ∃ e0 e1, loadP c = (e0, e1) := ⟨_, _, rfl⟩
  rw [hm]
  have Hm := hid hm
  clear hm
  simp only [cfgVal, cfgCells]
  go_enter Try.func33, Try.ntmps33
  go_wp2
  refine wp_name (fun W => Below w.heap.size w W ∧ W.heap[w.heap.size]? = some (.cells (cfgCells c ⟨a1, k1, a2, k2, a3, k3, a4, k4, a5, k5⟩) 29 (0, 0))) ⟨below_new _ _, heap_new _ _⟩ ?_
  rintro w1 ⟨hb1, hbox⟩
  have hc1 := hid (hc.below hb1)
  have Hbox := hid hbox
  have Hb1 := hid hb1
  have hw1 : w.heap.size < w1.heap.size := lt_of_block hbox
  clear hc hbox hb1
  go_loopw [4, 5] (fun v i wr => ∃ k : Nat, k ≤ c.parts.length ∧ i = .int .i64 k ∧ Hid (∀ j, j < k → ∀ (hj : j < c.parts.length), (totP c.parts[j] c.frame).2 = true) ∧ wr.ownsRow w1.heap.size 22 1 v k (((c.parts.map fun p => (totP p c.frame).1).take k).flatMap (fun n => [.int .u64 n])) ∧ Below w1.heap.size w1 wr) (fun _ i _ => c.parts.length - (intOf i).toNat)
  case atStart => exact ⟨0, Nat.zero_le _, rfl, fun j hj => by omega, World.ownsRow_nil _ _ _ _, Below.refl _ _⟩
  case round =>
    obtain ⟨k, hkn, rfl, Hk, hown, hbr⟩ := hrel
    have hwr : w.heap.size < wr.heap.size := by have := hbr.size; omega
    obtain ⟨z0, z1, z2, z3, z4, z5⟩ := box_cfg (heap_keep Hbox.out hbr)
    simp only at z0 z1 z2 z3 z4 z5
    by_cases hlt : k < c.parts.length
    · obtain ⟨b, o, ha, hb0, h0, h1, h2, h3⟩ := (hc1.out.below hbr).parts.part hlt
      simp only at ha
      subst ha
      obtain ⟨p, hp⟩ : ∃ p, c.parts[k] = p := ⟨_, rfl⟩
      rw [hp] at h0 h1 h2 h3
      have Hp := hid hp
      have hok := hid (hokp.out p (by rw [← hp]; exact List.getElem_mem hlt))
      have Hown := hid hown
      have hsz := hbr.size
      have Hbr := hid hbr
      clear hp hown hbr
      go_wp2_with fail
      refine (refFits_c _ c ⟨some ⟨b, o, none⟩, k1, a2, k2, a3, k3, a4, k4, a5, k5⟩ p hok.out.2.2.1 hfr.out).mono ?_
      rintro e w3 ⟨rfl, hb3⟩
      have hb03 := hid (bthen (below_new wr (.cells #[.int .u16 p.id, .string p.name, .int .u64 p.period, .int .u64 p.dur] 36)) hb3)
      have Hpb := hid (heap_keep (heap_new wr (.cells #[.int .u16 p.id, .string p.name, .int .u64 p.period, .int .u64 p.dur] 36)) hb3)
      have Hb13 := hid (bthen Hbr.out hb03.out)
      have hbw3 := hid (bthen Hb1.out Hb13.out)
      have Hbox3 := hid (heap_keep Hbox.out Hb13.out)
      clear h0 h1 h2 h3 z0 z1 z2 z3 z4 z5 hb0 hb3
      cases hdv : divs p.period c.frame
      · have hfin : Hid (((0 : Int), false) = (e0, e1)) := (loadP_no hlt (by rw [Hp.out, totP, hdv]; rfl)).symm.trans Hm.out
        clear hdv
        go_wp2
        go_ret2
        have hf := hfin.out
        simp only [Prod.mk.injEq] at hf
        obtain ⟨rfl, rfl⟩ := hf
        exact ⟨rfl, hbw3.out⟩
      · obtain ⟨hP, -⟩ := divs_facts hdv
        have hq := quo_u64 hfr.out hP
        have htot : Hid (mulN [p.dur, c.frame / p.period] = totP p c.frame) := by
          show _ = _
          rw [mulN_two hok.out.2.2.2 hq, totP, if_pos hdv]
        have hne : ¬ p.period = 0 := by omega
        have hE : IntKind.u64.wrap (c.frame.tdiv p.period) = c.frame / p.period := by
          have hq2 := hq
          unfold U64 at hq2
          rw [Int.tdiv_eq_ediv_of_nonneg hfr2.1]
          exact wrap_id hq2.1 hq2.2
        rw [← hE] at htot hq
        have hmul := hid (fun (W : World) (b : Nat) (hrow : RowAt 1 (fun n => [.int .u64 n]) W (some ⟨b, 0, none⟩) [p.dur, IntKind.u64.wrap (c.frame.tdiv p.period)]) => refMul_c W (some ⟨b, 0, none⟩) 2 [p.dur, IntKind.u64.wrap (c.frame.tdiv p.period)] hrow (by simp) (by
          intro x hx
          simp only [List.mem_cons, List.not_mem_nil, or_false] at hx
          rcases hx with rfl | rfl
          · exact hok.out.2.2.2
          · exact hq))
        rw [htot.out] at hmul
        obtain ⟨t, ok, htp⟩ : ∃ t ok, totP p c.frame = (t, ok) := ⟨_, _, rfl⟩
        rw [htp] at hmul
        have Htp := hid htp
        clear htp htot hE hq hdv
        go_wp2_with fail
        obtain ⟨z0, z1, z2, z3, z4, z5⟩ := box_later Hbox3.out
        have q2 : ∀ W, Below w3.heap.size w3 W → W.cell? ⟨wr.heap.size, 2, none⟩ = some (.int .u64 p.period) := cells_later Hpb.out 2 rfl
        have q3 : ∀ W, Below w3.heap.size w3 W → W.cell? ⟨wr.heap.size, 3, none⟩ = some (.int .u64 p.dur) := cells_later Hpb.out 3 rfl
        go_region_held3 (fun W => Below w3.heap.size w3 W) (first | assumption | exact (Below.refl _ _).drew | exact bthen (by assumption) (below_new _ _)) (first
          | (go_at_call 71; refine (hmul.out _ w3.heap.size ((row_new w3 (Value.int .u64) [p.dur, IntKind.u64.wrap (c.frame.tdiv p.period)] 22).below (Below.refl _ _).drew)).mono ?_; rintro e w6 ⟨rfl, hb6⟩; have hS := bthen (w := w3) (below_new w3 _).drew hb6))
        have hb06 := hid (bthen hb03.out hS)
        have Hown6 := hid (own_later Hown.out hb06.out)
        have Hb16 := hid (bthen Hbr.out hb06.out)
        have hs6 := Hb16.out.size
        clear z0 z1 z2 z3 z4 z5 q2 q3 hS hb6 hb03 hb06 hmul
        cases ok
        · have hfin : Hid (((0 : Int), false) = (e0, e1)) := (loadP_no hlt (by rw [Hp.out, Htp.out])).symm.trans Hm.out
          have hbw := hid (bthen Hb1.out Hb16.out)
          go_wp2
          go_ret2
          have hf := hfin.out
          simp only [Prod.mk.injEq] at hf
          obtain ⟨rfl, rfl⟩ := hf
          exact ⟨rfl, hbw.out⟩
        · have hnext : Hid (∀ j, j < k + 1 → ∀ (hj : j < c.parts.length), (totP c.parts[j] c.frame).2 = true) := by
            intro j hj hjl
            rcases Nat.lt_succ_iff_lt_or_eq.1 hj with h | rfl
            · exact Hk.out j h hjl
            · rw [Hp.out, Htp.out]
          go_wp2_with (at_builtin; refine stop ?_)
          refine go_on ?_
          refine wp_append_lit rfl _ _ 106 22 rfl (z := .int .u64 0) (size := 1) (bytes := 8) Try.underlying106 infoU64 rfl (by decide) _ w1.heap.size _ k _ [.int .u64 t] 1 rfl rfl (by exact Hown6.out) rfl (by simp [Value.oneCell']) (by omega) (by omega) (by omega) ?_
          intro v' w' hown' hg _
          have Hown' := hid hown'
          have Hg := hid hg
          clear hown' hg
          go_wp2
          refine ⟨⟨k + 1, by omega, by go_num, hnext, ?_, below_own Hb16.out Hown6.out (Nat.le_refl _) Hg.out⟩, by simp [intOf]; omega⟩
          have := Hown'.out
          rw [List.take_add_one, List.getElem?_map, List.getElem?_eq_getElem hlt, List.flatMap_append]
          have e : (totP c.parts[k] c.frame).1 = t := by rw [Hp.out, Htp.out]
          simp only [Option.map_some, Option.toList_some, List.flatMap_cons, List.flatMap_nil, List.append_nil, e]
          exact this
    · have hke : k = c.parts.length := by omega
      subst hke
      rw [List.take_of_length_le (by simp)] at hown
      obtain ⟨a, cap, rfl, hcap⟩ := own_slice hown
      have hrow : RowAt 1 (fun n => [.int .u64 n]) wr a (c.parts.map fun p => (totP p c.frame).1) := own_row hown (by simp) (by simp)
      have hbw := hid (bthen Hb1.out hbr)
      have hall := hid (loadP_yes (fun j hj => Hk.out j hj hj))
      have hcall := hid (refAdd_c wr a cap (c.parts.map fun p => (totP p c.frame).1) hrow (by simp; omega) (by
        intro x hx
        obtain ⟨p, hp, rfl⟩ := List.mem_map.1 hx
        exact totP_u64 (hokp.out p hp) hfr.out))
      rw [← hall.out, Hm.out, List.length_map] at hcall
      clear hown hbr hrow hwr
      go_wp2_with fail
      refine hcall.out.mono ?_
      rintro e w2 ⟨rfl, hb2⟩
      have hbf := bthen hbw.out hb2
      clear hb2 hcall
      go_wp2
      go_ret2
      exact ⟨rfl, hbf⟩
end Go.Proofs.Ytlccbejhamkdoaa
