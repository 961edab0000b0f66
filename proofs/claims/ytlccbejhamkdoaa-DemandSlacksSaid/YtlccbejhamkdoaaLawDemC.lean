/- the walk of DemandSlacks -/
import Derived.Test.YtlccbejhamkdoaaSlack16
namespace Go.Proofs.Ytlccbejhamkdoaa
open Go.RowKit

set_option maxHeartbeats 4000000 in
theorem DemandSlacks_walk (w : World) (c : Cfg) (A : Adr) (hc : CfgAt w c A) :
    Calls Try.prog 6 #[cfgVal c A] w fun e w' => e = .returned (.bool true) ∧ Below w.heap.size w w' := by
  have hn := hc.ok.nparts
  have hokp := hid hc.ok.parts
  have hfr := hid hc.ok.frame
  have h1 := hid (fun W (h : CfgAt W c A) => fits_c W c A h)
  have hbox := heap_new w (.cells (cfgCells c A) 29)
  have hc1 := hid (hc.below (below_new w (.cells (cfgCells c A) 29)))
  have h2 := hid (fun W (h : CfgAt W c A) (hR : RightW c) => refCheck16_c W c A h hR)
  have h3 := hid (fun W (h : CfgAt W c A) (hR : RightW c) i hi N B hN hB h0 hNB hBm => slack_c W c A h hR i hi N B hN hB h0 hNB hBm)
  have h4 := hid (fun W (h : CfgAt W c A) (hR : RightW c) id => busy_c W c A h hR id)
  have h5 := hid (fun W (h : CfgAt W c A) (hR : RightW c) id hid' => refBusy_c W c A h hR id hid')
  obtain ⟨a1, k1, a2, k2, a3, k3, a4, k4, a5, k5⟩ := A
  obtain ⟨e0, e1, e2, hd⟩ : ∃ e0 e1 e2, dchk c = (e0, e1, e2) := ⟨_, _, _, rfl⟩
  have hzero : e0 = 0 → ∀ p ∈ c.parts, badOf c p = 0 := fun h => dchk_zero (by rw [hd]; exact h)
  rw [hd] at h2
  have Hzero := hid hzero
  simp only [cfgVal, cfgCells] at h1 h2 h3 h4 h5 ⊢
  have Hbox := hid hbox
  clear hc hbox hd hzero
  go_enter Try.func6, Try.ntmps6
  go_wp2_with fail
  refine (h1.out _ hc1.out).mono ?_
  rintro e w2 ⟨r, rfl, hr, hb2⟩
  have hb02 := bthen (below_new w _) hb2
  have hc2 := hid (hc1.out.below hb2)
  have Hbox2 := hid (heap_keep Hbox.out hb2)
  have Hr := hid hr
  clear hb2 hc1 Hbox hr
  cases r
  · go_wp2_with fail
    refine (alive16_c _).mono ?_
    rintro e w3 ⟨rfl, hb3⟩
    have hb03 := bthen hb02 hb3
    clear hb3
    go_wp2
    go_ret
    exact ⟨rfl, hb03⟩
  · have HR := hid (Hr.out (by trivial)).1
    obtain ⟨z0, z1, z2, z3, z4, z5⟩ := box_cfg Hbox2.out
    simp only at z0 z1 z2 z3 z4 z5
    go_wp2_with fail
    refine (h2.out _ hc2.out HR.out).mono ?_
    rintro e w3 ⟨rfl, hb3⟩
    have hb03 := bthen hb02 hb3
    have hc3 := hid (hc2.out.below hb3)
    have Hbox3 := hid (heap_keep Hbox2.out hb3)
    have hw3 : w.heap.size < w3.heap.size := lt_of_block Hbox3.out
    clear hb3 hc2 Hbox2 hb02 z0 z1 z2 z3 z4 z5
    by_cases hez : e0 = 0
    rotate_left
    · have hnz : (e0 != 0) = true := by simp [bne, hez]
      clear hez
      go_wp2_with fail
      refine (alive16_c _).mono ?_
      rintro e w4 ⟨rfl, hb4⟩
      have hb04 := bthen hb03 hb4
      clear hb4
      go_wp2
      go_ret
      exact ⟨rfl, hb04⟩
    · have hnz : (e0 != 0) = false := by simp [bne, hez]
      have Hall := hid (Hzero.out hez)
      have Hb03 := hid hb03
      obtain ⟨z0, z1, z2, z3, z4, z5⟩ := box_cfg Hbox3.out
      simp only at z0 z1 z2 z3 z4 z5
      clear hez
      go_wp2
      clear z0 z1 z2 z3 z4 z5 hb03
      go_loopw [24] (fun i wr => ∃ k : Nat, k ≤ c.parts.length ∧ i = .int .i64 k ∧ Below w3.heap.size w3 wr) (fun i _ => c.parts.length - (intOf i).toNat)
      case atStart => exact ⟨0, Nat.zero_le _, rfl, Below.refl _ _⟩
      case round =>
        obtain ⟨k, hkn, rfl, hbr⟩ := hrel
        by_cases hlt : k < c.parts.length
        · obtain ⟨b, o, ha, hb0, g0, g1, g2, g3⟩ := (hc3.out.below hbr).parts.part hlt
          simp only at ha
          subst ha
          have hok := hid (hokp.out _ (List.getElem_mem hlt))
          obtain ⟨hdv, hle, hsh⟩ := badOf_zero (Hall.out _ (List.getElem_mem hlt))
          obtain ⟨htot, hge⟩ := totP_good HR.out hfr.out hdv hsh
          have hPF := divs_facts hdv
          have hBtop := HR.out.apart.used_le c.parts[k].id (Int.le_refl 0) (Int.le_of_lt HR.out.pos)
          have D3 := hid (fun W hW N B hN hB h0 hNB hBm => h3.out W hW HR.out k hlt N B hN hB h0 hNB hBm)
          obtain ⟨p, hp⟩ : ∃ p, c.parts[k] = p := ⟨_, rfl⟩
          rw [hp] at g0 g1 g2 g3 D3 hok hdv hle hsh htot hge hPF hBtop
          obtain ⟨N, hN⟩ : ∃ N, p.dur * (c.frame / p.period) = N := ⟨_, rfl⟩
          obtain ⟨B, hB⟩ : ∃ B, usedP c.wins p.id 0 c.frame = B := ⟨_, rfl⟩
          rw [hN, hB] at hge
          rw [hB] at hBtop
          rw [hN] at htot
          have hfr2 := hfr.out
          unfold U64 at hfr2
          have hd0 := hok.out.2.2.2.1
          have hN0 : 0 ≤ N := by rw [← hN]; exact Int.mul_nonneg hd0 (count_nonneg HR.out hPF.1)
          have hq := quo_u64 hfr.out hPF.1
          have hq2 := hq
          unfold U64 at hq2
          have hguard : (IntKind.u64.wrap (B - N + IntKind.u64.wrap (p.dur * IntKind.u64.wrap (c.frame.tdiv p.period))) != B) = false := by
            rw [Int.tdiv_eq_ediv_of_nonneg hfr2.1, wrap_id hq2.1 hq2.2, hN, wrap_id (x := N) hN0 (by omega), Int.sub_add_cancel, wrap_id (x := B) (by omega) (by omega)]
            simp
          have E3 := hid (fun W hW => D3.out W hW N B (by rw [htot]) hB hN0 hge (by omega))
          have E4 := hid (fun W hW => h4.out W hW HR.out p.id)
          have E5 := hid (fun W hW => h5.out W hW HR.out p.id hok.out.1)
          rw [hB] at E4 E5
          have hP := hPF.1
          have hne : ¬ p.period = 0 := by omega
          clear hp hdv hle hsh htot hge hPF hBtop D3 hN hB hq hq2 hfr2
          obtain ⟨z0, z1, z2, z3, z4, z5⟩ := box_cfg (heap_keep Hbox3.out hbr)
          simp only at z0 z1 z2 z3 z4 z5
          have hwr : w.heap.size < wr.heap.size := by have := hbr.size; omega
          go_wp2_with fail
          refine wp_name (fun W => Below w3.heap.size w3 W ∧ W.heap[wr.heap.size]? = some (.cells #[.int .u16 p.id, .string p.name, .int .u64 p.period, .int .u64 p.dur] 36 (0, 0))) ⟨hbr.alloc hbr.size _, heap_new _ _⟩ ?_
          rintro w5 ⟨hb5, hpb⟩
          have hc5 := hid (hc3.out.below hb5)
          clear z0 z1 z2 z3 z4 z5 g0 g1 g2 g3 hb0
          obtain ⟨z0, z1, z2, z3, z4, z5⟩ := box_later (heap_keep Hbox3.out hb5)
          have y0 := cells_later hpb 0 rfl
          have y2 := cells_later hpb 2 rfl
          have y3 := cells_later hpb 3 rfl
          clear hpb
          go_region_held3 (fun W => Below w5.heap.size w5 W) (first | assumption | exact (Below.refl _ _).drew) (first
            | (go_at_call 29; refine (E3.out _ (hc5.out.below (by assumption))).mono ?_; rintro e w6 ⟨rfl, hb6⟩; have hS := bthen (w := w5) (by assumption) hb6)
            | (go_at_call 30; refine (E5.out _ (hc5.out.below (by assumption))).mono ?_; rintro e w6 ⟨rfl, hb6⟩; have hS := bthen (w := w5) (by assumption) hb6)
            | (go_at_call 31; refine (E4.out _ (hc5.out.below (by assumption))).mono ?_; rintro e w6 ⟨rfl, hb6⟩; have hS := bthen (w := w5) (by assumption) hb6))
          have hbf := bthen hb5 hS
          clear z0 z1 z2 z3 z4 z5 y0 y2 y3 hS hb6
          go_wp2
          refine ⟨⟨k + 1, by omega, by go_num, hbf⟩, by simp [intOf]; omega⟩
        · have hb0r := hid (bthen Hb03.out hbr)
          go_wp2_with fail
          refine (alive16_c _).mono ?_
          rintro e w4 ⟨rfl, hb4⟩
          have hb04 := bthen hb0r.out hb4
          clear hb4
          go_wp2
          go_ret
          exact ⟨rfl, hb04⟩
end Go.Proofs.Ytlccbejhamkdoaa
