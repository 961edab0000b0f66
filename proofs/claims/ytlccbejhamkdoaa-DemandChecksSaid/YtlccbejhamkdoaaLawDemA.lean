/- the walk of DemandChecks -/
import Derived.Test.YtlccbejhamkdoaaAlive16
namespace Go.Proofs.Ytlccbejhamkdoaa
open Go.RowKit

set_option maxHeartbeats 2000000 in
theorem DemandChecks_walk (w : World) (c : Cfg) (A : Adr) (hc : CfgAt w c A) :
    Calls Try.prog 4 #[cfgVal c A] w fun e w' => e = .returned (.bool true) ∧ Below w.heap.size w w' := by
  have h1 := hid (fun W (h : CfgAt W c A) => fits_c W c A h)
  have hbox := heap_new w (.cells (cfgCells c A) 29)
  have hc1 := hid (hc.below (below_new w (.cells (cfgCells c A) 29)))
  have h2 := hid (fun W (h : CfgAt W c A) (hR : RightW c) => refCheck16_c W c A h hR)
  have h3 := hid (fun W (h : CfgAt W c A) (hR : RightW c) => demCheck_c W c A h hR)
  obtain ⟨a1, k1, a2, k2, a3, k3, a4, k4, a5, k5⟩ := A
  obtain ⟨e0, e1, e2, hd⟩ : ∃ e0 e1 e2, dchk c = (e0, e1, e2) := ⟨_, _, _, rfl⟩
  rw [hd] at h2 h3
  simp only [cfgVal, cfgCells] at h1 h2 h3 ⊢
  have Hbox := hid hbox
  clear hc hbox hd
  go_enter Try.func4, Try.ntmps4
  go_wp2_with fail
  refine (h1.out _ hc1.out).mono ?_
  rintro e w2 ⟨r, rfl, hr, hb2⟩
  have hb02 := bthen (below_new w _) hb2
  have hc2 := hid (hc1.out.below hb2)
  have Hbox2 := hid (heap_keep Hbox.out hb2)
  have Hr := hid hr
  clear hb2 hc1 Hbox hr
  cases r
  · go_wp2_with fail
    refine (alive16_c _).mono ?_
    rintro e w3 ⟨rfl, hb3⟩
    have hb03 := bthen hb02 hb3
    clear hb3
    go_wp2
    go_ret
    exact ⟨rfl, hb03⟩
  · have HR := hid (Hr.out (by trivial)).1
    obtain ⟨z0, z1, z2, z3, z4, z5⟩ := box_cfg Hbox2.out
    simp only at z0 z1 z2 z3 z4 z5
    go_wp2_with fail
    refine (h2.out _ hc2.out HR.out).mono ?_
    rintro e w3 ⟨rfl, hb3⟩
    have hb03 := bthen hb02 hb3
    have hc3 := hid (hc2.out.below hb3)
    have Hbox3 := hid (heap_keep Hbox2.out hb3)
    clear hb3 hc2 Hbox2 hb02 z0 z1 z2 z3 z4 z5
    go_wp2_with fail
    refine (alive16_c _).mono ?_
    rintro e w4 ⟨rfl, hb4⟩
    have hb04 := bthen hb03 hb4
    have hc4 := hid (hc3.out.below hb4)
    have Hbox4 := hid (heap_keep Hbox3.out hb4)
    clear hb4 hc3 Hbox3 hb03
    obtain ⟨z0, z1, z2, z3, z4, z5⟩ := box_cfg Hbox4.out
    simp only at z0 z1 z2 z3 z4 z5
    go_wp2_with fail
    refine (h3.out _ hc4.out HR.out).mono ?_
    rintro e w5 ⟨rfl, hb5⟩
    have hb05 := bthen hb04 hb5
    clear hb5 hc4 Hbox4 hb04 z0 z1 z2 z3 z4 z5
    go_wp2
    go_ret
    exact ⟨rfl, hb05⟩
end Go.Proofs.Ytlccbejhamkdoaa
