/- the walk of UniqChecks -/
import Derived.Test.YtfgiocgkkhoamaaAlive13
import Derived.Test.YtfgiocgkkhoamaaLater
namespace Go.Proofs.Ytfgiocgkkhoamaa
open Go.RowKit

theorem fault_c (w : World) (sec i : Int) : Calls Try.prog 30 #[.int .i64 sec, .int .i64 i] w fun e w' =>
    e = .returned (.agg #[.int .i64 (dupFault sec i).1, .int .i64 (dupFault sec i).2.1, .int .i64 (dupFault sec i).2.2]) ∧ Below w.heap.size w w' := by
  by_cases h : i < 0
  · rw [dupFault_neg h]
    go_enter Try.func30, Try.ntmps30
    go_wp2
    refine bodyPost_fault rfl rfl rfl (heap_new w _) ⟨rfl, below_new _ _⟩
  · rw [dupFault_pos (by omega)]
    go_enter Try.func30, Try.ntmps30
    go_wp2
    refine bodyPost_fault rfl rfl rfl (heap_new w _) ⟨rfl, below_new _ _⟩

theorem Partitions_c' (w : World) (c : Cfg) (A : Adr) (hc : CfgAt w c A) (f : Int × Int × Int) (hf : dupFault 1 (dup2 (fd (c.parts.map (·.id)) c.parts.length) (fd (c.parts.map (·.name)) c.parts.length)) = f) :
    Calls Try.prog 29 #[cfgVal c A] w fun e w' => e = .returned (.agg #[.int .i64 f.1, .int .i64 f.2.1, .int .i64 f.2.2]) ∧ Below w.heap.size w w' := by
  subst hf; exact Partitions_c w c A hc
theorem Ports_c' (w : World) (c : Cfg) (A : Adr) (hc : CfgAt w c A) (f : Int × Int × Int) (hf : dupFault 4 (dup2 (fd (c.ports.map (·.id)) c.ports.length) (fd (c.ports.map (fun p => (p.part, p.name))) c.ports.length)) = f) :
    Calls Try.prog 32 #[cfgVal c A] w fun e w' => e = .returned (.agg #[.int .i64 f.1, .int .i64 f.2.1, .int .i64 f.2.2]) ∧ Below w.heap.size w w' := by
  subst hf; exact Ports_c w c A hc
theorem Channels_c' (w : World) (c : Cfg) (A : Adr) (hc : CfgAt w c A) (f : Int × Int × Int) (hf : dupFault 5 (fd (c.chans.map (·.id)) c.chans.length) = f) :
    Calls Try.prog 34 #[cfgVal c A] w fun e w' => e = .returned (.agg #[.int .i64 f.1, .int .i64 f.2.1, .int .i64 f.2.2]) ∧ Below w.heap.size w w' := by
  subst hf; exact Channels_c w c A hc
theorem fault_c' (w : World) (sec i : Int) (f : Int × Int × Int) (hf : dupFault sec i = f) : Calls Try.prog 30 #[.int .i64 sec, .int .i64 i] w fun e w' =>
    e = .returned (.agg #[.int .i64 f.1, .int .i64 f.2.1, .int .i64 f.2.2]) ∧ Below w.heap.size w w' := by
  subst hf; exact fault_c w sec i

set_option maxHeartbeats 2000000 in
theorem UniqChecks_walk (w : World) (c : Cfg) (A : Adr) (hc : CfgAt w c A) :
    Calls Try.prog 4 #[cfgVal c A] w fun e w' => e = .returned (.bool true) ∧ Below w.heap.size w w' := by
  obtain ⟨a1, k1, a2, k2, a3, k3, a4, k4, a5, k5⟩ := A
  simp only [cfgVal, cfgCells]
  have hbox1 := heap_new w (.cells (cfgCells c ⟨a1, k1, a2, k2, a3, k3, a4, k4, a5, k5⟩) 29)
  have hcall := Few_c _ c ⟨a1, k1, a2, k2, a3, k3, a4, k4, a5, k5⟩ (hc.below (below_new w (.cells (cfgCells c ⟨a1, k1, a2, k2, a3, k3, a4, k4, a5, k5⟩) 29)))
  cases hfew : few c with
  | false =>
    rw [hfew] at hcall
    have Hcall := hid hcall
    clear hcall hfew hc hbox1
    go_enter Try.func4, Try.ntmps4
    go_wp2_with fail
    refine Hcall.out.mono ?_
    rintro e w2 ⟨rfl, hb2⟩
    have hb02 := bthen (below_new w _) hb2
    clear hb2
    go_wp2_with fail
    refine (alive13_c _).mono ?_
    rintro e w3 ⟨rfl, hb3⟩
    have hb03 := bthen hb02 hb3
    clear hb3
    go_wp2
    go_ret
    exact ⟨rfl, hb03⟩
  | true =>
    rw [hfew] at hcall
    have Hcall := hid hcall
    clear hcall hfew
    obtain ⟨f1, hf1⟩ : ∃ f, dupFault 1 (dup2 (fd (c.parts.map (·.id)) c.parts.length) (fd (c.parts.map (·.name)) c.parts.length)) = f := ⟨_, rfl⟩
    obtain ⟨f4, hf4⟩ : ∃ f, dupFault 4 (dup2 (fd (c.ports.map (·.id)) c.ports.length) (fd (c.ports.map (fun p => (p.part, p.name))) c.ports.length)) = f := ⟨_, rfl⟩
    obtain ⟨f5, hf5⟩ : ∃ f, dupFault 5 (fd (c.chans.map (·.id)) c.chans.length) = f := ⟨_, rfl⟩
    have Hf1 := hid hf1
    have Hf4 := hid hf4
    have Hf5 := hid hf5
    clear hf1 hf4 hf5
    go_enter Try.func4, Try.ntmps4
    go_wp2_with fail
    refine Hcall.out.mono ?_
    rintro e w2 ⟨rfl, hb2⟩
    have hb02 := bthen (below_new w _) hb2
    have hbox2 := heap_keep hbox1 hb2
    have hc2 := hc.below hb02
    clear hb2 Hcall hc hbox1
    go_wp2_with fail
    obtain ⟨z0, z1, z2, z3, z4, z5⟩ := box_later hbox2
    go_region_held3 (fun W => Below w2.heap.size w2 W) (first | assumption | exact (Below.refl _ _).drew) (first
      | (go_at_call 19; refine (alive13_c _).mono ?_; rintro e w6 ⟨rfl, hb6⟩; have hS := bthen (w := w2) (by assumption) hb6)
      | (go_at_call 29; refine (Partitions_c' _ c ⟨a1, k1, a2, k2, a3, k3, a4, k4, a5, k5⟩ (hc2.below (by assumption)) f1 Hf1.out).mono ?_; rintro e w6 ⟨rfl, hb6⟩; have hS := bthen (w := w2) (by assumption) hb6)
      | (go_at_call 31; refine (refPartitions_c _ c ⟨a1, k1, a2, k2, a3, k3, a4, k4, a5, k5⟩ (hc2.below (by assumption))).mono ?_; rintro e w6 ⟨rfl, hb6⟩; have hS := bthen (w := w2) (by assumption) hb6)
      | (go_at_call 30; (with_reducible refine (fault_c' _ 1 _ f1 Hf1.out).mono ?_); rintro e w6 ⟨rfl, hb6⟩; have hS := bthen (w := w2) (by assumption) hb6)
      | (go_at_call 32; refine (Ports_c' _ c ⟨a1, k1, a2, k2, a3, k3, a4, k4, a5, k5⟩ (hc2.below (by assumption)) f4 Hf4.out).mono ?_; rintro e w6 ⟨rfl, hb6⟩; have hS := bthen (w := w2) (by assumption) hb6)
      | (go_at_call 33; refine (refPorts_c _ c ⟨a1, k1, a2, k2, a3, k3, a4, k4, a5, k5⟩ (hc2.below (by assumption))).mono ?_; rintro e w6 ⟨rfl, hb6⟩; have hS := bthen (w := w2) (by assumption) hb6)
      | (go_at_call 30; (with_reducible refine (fault_c' _ 4 _ f4 Hf4.out).mono ?_); rintro e w6 ⟨rfl, hb6⟩; have hS := bthen (w := w2) (by assumption) hb6)
      | (go_at_call 34; refine (Channels_c' _ c ⟨a1, k1, a2, k2, a3, k3, a4, k4, a5, k5⟩ (hc2.below (by assumption)) f5 Hf5.out).mono ?_; rintro e w6 ⟨rfl, hb6⟩; have hS := bthen (w := w2) (by assumption) hb6)
      | (go_at_call 35; refine (refChannels_c _ c ⟨a1, k1, a2, k2, a3, k3, a4, k4, a5, k5⟩ (hc2.below (by assumption))).mono ?_; rintro e w6 ⟨rfl, hb6⟩; have hS := bthen (w := w2) (by assumption) hb6)
      | (go_at_call 30; (with_reducible refine (fault_c' _ 5 _ f5 Hf5.out).mono ?_); rintro e w6 ⟨rfl, hb6⟩; have hS := bthen (w := w2) (by assumption) hb6))
    have hbf := bthen hb02 hS
    clear hb6 hS z0 z1 z2 z3 z4 z5 hc2
    go_wp2
    go_ret
    exact ⟨rfl, hbf⟩
end Go.Proofs.Ytfgiocgkkhoamaa
