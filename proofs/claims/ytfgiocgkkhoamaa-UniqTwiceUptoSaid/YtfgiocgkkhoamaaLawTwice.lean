/- the walk of UniqTwice -/
import Derived.Test.YtfgiocgkkhoamaaLawChecks
import Derived.Test.YtfgiocgkkhoamaaClone
namespace Go.Proofs.Ytfgiocgkkhoamaa
open Go.RowKit

theorem refParts_n (w : World) (c : Cfg) (A : Adr) (hc : CfgAt w c A) (p : Int) (hp : dup2 (fd (c.parts.map (·.id)) c.parts.length) (fd (c.parts.map (·.name)) c.parts.length) = p) :
    Calls Try.prog 31 #[cfgVal c A] w fun e w' => e = .returned (.int .i64 p) ∧ Below w.heap.size w w' := by
  subst hp; exact refPartitions_c w c A hc
theorem refPorts_n (w : World) (c : Cfg) (A : Adr) (hc : CfgAt w c A) (p : Int) (hp : dup2 (fd (c.ports.map (·.id)) c.ports.length) (fd (c.ports.map (fun p => (p.part, p.name))) c.ports.length) = p) :
    Calls Try.prog 33 #[cfgVal c A] w fun e w' => e = .returned (.int .i64 p) ∧ Below w.heap.size w w' := by
  subst hp; exact refPorts_c w c A hc
theorem refChans_n (w : World) (c : Cfg) (A : Adr) (hc : CfgAt w c A) (p : Int) (hp : fd (c.chans.map (·.id)) c.chans.length = p) :
    Calls Try.prog 35 #[cfgVal c A] w fun e w' => e = .returned (.int .i64 p) ∧ Below w.heap.size w w' := by
  subst hp; exact refChannels_c w c A hc
theorem box_keep {w w' : World} {b : Nat} {c : Cfg} {A : Adr} {t : TypeId} (h : w.heap[b]? = some (.cells (cfgCells c A) t (0, 0))) (hb : Below w.heap.size w w') : w'.heap[b]? = some (.cells (cfgCells c A) t (0, 0)) := heap_keep h hb

set_option maxHeartbeats 4000000 in
set_option maxRecDepth 100000 in
theorem UniqTwice_walk (w : World) (c : Cfg) (A : Adr) (hc : CfgAt w c A) (hs : Small c) :
    Calls Try.prog 5 #[cfgVal c A] w fun e w' => e = .returned (.bool true) ∧ Below w.heap.size w w' := by
  obtain ⟨a1, k1, a2, k2, a3, k3, a4, k4, a5, k5⟩ := A
  simp only [cfgVal, cfgCells]
  have hbox1 := heap_new w (.cells (cfgCells c ⟨a1, k1, a2, k2, a3, k3, a4, k4, a5, k5⟩) 29)
  have hcall := Few_c _ c ⟨a1, k1, a2, k2, a3, k3, a4, k4, a5, k5⟩ (hc.below (below_new w (.cells (cfgCells c ⟨a1, k1, a2, k2, a3, k3, a4, k4, a5, k5⟩) 29)))
  obtain ⟨fw, hfw⟩ : ∃ f, few c = f := ⟨_, rfl⟩
  rw [hfw] at hcall
  obtain ⟨p1, hp1⟩ : ∃ p, dup2 (fd (c.parts.map (·.id)) c.parts.length) (fd (c.parts.map (·.name)) c.parts.length) = p := ⟨_, rfl⟩
  obtain ⟨p4, hp4⟩ : ∃ p, dup2 (fd (c.ports.map (·.id)) c.ports.length) (fd (c.ports.map (fun p => (p.part, p.name))) c.ports.length) = p := ⟨_, rfl⟩
  obtain ⟨p5, hp5⟩ : ∃ p, fd (c.chans.map (·.id)) c.chans.length = p := ⟨_, rfl⟩
  have Hp1 := hid hp1
  have Hp4 := hid hp4
  have Hp5 := hid hp5
  have Hcall := hid hcall
  have Hc := hid hc
  have Hs := hid hs
  clear hp1 hp4 hp5 hcall hfw hc hs
  cases fw with
  | false =>
    go_enter Try.func5, Try.ntmps5
    go_wp2_with fail
    refine Hcall.out.mono ?_
    rintro e w2 ⟨rfl, hb2⟩
    have Hb2 := hid (bthen (below_new w _) hb2)
    have hbox2 := box_keep hbox1 hb2
    clear hb2 Hcall hbox1
    go_wp2_with fail
    refine (alive13_c _).mono ?_
    rintro e w3 ⟨rfl, hb3⟩
    have Hb3 := hid (bthen Hb2.out hb3)
    clear hb3 Hb2 hbox2
    go_wp2
    go_ret
    exact ⟨rfl, Hb3.out⟩
  | true =>
    by_cases h1 : 0 ≤ p1
    · go_enter Try.func5, Try.ntmps5
      go_wp2_with fail
      refine Hcall.out.mono ?_
      rintro e w2 ⟨rfl, hb2⟩
      have Hb2 := hid (bthen (below_new w _) hb2)
      have hbox2 := box_keep hbox1 hb2
      clear hb2 Hcall hbox1
      obtain ⟨z0, z1, z2, z3, z4, z5⟩ := box_cfg hbox2
      go_wp2_with fail
      refine (refParts_n _ c ⟨a1, k1, a2, k2, a3, k3, a4, k4, a5, k5⟩ (Hc.out.below Hb2.out) _ Hp1.out).mono ?_
      rintro e w3 ⟨rfl, hb3⟩
      have Hb3 := hid (bthen Hb2.out hb3)
      have hbox3 := box_keep hbox2 hb3
      clear hb3 Hb2 hbox2 z0 z1 z2 z3 z4 z5
      go_wp2_with fail
      refine (alive13_c _).mono ?_
      rintro e w4 ⟨rfl, hb4⟩
      have Hb4 := hid (bthen Hb3.out hb4)
      clear hb4 Hb3 hbox3
      go_wp2
      go_ret
      exact ⟨rfl, Hb4.out⟩
    by_cases h4 : 0 ≤ p4
    · go_enter Try.func5, Try.ntmps5
      go_wp2_with fail
      refine Hcall.out.mono ?_
      rintro e w2 ⟨rfl, hb2⟩
      have Hb2 := hid (bthen (below_new w _) hb2)
      have hbox2 := box_keep hbox1 hb2
      clear hb2 Hcall hbox1
      obtain ⟨z0, z1, z2, z3, z4, z5⟩ := box_cfg hbox2
      go_wp2_with fail
      refine (refParts_n _ c ⟨a1, k1, a2, k2, a3, k3, a4, k4, a5, k5⟩ (Hc.out.below Hb2.out) _ Hp1.out).mono ?_
      rintro e w3 ⟨rfl, hb3⟩
      have Hb3 := hid (bthen Hb2.out hb3)
      have hbox3 := box_keep hbox2 hb3
      clear hb3 Hb2 hbox2 z0 z1 z2 z3 z4 z5
      obtain ⟨z0, z1, z2, z3, z4, z5⟩ := box_cfg hbox3
      go_wp2_with fail
      refine (refPorts_n _ c ⟨a1, k1, a2, k2, a3, k3, a4, k4, a5, k5⟩ (Hc.out.below Hb3.out) _ Hp4.out).mono ?_
      rintro e w4 ⟨rfl, hb4⟩
      have Hb4 := hid (bthen Hb3.out hb4)
      have hbox4 := box_keep hbox3 hb4
      clear hb4 Hb3 hbox3 z0 z1 z2 z3 z4 z5
      go_wp2_with fail
      refine (alive13_c _).mono ?_
      rintro e w5 ⟨rfl, hb5⟩
      have Hb5 := hid (bthen Hb4.out hb5)
      clear hb5 Hb4 hbox4
      go_wp2
      go_ret
      exact ⟨rfl, Hb5.out⟩
    by_cases h5 : 0 ≤ p5
    · go_enter Try.func5, Try.ntmps5
      go_wp2_with fail
      refine Hcall.out.mono ?_
      rintro e w2 ⟨rfl, hb2⟩
      have Hb2 := hid (bthen (below_new w _) hb2)
      have hbox2 := box_keep hbox1 hb2
      clear hb2 Hcall hbox1
      obtain ⟨z0, z1, z2, z3, z4, z5⟩ := box_cfg hbox2
      go_wp2_with fail
      refine (refParts_n _ c ⟨a1, k1, a2, k2, a3, k3, a4, k4, a5, k5⟩ (Hc.out.below Hb2.out) _ Hp1.out).mono ?_
      rintro e w3 ⟨rfl, hb3⟩
      have Hb3 := hid (bthen Hb2.out hb3)
      have hbox3 := box_keep hbox2 hb3
      clear hb3 Hb2 hbox2 z0 z1 z2 z3 z4 z5
      obtain ⟨z0, z1, z2, z3, z4, z5⟩ := box_cfg hbox3
      go_wp2_with fail
      refine (refPorts_n _ c ⟨a1, k1, a2, k2, a3, k3, a4, k4, a5, k5⟩ (Hc.out.below Hb3.out) _ Hp4.out).mono ?_
      rintro e w4 ⟨rfl, hb4⟩
      have Hb4 := hid (bthen Hb3.out hb4)
      have hbox4 := box_keep hbox3 hb4
      clear hb4 Hb3 hbox3 z0 z1 z2 z3 z4 z5
      obtain ⟨z0, z1, z2, z3, z4, z5⟩ := box_cfg hbox4
      go_wp2_with fail
      refine (refChans_n _ c ⟨a1, k1, a2, k2, a3, k3, a4, k4, a5, k5⟩ (Hc.out.below Hb4.out) _ Hp5.out).mono ?_
      rintro e w5 ⟨rfl, hb5⟩
      have Hb5 := hid (bthen Hb4.out hb5)
      have hbox5 := box_keep hbox4 hb5
      clear hb5 Hb4 hbox4 z0 z1 z2 z3 z4 z5
      go_wp2_with fail
      refine (alive13_c _).mono ?_
      rintro e w6 ⟨rfl, hb6⟩
      have Hb6 := hid (bthen Hb5.out hb6)
      clear hb6 Hb5 hbox5
      go_wp2
      go_ret
      exact ⟨rfl, Hb6.out⟩
    go_enter Try.func5, Try.ntmps5
    go_wp2_with fail
    refine Hcall.out.mono ?_
    rintro e w2 ⟨rfl, hb2⟩
    have Hb2 := hid (bthen (below_new w _) hb2)
    have hbox2 := box_keep hbox1 hb2
    clear hb2 Hcall hbox1
    obtain ⟨z0, z1, z2, z3, z4, z5⟩ := box_cfg hbox2
    go_wp2_with fail
    refine (refParts_n _ c ⟨a1, k1, a2, k2, a3, k3, a4, k4, a5, k5⟩ (Hc.out.below Hb2.out) _ Hp1.out).mono ?_
    rintro e w3 ⟨rfl, hb3⟩
    have Hb3 := hid (bthen Hb2.out hb3)
    have hbox3 := box_keep hbox2 hb3
    clear hb3 Hb2 hbox2 z0 z1 z2 z3 z4 z5
    obtain ⟨z0, z1, z2, z3, z4, z5⟩ := box_cfg hbox3
    go_wp2_with fail
    refine (refPorts_n _ c ⟨a1, k1, a2, k2, a3, k3, a4, k4, a5, k5⟩ (Hc.out.below Hb3.out) _ Hp4.out).mono ?_
    rintro e w4 ⟨rfl, hb4⟩
    have Hb4 := hid (bthen Hb3.out hb4)
    have hbox4 := box_keep hbox3 hb4
    clear hb4 Hb3 hbox3 z0 z1 z2 z3 z4 z5
    obtain ⟨z0, z1, z2, z3, z4, z5⟩ := box_cfg hbox4
    go_wp2_with fail
    refine (refChans_n _ c ⟨a1, k1, a2, k2, a3, k3, a4, k4, a5, k5⟩ (Hc.out.below Hb4.out) _ Hp5.out).mono ?_
    rintro e w5 ⟨rfl, hb5⟩
    have Hb5 := hid (bthen Hb4.out hb5)
    have hbox5 := box_keep hbox4 hb5
    clear hb5 Hb4 hbox4 z0 z1 z2 z3 z4 z5
    have Hq1 := hid (show dupFault 1 (dup2 (fd ((joinCfg c.frame [c, c]).parts.map (·.id)) (joinCfg c.frame [c, c]).parts.length) (fd ((joinCfg c.frame [c, c]).parts.map (·.name)) (joinCfg c.frame [c, c]).parts.length)) = twF 1 c.parts.length by rw [join_two]; exact tw_two 1 c.parts (·.id) (·.name) (by rw [Hp1.out]; omega))
    have Hq4 := hid (show dupFault 4 (dup2 (fd ((joinCfg c.frame [c, c]).ports.map (·.id)) (joinCfg c.frame [c, c]).ports.length) (fd ((joinCfg c.frame [c, c]).ports.map (fun p => (p.part, p.name))) (joinCfg c.frame [c, c]).ports.length)) = twF 4 c.ports.length by rw [join_two]; exact tw_two 4 c.ports (·.id) (fun p => (p.part, p.name)) (by rw [Hp4.out]; omega))
    have Hq5 := hid (show dupFault 5 (fd ((joinCfg c.frame [c, c]).chans.map (·.id)) (joinCfg c.frame [c, c]).chans.length) = twF 5 c.chans.length by rw [join_two]; exact tw_one 5 c.chans (·.id) (by rw [Hp5.out]; omega))
    clear Hp1 Hp4 Hp5
    obtain ⟨z0, z1, z2, z3, z4, z5⟩ := box_cfg hbox5
    go_wp2_with fail
    clear h1 h4 h5
    refine (Merge_two _ c ⟨a1, k1, a2, k2, a3, k3, a4, k4, a5, k5⟩ _ Hs.out (CfgsAt.two (Hc.out.below Hb5.out) 29)).mono ?_
    rintro e w6 ⟨s1, s2, s3, s4, s5, rfl, hown6, hb6⟩
    have Hb6 := hid (bthen Hb5.out (bthen (below_new _ _) hb6))
    have hbox6 := box_keep hbox5 (bthen (below_new _ _) hb6)
    obtain ⟨⟨b1, l1, b2, l2, b3, l3, b4, l4, b5, l5⟩, rfl, rfl, rfl, rfl, rfl, hm6⟩ := hown6.at (Hs.out.ok2 c.frame Hc.out.ok.frame Hc.out.ok)
    have Hm6 := hid hm6
    clear hb6 Hb5 hbox5 z0 z1 z2 z3 z4 z5 hown6 hm6
    obtain ⟨z0, z1, z2, z3, z4, z5⟩ := box_cfg hbox6
    have hlt6 : w.heap.size < w6.heap.size := lt_of_block hbox6
    go_wp2_with fail
    refine (Counts_c _ c ⟨a1, k1, a2, k2, a3, k3, a4, k4, a5, k5⟩ (Hc.out.below (bthen Hb6.out (below_new _ _)))).mono ?_
    rintro e w7 ⟨rfl, hb7⟩
    have hboxm := box_keep (c := (joinCfg c.frame [c, c])) (A := ⟨b1, l1, b2, l2, b3, l3, b4, l4, b5, l5⟩) (heap_new w6 _) hb7
    have hb67 := bthen (below_new w6 _) hb7
    have Hb7 := hid (bthen Hb6.out hb67)
    have Hm7 := hid (Hm6.out.below hb67)
    clear hb7 hb67 Hb6 Hm6 z0 z1 z2 z3 z4 z5 hlt6 hbox6
    go_wp2_with fail
    refine wp_name (fun W => Below w7.heap.size w7 W ∧ W.heap[w7.heap.size]? = some (.cells #[.int .i64 0, .int .i64 c.parts.length, .int .i64 c.wins.length, .int .i64 c.regs.length, .int .i64 c.ports.length, .int .i64 c.chans.length, .int .i64 (linksW c.chans c.chans.length)] 50 (0, 0))) ⟨below_new _ _, heap_new _ _⟩ ?_
    rintro w8 ⟨hb8, hN8⟩
    have Hb8 := hid (bthen Hb7.out hb8)
    have hm8 := Hm7.out.below hb8
    have hboxm8 := box_keep hboxm hb8
    obtain ⟨f1, hf1⟩ : ∃ f, twF 1 c.parts.length = f := ⟨_, rfl⟩
    obtain ⟨f4, hf4⟩ : ∃ f, twF 4 c.ports.length = f := ⟨_, rfl⟩
    obtain ⟨f5, hf5⟩ : ∃ f, twF 5 c.chans.length = f := ⟨_, rfl⟩
    rw [hf1] at Hq1
    rw [hf4] at Hq4
    rw [hf5] at Hq5
    have Hf1 := hid hf1
    have Hf4 := hid hf4
    have Hf5 := hid hf5
    have Hm8 := hid hm8
    have HN8 := hid hN8
    clear hf1 hf4 hf5 hb8 Hb7 Hm7 hboxm hN8 hm8
    obtain ⟨z0, z1, z2, z3, z4, z5⟩ := box_later hboxm8
    clear hboxm8
    go_region_held3 (fun W => Below w8.heap.size w8 W) (first | assumption | exact (Below.refl _ _).drew | exact bthen (by assumption) (below_new _ _)) (first
      | (go_at_call 29; refine (Partitions_c' _ (joinCfg c.frame [c, c]) ⟨b1, l1, b2, l2, b3, l3, b4, l4, b5, l5⟩ (Hm8.out.below (by assumption)) f1 Hq1.out).mono ?_; rintro e w9 ⟨rfl, hb9⟩; have hS := bthen (w := w8) (by assumption) hb9)
      | (go_at_call 32; refine (Ports_c' _ (joinCfg c.frame [c, c]) ⟨b1, l1, b2, l2, b3, l3, b4, l4, b5, l5⟩ (Hm8.out.below (by assumption)) f4 Hq4.out).mono ?_; rintro e w9 ⟨rfl, hb9⟩; have hS := bthen (w := w8) (by assumption) hb9)
      | (go_at_call 34; refine (Channels_c' _ (joinCfg c.frame [c, c]) ⟨b1, l1, b2, l2, b3, l3, b4, l4, b5, l5⟩ (Hm8.out.below (by assumption)) f5 Hq5.out).mono ?_; rintro e w9 ⟨rfl, hb9⟩; have hS := bthen (w := w8) (by assumption) hb9))
    have Hb9 := hid (bthen Hb8.out hS)
    have HN9 := hid (heap_keep HN8.out hS)
    clear hS hb9 z0 z1 z2 z3 z4 z5 Hb8 HN8 Hm8
    go_wp2_with fail
    refine wp_name (fun W => Below w9.heap.size w9 W ∧ W.heap[w9.heap.size]? = some (.cells #[.int .i64 f1.1, .int .i64 f1.2.1, .int .i64 f1.2.2, .int .i64 f4.1, .int .i64 f4.2.1, .int .i64 f4.2.2, .int .i64 f5.1, .int .i64 f5.2.1, .int .i64 f5.2.2] 45 (0, 0)) ∧
      W.heap[w9.heap.size + 1]? = some (.cells #[.int .i64 1, .int .i64 4, .int .i64 5] 3 (0, 0))) ⟨(below_new _ _).alloc (by simp) _, by repeat (first | (refine heap_at ?_; simp; done) | refine heap_alloc' ?_ _), by repeat (first | (refine heap_at ?_; simp; done) | refine heap_alloc' ?_ _)⟩ ?_
    rintro w11 ⟨hb11, hF11, hG11⟩
    have HN11 := hid (heap_keep HN9.out hb11)
    have HF11 := hid hF11
    have HG11 := hid hG11
    have Hb11 := hid (bthen Hb9.out hb11)
    clear hb11 hG11 hF11 Hb9 HN9
    go_loopw [45] (fun i wr => ∃ k : Nat, k ≤ 3 ∧ i = .int .i64 k ∧ Below w11.heap.size w11 wr) (fun i _ => 3 - (intOf i).toNat)
    case atStart => exact ⟨0, Nat.zero_le _, rfl, Below.refl _ _⟩
    case round =>
      obtain ⟨k, hkn, rfl, hbr⟩ := hrel
      have hF := heap_keep HF11.out hbr
      have hN := heap_keep HN11.out hbr
      have hG := heap_keep HG11.out hbr
      obtain rfl | rfl | rfl | rfl : k = 0 ∨ k = 1 ∨ k = 2 ∨ k = 3 := by omega
      · have g0 := cell_of_heap (i := 0) hF rfl
        have g1 := cell_of_heap (i := 1) hF rfl
        have g2 := cell_of_heap (i := 2) hF rfl
        have n0 := cell_of_heap (i := 1) hN rfl
        have j0 := cell_of_heap (i := 0) hG rfl
        have lF := lt_of_block hF
        have lN := lt_of_block hN
        have lG := lt_of_block hG
        have Hbr := hid hbr
        have HF := hid hF
        clear hbr hF hN hG
        by_cases hn : c.parts.length = 0
        · have he : f1 = (0, 0, 0) := by rw [← Hf1.out]; exact twF_zero hn
          subst he
          dsimp only at g0 g1 g2 ⊢
          rw [hn] at n0
          clear hn Hf1 Hq1
          go_wp2_with fail
          refine wp_name (fun W => Below wr.heap.size wr W ∧ W.heap[wr.heap.size]? = some (.cells #[.int .i64 0, .int .i64 0, .int .i64 0] 45 (0, 0))) ⟨below_new _ _, heap_new _ _⟩ ?_
          rintro w12 ⟨hb12, hT⟩
          have y0 := cell_of_heap (i := 0) hT rfl
          have y1 := cell_of_heap (i := 1) hT rfl
          have y2 := cell_of_heap (i := 2) hT rfl
          have x0 := cell_below hb12 g0
          have x1 := cell_below hb12 g1
          have x2 := cell_below hb12 g2
          have Hb12 := hid hb12
          clear hb12 hT g0 g1 g2 n0 j0 lN lG lF
          go_quiet (fail)
          go_wp2
          go_roundw
          case rel => exact ⟨1, by omega, by go_num, bdrewN (bthen Hbr.out Hb12.out) _⟩
          case measure => simp [intOf]
        · have Hd := hid (show dupFault 1 (c.parts.length : Int) = f1 by rw [← Hf1.out, twF_pos (by omega), dupFault_pos (by omega)])
          go_wp2_with fail
          refine (fault_c' _ 1 _ f1 Hd.out).mono ?_
          rintro e w12 ⟨rfl, hb12⟩
          have hT := heap_keep (heap_new wr _) hb12
          have hb13 := bthen (below_new wr _) hb12
          have x0 := cell_below hb13 g0
          have x1 := cell_below hb13 g1
          have x2 := cell_below hb13 g2
          have y0 := cell_of_heap (i := 0) hT rfl
          have y1 := cell_of_heap (i := 1) hT rfl
          have y2 := cell_of_heap (i := 2) hT rfl
          have hfz : ∀ i, w12.frozen? ⟨wr.heap.size, i, none⟩ = false := fun i => free_of_heap hT
          have Hb13 := hid hb13
          have HT := hid hT
          clear hb12 hb13 hT g0 g1 g2 n0 j0 lN lG
          go_wp2_with fail
          refine wp_name (fun W => Below wr.heap.size wr W ∧ W.heap[wr.heap.size]? = some (.cells #[.int .i64 f1.1, .int .i64 f1.2.1, .int .i64 f1.2.2] 45 (0, 0))) ⟨bset (bset (bset Hb13.out (Nat.le_refl _) _ _) (Nat.le_refl _) _ _) (Nat.le_refl _) _ _, set3 HT.out _ _ _⟩ ?_
          rintro w14 ⟨hb14, hT⟩
          clear x0 x1 x2 y0 y1 y2 hfz
          have y0 := cell_of_heap (i := 0) hT rfl
          have y1 := cell_of_heap (i := 1) hT rfl
          have y2 := cell_of_heap (i := 2) hT rfl
          have x0 := cell_below hb14 (cell_of_heap (i := 0) HF.out rfl)
          have x1 := cell_below hb14 (cell_of_heap (i := 1) HF.out rfl)
          have x2 := cell_below hb14 (cell_of_heap (i := 2) HF.out rfl)
          have Hb14 := hid hb14
          clear hb14 hT lF
          go_quiet (fail)
          go_wp2
          go_roundw
          case rel => exact ⟨1, by omega, by go_num, bdrewN (bthen Hbr.out Hb14.out) _⟩
          case measure => simp [intOf]
      · have g0 := cell_of_heap (i := 3) hF rfl
        have g1 := cell_of_heap (i := 4) hF rfl
        have g2 := cell_of_heap (i := 5) hF rfl
        have n0 := cell_of_heap (i := 4) hN rfl
        have j0 := cell_of_heap (i := 1) hG rfl
        have lF := lt_of_block hF
        have lN := lt_of_block hN
        have lG := lt_of_block hG
        have Hbr := hid hbr
        have HF := hid hF
        clear hbr hF hN hG
        by_cases hn : c.ports.length = 0
        · have he : f4 = (0, 0, 0) := by rw [← Hf4.out]; exact twF_zero hn
          subst he
          dsimp only at g0 g1 g2 ⊢
          rw [hn] at n0
          clear hn Hf4 Hq4
          go_wp2_with fail
          refine wp_name (fun W => Below wr.heap.size wr W ∧ W.heap[wr.heap.size]? = some (.cells #[.int .i64 0, .int .i64 0, .int .i64 0] 45 (0, 0))) ⟨below_new _ _, heap_new _ _⟩ ?_
          rintro w12 ⟨hb12, hT⟩
          have y0 := cell_of_heap (i := 0) hT rfl
          have y1 := cell_of_heap (i := 1) hT rfl
          have y2 := cell_of_heap (i := 2) hT rfl
          have x0 := cell_below hb12 g0
          have x1 := cell_below hb12 g1
          have x2 := cell_below hb12 g2
          have Hb12 := hid hb12
          clear hb12 hT g0 g1 g2 n0 j0 lN lG lF
          go_quiet (fail)
          go_wp2
          go_roundw
          case rel => exact ⟨2, by omega, by go_num, bdrewN (bthen Hbr.out Hb12.out) _⟩
          case measure => simp [intOf]
        · have Hd := hid (show dupFault 4 (c.ports.length : Int) = f4 by rw [← Hf4.out, twF_pos (by omega), dupFault_pos (by omega)])
          go_wp2_with fail
          refine (fault_c' _ 4 _ f4 Hd.out).mono ?_
          rintro e w12 ⟨rfl, hb12⟩
          have hT := heap_keep (heap_new wr _) hb12
          have hb13 := bthen (below_new wr _) hb12
          have x0 := cell_below hb13 g0
          have x1 := cell_below hb13 g1
          have x2 := cell_below hb13 g2
          have y0 := cell_of_heap (i := 0) hT rfl
          have y1 := cell_of_heap (i := 1) hT rfl
          have y2 := cell_of_heap (i := 2) hT rfl
          have hfz : ∀ i, w12.frozen? ⟨wr.heap.size, i, none⟩ = false := fun i => free_of_heap hT
          have Hb13 := hid hb13
          have HT := hid hT
          clear hb12 hb13 hT g0 g1 g2 n0 j0 lN lG
          go_wp2_with fail
          refine wp_name (fun W => Below wr.heap.size wr W ∧ W.heap[wr.heap.size]? = some (.cells #[.int .i64 f4.1, .int .i64 f4.2.1, .int .i64 f4.2.2] 45 (0, 0))) ⟨bset (bset (bset Hb13.out (Nat.le_refl _) _ _) (Nat.le_refl _) _ _) (Nat.le_refl _) _ _, set3 HT.out _ _ _⟩ ?_
          rintro w14 ⟨hb14, hT⟩
          clear x0 x1 x2 y0 y1 y2 hfz
          have y0 := cell_of_heap (i := 0) hT rfl
          have y1 := cell_of_heap (i := 1) hT rfl
          have y2 := cell_of_heap (i := 2) hT rfl
          have x0 := cell_below hb14 (cell_of_heap (i := 3) HF.out rfl)
          have x1 := cell_below hb14 (cell_of_heap (i := 4) HF.out rfl)
          have x2 := cell_below hb14 (cell_of_heap (i := 5) HF.out rfl)
          have Hb14 := hid hb14
          clear hb14 hT lF
          go_quiet (fail)
          go_wp2
          go_roundw
          case rel => exact ⟨2, by omega, by go_num, bdrewN (bthen Hbr.out Hb14.out) _⟩
          case measure => simp [intOf]
      · have g0 := cell_of_heap (i := 6) hF rfl
        have g1 := cell_of_heap (i := 7) hF rfl
        have g2 := cell_of_heap (i := 8) hF rfl
        have n0 := cell_of_heap (i := 5) hN rfl
        have j0 := cell_of_heap (i := 2) hG rfl
        have lF := lt_of_block hF
        have lN := lt_of_block hN
        have lG := lt_of_block hG
        have Hbr := hid hbr
        have HF := hid hF
        clear hbr hF hN hG
        by_cases hn : c.chans.length = 0
        · have he : f5 = (0, 0, 0) := by rw [← Hf5.out]; exact twF_zero hn
          subst he
          dsimp only at g0 g1 g2 ⊢
          rw [hn] at n0
          clear hn Hf5 Hq5
          go_wp2_with fail
          refine wp_name (fun W => Below wr.heap.size wr W ∧ W.heap[wr.heap.size]? = some (.cells #[.int .i64 0, .int .i64 0, .int .i64 0] 45 (0, 0))) ⟨below_new _ _, heap_new _ _⟩ ?_
          rintro w12 ⟨hb12, hT⟩
          have y0 := cell_of_heap (i := 0) hT rfl
          have y1 := cell_of_heap (i := 1) hT rfl
          have y2 := cell_of_heap (i := 2) hT rfl
          have x0 := cell_below hb12 g0
          have x1 := cell_below hb12 g1
          have x2 := cell_below hb12 g2
          have Hb12 := hid hb12
          clear hb12 hT g0 g1 g2 n0 j0 lN lG lF
          go_quiet (fail)
          go_wp2
          go_roundw
          case rel => exact ⟨3, by omega, by go_num, bdrewN (bthen Hbr.out Hb12.out) _⟩
          case measure => simp [intOf]
        · have Hd := hid (show dupFault 5 (c.chans.length : Int) = f5 by rw [← Hf5.out, twF_pos (by omega), dupFault_pos (by omega)])
          go_wp2_with fail
          refine (fault_c' _ 5 _ f5 Hd.out).mono ?_
          rintro e w12 ⟨rfl, hb12⟩
          have hT := heap_keep (heap_new wr _) hb12
          have hb13 := bthen (below_new wr _) hb12
          have x0 := cell_below hb13 g0
          have x1 := cell_below hb13 g1
          have x2 := cell_below hb13 g2
          have y0 := cell_of_heap (i := 0) hT rfl
          have y1 := cell_of_heap (i := 1) hT rfl
          have y2 := cell_of_heap (i := 2) hT rfl
          have hfz : ∀ i, w12.frozen? ⟨wr.heap.size, i, none⟩ = false := fun i => free_of_heap hT
          have Hb13 := hid hb13
          have HT := hid hT
          clear hb12 hb13 hT g0 g1 g2 n0 j0 lN lG
          go_wp2_with fail
          refine wp_name (fun W => Below wr.heap.size wr W ∧ W.heap[wr.heap.size]? = some (.cells #[.int .i64 f5.1, .int .i64 f5.2.1, .int .i64 f5.2.2] 45 (0, 0))) ⟨bset (bset (bset Hb13.out (Nat.le_refl _) _ _) (Nat.le_refl _) _ _) (Nat.le_refl _) _ _, set3 HT.out _ _ _⟩ ?_
          rintro w14 ⟨hb14, hT⟩
          clear x0 x1 x2 y0 y1 y2 hfz
          have y0 := cell_of_heap (i := 0) hT rfl
          have y1 := cell_of_heap (i := 1) hT rfl
          have y2 := cell_of_heap (i := 2) hT rfl
          have x0 := cell_below hb14 (cell_of_heap (i := 6) HF.out rfl)
          have x1 := cell_below hb14 (cell_of_heap (i := 7) HF.out rfl)
          have x2 := cell_below hb14 (cell_of_heap (i := 8) HF.out rfl)
          have Hb14 := hid hb14
          clear hb14 hT lF
          go_quiet (fail)
          go_wp2
          go_roundw
          case rel => exact ⟨3, by omega, by go_num, bdrewN (bthen Hbr.out Hb14.out) _⟩
          case measure => simp [intOf]
      · have Hbr := hid (bthen Hb11.out hbr)
        clear hbr hF hN hG
        go_wp2_with fail
        refine (alive13_c _).mono ?_
        rintro e w12 ⟨rfl, hb12⟩
        have Hb12 := hid (bthen Hbr.out hb12)
        clear hb12
        go_wp2
        go_ret
        exact ⟨rfl, Hb12.out⟩
end Go.Proofs.Ytfgiocgkkhoamaa
