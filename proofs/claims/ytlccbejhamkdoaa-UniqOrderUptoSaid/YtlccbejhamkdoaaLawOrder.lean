/- conf.Clone, and the walk of UniqOrder -/
import Derived.Test.YtlccbejhamkdoaaLawTwice
import Derived.Test.YtlccbejhamkdoaaRev
namespace Go.Proofs.Ytlccbejhamkdoaa
open Go.RowKit

set_option maxHeartbeats 1000000 in
theorem Clone_c (w : World) (c : Cfg) (A : Adr) (hc : CfgAt w c A) (hs : Small c) :
    Calls Try.prog 10 #[cfgVal c A] w fun e w' => ∃ s1 s2 s3 s4 s5, e = .returned (.agg #[.int .u64 c.frame, s1, s2, s3, s4, s5]) ∧ OwnCfg w' w.heap.size c s1 s2 s3 s4 s5 ∧ Below w.heap.size w w' := by
  obtain ⟨a1, k1, a2, k2, a3, k3, a4, k4, a5, k5⟩ := A
  simp only [cfgVal, cfgCells]
  have Hc := hid hc
  have Hs := hid hs
  clear hc hs
  go_enter Try.func10, Try.ntmps10
  go_wp2_with fail
  refine (Merge_one (((w.alloc _).alloc _).alloc (.cells (cfgCells c ⟨a1, k1, a2, k2, a3, k3, a4, k4, a5, k5⟩) 29)) c ⟨a1, k1, a2, k2, a3, k3, a4, k4, a5, k5⟩ _ Hs.out (by have := CfgsAt.one (Hc.out.below ((below_new w (.cells (cfgCells c ⟨a1, k1, a2, k2, a3, k3, a4, k4, a5, k5⟩) 29)).alloc (by simp) (.cells #[.int .u64 0, .slice none 0 0, .slice none 0 0, .slice none 0 0, .slice none 0 0, .slice none 0 0] 29))) 29; simp only [World.size_alloc] at this; exact this)).mono ?_
  rintro e w2 ⟨s1, s2, s3, s4, s5, rfl, hown, hb⟩
  have hb2 : Below w.heap.size w w2 := bthen (((below_new _ _).alloc (by simp) _).alloc (by simp only [World.size_alloc]; omega) _) hb
  have hres : w2.heap[w.heap.size + 1]? = some (.cells #[.int .u64 0, .slice none 0 0, .slice none 0 0, .slice none 0 0, .slice none 0 0, .slice none 0 0] 29 (0, 0)) := heap_keep (by repeat (first | (refine heap_at ?_; simp; done) | refine heap_alloc' ?_ _)) hb
  have hown2 := hown.base (base' := w.heap.size) (by simp only [World.size_alloc]; omega)
  obtain ⟨⟨b1, l1, b2, l2, b3, l3, b4, l4, b5, l5⟩, rfl, rfl, rfl, rfl, rfl, _⟩ := hown2.at Hc.out.ok
  obtain ⟨r0, r1, r2, r3, r4, r5⟩ := cells6 hres
  have hf : ∀ i, w2.frozen? ⟨w.heap.size + 1, i, none⟩ = false := fun i => free_of_heap hres
  have Hown := hid hown2
  have Hb := hid hb2
  have Hres := hid hres
  clear hown hb hown2 hb2 hres
  go_wp2
  refine bodyPost_six rfl rfl rfl (set6 Hres.out _ _ _ _ _ _) ⟨_, _, _, _, _, rfl, ?_, ?_⟩
  · exact Hown.out.set6 Hres.out _ _ _ _ _ _
  · exact bset6 Hb.out (by omega) _ _ _ _ _ _
/-! ### reversed -/
def revCfg (c : Cfg) : Cfg := { c with parts := c.parts.reverse, ports := c.ports.reverse, chans := c.chans.reverse }
theorem revCfg_ok {c : Cfg} (h : c.ok) : (revCfg c).ok := by
  have hm : ∀ {α : Type} {p : α → Prop} {l : List α}, (∀ x ∈ l, p x) → ∀ x ∈ l.reverse, p x := fun h x hx => h x (by simpa using hx)
  refine ⟨h.frame, hm h.parts, h.wins, h.regs, hm h.ports, hm h.chans, ?_, h.nwins, h.nregs, ?_, ?_⟩
  · have := h.nparts; simpa [revCfg] using this
  · have := h.nports; simpa [revCfg] using this
  · have := h.nchans; simpa [revCfg] using this
theorem revCfg_cells (c : Cfg) (A : Adr) : cfgCells (revCfg c) A = cfgCells c A := by simp [cfgCells, revCfg]

theorem OwnCfg.rev {w w1 w2 w3 : World} {base : Nat} {c : Cfg} {s1 s2 s3 s4 s5 : Value} (h : OwnCfg w base c s1 s2 s3 s4 s5)
    (h1 : w1.ownsRow base 36 4 s1 c.parts.length (c.parts.reverse.flatMap encPart)) (g1 : w.grownBy w1 s1.ownBlock)
    (h2 : w2.ownsRow base 40 6 s4 c.ports.length (c.ports.reverse.flatMap encPrt)) (g2 : w1.grownBy w2 s4.ownBlock) (g4 : w1.ownsRow base 40 6 s4 c.ports.length (c.ports.flatMap encPrt))
    (h3 : ∃ xs, w3.ownsRow base 44 3 s5 c.chans.length xs ∧ ChnRow w3 base c.chans.reverse xs) (g3 : w2.grownBy w3 s5.ownBlock) (g5 : ∃ xs, w2.ownsRow base 44 3 s5 c.chans.length xs) :
    OwnCfg w3 base (revCfg c) s1 s2 s3 s4 s5 := by
  obtain ⟨xs, h3a, h3b⟩ := h3
  obtain ⟨ys, g5⟩ := g5
  refine ⟨?_, ?_, ?_, ?_, xs, ?_, h3b⟩
  · have := own_kept (own_kept h1 (KeptE.grown g4 g2 (by decide))) (KeptE.grown g5 g3 (by decide))
    simpa [revCfg] using this
  · exact own_kept (own_kept (own_kept h.o2 (KeptE.grown h.o1 g1 (by decide))) (KeptE.grown g4 g2 (by decide))) (KeptE.grown g5 g3 (by decide))
  · exact own_kept (own_kept (own_kept h.o3 (KeptE.grown h.o1 g1 (by decide))) (KeptE.grown g4 g2 (by decide))) (KeptE.grown g5 g3 (by decide))
  · have := own_kept h2 (KeptE.grown g5 g3 (by decide))
    simpa [revCfg] using this
  · simpa [revCfg] using h3a

/-- what the checks of the reversed configuration find, beside what the reference finds -/
def Pair (f : Int × Int × Int) (p : Int) : Prop := (f = (0, 0, 0) ∧ p < 0) ∨ (∃ q : Int × Int, f = (18, q) ∧ decide (p < 0) = false)
theorem pair_one {α κ : Type} [DecidableEq κ] (s : Int) (l : List α) (f : α → κ) : Pair (dupFault s (fd (l.reverse.map f) l.reverse.length)) (fd (l.map f) l.length) := by
  have h := fd_rev (ks := l.map f)
  rw [← List.map_reverse, List.length_map, List.length_map] at h
  by_cases hn : fd (l.map f) l.length < 0
  · exact .inl ⟨dupFault_neg (h.2 hn), hn⟩
  · have h2 : ¬ fd (l.reverse.map f) l.reverse.length < 0 := fun e => hn (h.1 e)
    exact .inr ⟨_, dupFault_pos (by omega), by simpa using hn⟩
theorem pair_two {α κ κ' : Type} [DecidableEq κ] [DecidableEq κ'] (s : Int) (l : List α) (f : α → κ) (g : α → κ') :
    Pair (dupFault s (dup2 (fd (l.reverse.map f) l.reverse.length) (fd (l.reverse.map g) l.reverse.length))) (dup2 (fd (l.map f) l.length) (fd (l.map g) l.length)) := by
  have h := fd_rev (ks := l.map f)
  have h' := fd_rev (ks := l.map g)
  rw [← List.map_reverse, List.length_map, List.length_map] at h h'
  by_cases hn : dup2 (fd (l.map f) l.length) (fd (l.map g) l.length) < 0
  · have hb := dup2_neg_iff.1 hn
    exact .inl ⟨dupFault_neg (dup2_neg_iff.2 ⟨h.2 hb.1, h'.2 hb.2⟩), hn⟩
  · have h2 : ¬ dup2 (fd (l.reverse.map f) l.reverse.length) (fd (l.reverse.map g) l.reverse.length) < 0 := fun e => by
      have hb := dup2_neg_iff.1 e
      exact hn (dup2_neg_iff.2 ⟨h.1 hb.1, h'.1 hb.2⟩)
    exact .inr ⟨_, dupFault_pos (by omega), by simpa using hn⟩

theorem rPartitions (w : World) (c : Cfg) (A : Adr) (hc : CfgAt w (revCfg c) A) (f : Int × Int × Int) (hf : dupFault 1 (dup2 (fd (c.parts.reverse.map (·.id)) c.parts.reverse.length) (fd (c.parts.reverse.map (·.name)) c.parts.reverse.length)) = f) :
    Calls Try.prog 14 #[cfgVal c A] w fun e w' => e = .returned (.agg #[.int .i64 f.1, .int .i64 f.2.1, .int .i64 f.2.2]) ∧ Below w.heap.size w w' := by
  have := Partitions_c' w (revCfg c) A hc f hf
  rwa [cfgVal, revCfg_cells] at this
theorem rPorts (w : World) (c : Cfg) (A : Adr) (hc : CfgAt w (revCfg c) A) (f : Int × Int × Int) (hf : dupFault 4 (dup2 (fd (c.ports.reverse.map (·.id)) c.ports.reverse.length) (fd (c.ports.reverse.map (fun p => (p.part, p.name))) c.ports.reverse.length)) = f) :
    Calls Try.prog 16 #[cfgVal c A] w fun e w' => e = .returned (.agg #[.int .i64 f.1, .int .i64 f.2.1, .int .i64 f.2.2]) ∧ Below w.heap.size w w' := by
  have := Ports_c' w (revCfg c) A hc f hf
  rwa [cfgVal, revCfg_cells] at this
theorem rChannels (w : World) (c : Cfg) (A : Adr) (hc : CfgAt w (revCfg c) A) (f : Int × Int × Int) (hf : dupFault 5 (fd (c.chans.reverse.map (·.id)) c.chans.reverse.length) = f) :
    Calls Try.prog 18 #[cfgVal c A] w fun e w' => e = .returned (.agg #[.int .i64 f.1, .int .i64 f.2.1, .int .i64 f.2.2]) ∧ Below w.heap.size w w' := by
  have := Channels_c' w (revCfg c) A hc f hf
  rwa [cfgVal, revCfg_cells] at this

set_option maxHeartbeats 4000000 in
set_option maxRecDepth 100000 in
theorem UniqOrder_walk (w : World) (c : Cfg) (A : Adr) (hc : CfgAt w c A) (hs : Small c) :
    Calls Try.prog 3 #[cfgVal c A] w fun e w' => e = .returned (.bool true) ∧ Below w.heap.size w w' := by
  obtain ⟨a1, k1, a2, k2, a3, k3, a4, k4, a5, k5⟩ := A
  simp only [cfgVal, cfgCells]
  have hbox1 := heap_new w (.cells (cfgCells c ⟨a1, k1, a2, k2, a3, k3, a4, k4, a5, k5⟩) 29)
  have hcall := Few_c _ c ⟨a1, k1, a2, k2, a3, k3, a4, k4, a5, k5⟩ (hc.below (below_new w (.cells (cfgCells c ⟨a1, k1, a2, k2, a3, k3, a4, k4, a5, k5⟩) 29)))
  obtain ⟨fw, hfw⟩ : ∃ f, few c = f := ⟨_, rfl⟩
  rw [hfw] at hcall
  have Hcall := hid hcall
  have Hc := hid hc
  have Hs := hid hs
  clear hcall hfw hc hs
  cases fw with
  | false =>
    go_enter Try.func3, Try.ntmps3
    go_wp2_with fail
    refine Hcall.out.mono ?_
    rintro e w2 ⟨rfl, hb2⟩
    have Hb2 := hid (bthen (below_new w _) hb2)
    clear hb2 Hcall hbox1
    go_wp2_with fail
    refine (alive13_c _).mono ?_
    rintro e w3 ⟨rfl, hb3⟩
    have Hb3 := hid (bthen Hb2.out hb3)
    clear hb3 Hb2
    go_wp2
    go_ret
    exact ⟨rfl, Hb3.out⟩
  | true =>
    go_enter Try.func3, Try.ntmps3
    go_wp2_with fail
    refine Hcall.out.mono ?_
    rintro e w2 ⟨rfl, hb2⟩
    have Hb2 := hid (bthen (below_new w _) hb2)
    have hbox2 := box_keep hbox1 hb2
    clear hb2 Hcall hbox1
    obtain ⟨z0, z1, z2, z3, z4, z5⟩ := box_cfg hbox2
    go_wp2_with fail
    refine (Clone_c _ c ⟨a1, k1, a2, k2, a3, k3, a4, k4, a5, k5⟩ (Hc.out.below Hb2.out) Hs.out).mono ?_
    rintro e w3 ⟨s1, s2, s3, s4, s5, rfl, hown3, hb3⟩
    have hbox3 := box_keep hbox2 hb3
    have Hb3 := hid (bthen Hb2.out hb3)
    have hown := (hown3.base (base' := w.heap.size) Hb2.out.size).kept (below_new w3 (.cells #[.int .u64 c.frame, s1, s2, s3, s4, s5] 29))
    obtain ⟨⟨b1, l1, b2, l2, b3, l3, b4, l4, b5, l5⟩, rfl, rfl, rfl, rfl, rfl, _⟩ := hown.at Hc.out.ok
    have hboxx : (w3.alloc (.cells #[.int .u64 c.frame, .slice b1 c.parts.length l1, .slice b2 c.wins.length l2, .slice b3 c.regs.length l3, .slice b4 c.ports.length l4, .slice b5 c.chans.length l5] 29)).heap[w3.heap.size]? = some (.cells (cfgCells c ⟨b1, l1, b2, l2, b3, l3, b4, l4, b5, l5⟩) 29 (0, 0)) := heap_new w3 _
    have hbox4 := box_keep hbox3 (below_new w3 (.cells #[.int .u64 c.frame, .slice b1 c.parts.length l1, .slice b2 c.wins.length l2, .slice b3 c.regs.length l3, .slice b4 c.ports.length l4, .slice b5 c.chans.length l5] 29))
    have Hb4 := hid (bthen Hb3.out (below_new w3 (.cells #[.int .u64 c.frame, .slice b1 c.parts.length l1, .slice b2 c.wins.length l2, .slice b3 c.regs.length l3, .slice b4 c.ports.length l4, .slice b5 c.chans.length l5] 29)))
    have Hown := hid hown
    have Hboxx := hid hboxx
    have Hbox4 := hid hbox4
    have hn := Hs.out.sum
    have Hn := hid hn
    clear hb3 hown3 hown hboxx hbox4 hbox2 hbox3 Hb2 z0 z1 z2 z3 z4 z5 hn
    go_wp2_with fail
    refine (revP_c _ w.heap.size _ c.parts (by have := Hn.out; omega) Hown.out.o1).mono ?_
    rintro e w5 ⟨rfl, h1, g1⟩
    have hx5 := KeptE.grown Hown.out.o1 g1 (by decide) _ _ _ Hboxx.out
    have hc5 := KeptE.grown Hown.out.o1 g1 (by decide) _ _ _ Hbox4.out
    have Hb5 := hid (below_own Hb4.out Hown.out.o1 (Nat.le_refl _) g1)
    have H4 := hid (own_kept Hown.out.o4 (KeptE.grown Hown.out.o1 g1 (by decide)))
    have H5 := hid (show ∃ xs, w5.ownsRow w.heap.size 44 3 (.slice b5 c.chans.length l5) c.chans.length xs ∧ ChnRow w5 w.heap.size c.chans xs from by
      obtain ⟨xs, q1, q2⟩ := Hown.out.o5
      exact ⟨xs, own_kept q1 (KeptE.grown Hown.out.o1 g1 (by decide)), q2.kept (KeptE.grown Hown.out.o1 g1 (by decide))⟩)
    have H1 := hid h1
    have G1 := hid g1
    clear h1 g1 Hb4
    obtain ⟨z0, z1, z2, z3, z4, z5⟩ := box_cfg hx5
    go_wp2_with fail
    refine (revQ_c _ w.heap.size _ c.ports (by have := Hn.out; omega) H4.out).mono ?_
    rintro e w6 ⟨rfl, h2, g2⟩
    have hx6 := KeptE.grown H4.out g2 (by decide) _ _ _ hx5
    have hc6 := KeptE.grown H4.out g2 (by decide) _ _ _ hc5
    have Hb6 := hid (below_own Hb5.out H4.out (Nat.le_refl _) g2)
    have H6 := hid (show ∃ xs, w6.ownsRow w.heap.size 44 3 (.slice b5 c.chans.length l5) c.chans.length xs ∧ ChnRow w6 w.heap.size c.chans xs from by
      obtain ⟨xs, q1, q2⟩ := H5.out
      exact ⟨xs, own_kept q1 (KeptE.grown H4.out g2 (by decide)), q2.kept (KeptE.grown H4.out g2 (by decide))⟩)
    have H2 := hid h2
    have G2 := hid g2
    clear h2 g2 Hb5 hx5 hc5 z0 z1 z2 z3 z4 z5
    obtain ⟨z0, z1, z2, z3, z4, z5⟩ := box_cfg hx6
    go_wp2_with fail
    obtain ⟨xs, q1, q2⟩ := H6.out
    have hcall := revC_c _ w.heap.size _ c.chans xs (by have := Hn.out; omega) q1 q2
    refine hcall.mono ?_
    rintro e w7 ⟨rfl, h3, g3⟩
    have hx7 := KeptE.grown q1 g3 (by decide) _ _ _ hx6
    have hc7 := KeptE.grown q1 g3 (by decide) _ _ _ hc6
    have Hb7 := hid (below_own Hb6.out q1 (Nat.le_refl _) g3)
    have hrev := Hown.out.rev H1.out G1.out H2.out G2.out H4.out h3 g3 ⟨xs, q1⟩
    obtain ⟨A', e1, e2, e3, e4, e5, hat⟩ := hrev.at (revCfg_ok Hc.out.ok)
    have hA : CfgAt w7 (revCfg c) ⟨b1, l1, b2, l2, b3, l3, b4, l4, b5, l5⟩ := by
      obtain ⟨c1, d1, c2, d2, c3, d3, c4, d4, c5, d5⟩ := A'
      simp only [Value.slice.injEq] at e1 e2 e3 e4 e5
      obtain ⟨rfl, _, rfl⟩ := e1
      obtain ⟨rfl, _, rfl⟩ := e2
      obtain ⟨rfl, _, rfl⟩ := e3
      obtain ⟨rfl, _, rfl⟩ := e4
      obtain ⟨rfl, _, rfl⟩ := e5
      exact hat
    clear hrev hat e1 e2 e3 e4 e5 h3 g3 hcall q1 q2 H1 H2 H4 H5 H6 G1 G2 Hown Hb6 hx6 hc6 z0 z1 z2 z3 z4 z5 Hboxx Hbox4 Hb3 Hn Hs
    have hr1 := pair_two 1 c.parts (·.id) (·.name)
    have hr4 := pair_two 4 c.ports (·.id) (fun p => (p.part, p.name))
    have hr5 := pair_one 5 c.chans (·.id)
    obtain ⟨p1, hp1⟩ : ∃ p, dup2 (fd (c.parts.map (·.id)) c.parts.length) (fd (c.parts.map (·.name)) c.parts.length) = p := ⟨_, rfl⟩
    obtain ⟨p4, hp4⟩ : ∃ p, dup2 (fd (c.ports.map (·.id)) c.ports.length) (fd (c.ports.map (fun p => (p.part, p.name))) c.ports.length) = p := ⟨_, rfl⟩
    obtain ⟨p5, hp5⟩ : ∃ p, fd (c.chans.map (·.id)) c.chans.length = p := ⟨_, rfl⟩
    obtain ⟨f1, hf1⟩ : ∃ f, dupFault 1 (dup2 (fd (c.parts.reverse.map (·.id)) c.parts.reverse.length) (fd (c.parts.reverse.map (·.name)) c.parts.reverse.length)) = f := ⟨_, rfl⟩
    obtain ⟨f4, hf4⟩ : ∃ f, dupFault 4 (dup2 (fd (c.ports.reverse.map (·.id)) c.ports.reverse.length) (fd (c.ports.reverse.map (fun p => (p.part, p.name))) c.ports.reverse.length)) = f := ⟨_, rfl⟩
    obtain ⟨f5, hf5⟩ : ∃ f, dupFault 5 (fd (c.chans.reverse.map (·.id)) c.chans.reverse.length) = f := ⟨_, rfl⟩
    rw [hp1, hf1] at hr1
    rw [hp4, hf4] at hr4
    rw [hp5, hf5] at hr5
    have Hp1 := hid hp1
    have Hp4 := hid hp4
    have Hp5 := hid hp5
    have Hf1 := hid hf1
    have Hf4 := hid hf4
    have Hf5 := hid hf5
    have HA := hid hA
    have Hc7 := hid (Hc.out.below Hb7.out)
    clear hp1 hp4 hp5 hf1 hf4 hf5 hA Hc
    go_wp2_with fail
    obtain ⟨z0, z1, z2, z3, z4, z5⟩ := box_later hc7
    obtain ⟨x0, x1, x2, x3, x4, x5⟩ := box_later hx7
    clear hc7 hx7
    rcases hr1 with ⟨rfl, h1⟩ | ⟨⟨u1, v1⟩, rfl, h1⟩ <;> rcases hr4 with ⟨rfl, h4⟩ | ⟨⟨u4, v4⟩, rfl, h4⟩ <;> rcases hr5 with ⟨rfl, h5⟩ | ⟨⟨u5, v5⟩, rfl, h5⟩
    all_goals
      go_region_held3 (fun W => Below w7.heap.size w7 W) (first | assumption | exact (Below.refl _ _).drew | exact bthen (by assumption) (below_new _ _)) (first
        | (go_at_call 9; refine (alive13_c _).mono ?_; rintro e w9 ⟨rfl, hb9⟩; have hS := bthen (w := w7) (by assumption) hb9)
        | (go_at_call 14; refine (rPartitions _ c ⟨b1, l1, b2, l2, b3, l3, b4, l4, b5, l5⟩ (HA.out.below (by assumption)) _ Hf1.out).mono ?_; rintro e w9 ⟨rfl, hb9⟩; have hS := bthen (w := w7) (by assumption) hb9)
        | (go_at_call 15; refine (refParts_n _ c ⟨a1, k1, a2, k2, a3, k3, a4, k4, a5, k5⟩ (Hc7.out.below (by assumption)) _ Hp1.out).mono ?_; rintro e w9 ⟨rfl, hb9⟩; have hS := bthen (w := w7) (by assumption) hb9)
        | (go_at_call 16; refine (rPorts _ c ⟨b1, l1, b2, l2, b3, l3, b4, l4, b5, l5⟩ (HA.out.below (by assumption)) _ Hf4.out).mono ?_; rintro e w9 ⟨rfl, hb9⟩; have hS := bthen (w := w7) (by assumption) hb9)
        | (go_at_call 17; refine (refPorts_n _ c ⟨a1, k1, a2, k2, a3, k3, a4, k4, a5, k5⟩ (Hc7.out.below (by assumption)) _ Hp4.out).mono ?_; rintro e w9 ⟨rfl, hb9⟩; have hS := bthen (w := w7) (by assumption) hb9)
        | (go_at_call 18; refine (rChannels _ c ⟨b1, l1, b2, l2, b3, l3, b4, l4, b5, l5⟩ (HA.out.below (by assumption)) _ Hf5.out).mono ?_; rintro e w9 ⟨rfl, hb9⟩; have hS := bthen (w := w7) (by assumption) hb9)
        | (go_at_call 19; refine (refChans_n _ c ⟨a1, k1, a2, k2, a3, k3, a4, k4, a5, k5⟩ (Hc7.out.below (by assumption)) _ Hp5.out).mono ?_; rintro e w9 ⟨rfl, hb9⟩; have hS := bthen (w := w7) (by assumption) hb9))
    all_goals
      have Hbf := hid (bthen Hb7.out hS)
      clear hb9 hS z0 z1 z2 z3 z4 z5 x0 x1 x2 x3 x4 x5
      go_wp2
      go_ret
      exact ⟨rfl, Hbf.out⟩
end Go.Proofs.Ytlccbejhamkdoaa
