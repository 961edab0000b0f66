/- the walk of DemandLeasts -/
import Derived.Test.YtlccbejhamkdoaaLawDemA
namespace Go.Proofs.Ytlccbejhamkdoaa
open Go.RowKit

theorem lawDivides_c (w : World) (c : Cfg) (A : Adr) (hc : CfgAt w c A) (i : Nat) (hi : i < c.parts.length) :
    Calls Try.prog 24 #[cfgVal c A, .int .i64 i] w fun e w' => e = .returned (.bool (divs c.parts[i].period c.frame)) ∧ Below w.heap.size w w' := by
  have hn := hc.ok.nparts
  have hok := hid (hc.ok.parts _ (List.getElem_mem hi))
  have hfr := hid hc.ok.frame
  obtain ⟨p, hp⟩ : ∃ p, c.parts[i] = p := ⟨_, rfl⟩
  rw [hp] at hok ⊢
  obtain ⟨a1, k1, a2, k2, a3, k3, a4, k4, a5, k5⟩ := A
  obtain ⟨b, o, ha, hb0, h0, h1, h2, h3⟩ := hc.parts.part hi
  simp only at ha
  subst ha
  rw [hp] at h0 h1 h2 h3
  simp only [cfgVal, cfgCells]
  clear hc hp
  go_enter Try.func24, Try.ntmps24
  go_wp2_with fail
  refine wp_name (fun W => Below w.heap.size w W ∧ W.heap[w.heap.size]? = some (.cells (cfgCells c ⟨some ⟨b, o, none⟩, k1, a2, k2, a3, k3, a4, k4, a5, k5⟩) 29 (0, 0))) ⟨below_new _ _, heap_new _ _⟩ ?_
  rintro w5 ⟨hb5, hbox⟩
  obtain ⟨z0, z1, z2, z3, z4, z5⟩ := box_later hbox
  have y2 : ∀ W, Below w5.heap.size w5 W → W.cell? ⟨b, o + i * 4 + 2, none⟩ = some (.int .u64 p.period) := fun W hW => cell_below hW (cell_below hb5 h2)
  clear hbox h0 h1 h2 h3
  go_region_held3 (fun W => Below w5.heap.size w5 W) (first | assumption | exact (Below.refl _ _).drew) (first
    | (go_at_call 62; refine (refDivides_c _ p.period c.frame hok.out.2.2.1 hfr.out).mono ?_; rintro e w6 ⟨rfl, hb6⟩; have hS := bthen (w := w5) (by assumption) hb6))
  have hbf := bthen hb5 hS
  clear hS hb6 z0 z1 z2 z3 z4 z5 y2
  go_wp2
  go_ret
  exact ⟨rfl, hbf⟩

theorem short_least {c : Cfg} (hR : RightW c) {p : Part} (hP : 0 < p.period) {count : Int} (hF : c.frame = count * p.period) :
    decide (leastOf p.period ((periodsOf count).map (inC c p)) < p.dur) = (firstShort p.dur (allOf (inC c p) count)).2 := by
  by_cases hd : p.dur ≤ p.period
  · exact (short_iff hd).symm
  · have hc : 0 < count := by
      rcases Int.lt_or_le 0 count with h' | h'
      · exact h'
      · have := mul_mono hP h'; have := hR.pos; omega
    have h1 := (leastOf_le ((periodsOf count).map (inC c p)) p.period).1
    have h2 : decide (leastOf p.period ((periodsOf count).map (inC c p)) < p.dur) = true := by rw [decide_eq_true_eq]; omega
    rw [h2]
    have h3 : inC c p ((0 : Nat) : Int) < p.dur := by
      have h4 := hR.apart.used_le p.id (a := ((0 : Nat) : Int) * p.period) (b := (((0 : Nat) : Int) + 1) * p.period) (by simp) (by simp; omega)
      unfold inC
      have h5 : (((0 : Nat) : Int) + 1) * p.period - ((0 : Nat) : Int) * p.period = p.period := by simp
      omega
    rw [firstAll_at (k := 0) (by omega) (fun j hj => by omega) h3]

set_option maxHeartbeats 4000000 in
theorem DemandLeasts_walk (w : World) (c : Cfg) (A : Adr) (hc : CfgAt w c A) :
    Calls Try.prog 5 #[cfgVal c A] w fun e w' => e = .returned (.bool true) ∧ Below w.heap.size w w' := by
  have hn := hc.ok.nparts
  have h1 := hid (fun W (h : CfgAt W c A) => fits_c W c A h)
  have hbox := heap_new w (.cells (cfgCells c A) 29)
  have hc1 := hid (hc.below (below_new w (.cells (cfgCells c A) 29)))
  have h2 := hid (fun W (h : CfgAt W c A) i hi => lawDivides_c W c A h i hi)
  have h3 := hid (fun W (h : CfgAt W c A) (hR : RightW c) i hi hP count hF => demShort_c W c A h hR i hi hP count hF)
  have h4 := hid (fun W (h : CfgAt W c A) (hR : RightW c) i hi hP count hcnt hF => refShort_c W c A h hR.apart i hi hP count hcnt hF)
  have h5 := hid (fun W (h : CfgAt W c A) (hR : RightW c) i hi hP count hF => demLeast_c W c A h hR i hi hP count hF)
  have h6 := hid (fun W (h : CfgAt W c A) (hR : RightW c) i hi hP count hcnt hF => refLeast_c W c A h hR.apart i hi hP count hcnt hF)
  obtain ⟨a1, k1, a2, k2, a3, k3, a4, k4, a5, k5⟩ := A
  simp only [cfgVal, cfgCells] at h1 h2 h3 h4 h5 h6 ⊢
  have Hbox := hid hbox
  clear hc hbox
  go_enter Try.func5, Try.ntmps5
  go_wp2_with fail
  refine (h1.out _ hc1.out).mono ?_
  rintro e w2 ⟨r, rfl, hr, hb2⟩
  have hb02 := bthen (below_new w _) hb2
  have hc2 := hid (hc1.out.below hb2)
  have Hbox2 := hid (heap_keep Hbox.out hb2)
  have Hr := hid hr
  have hw2 : w.heap.size < w2.heap.size := lt_of_block Hbox2.out
  clear hb2 hc1 Hbox hr
  cases r
  · go_wp2_with fail
    refine (alive16_c _).mono ?_
    rintro e w3 ⟨rfl, hb3⟩
    have hb03 := bthen hb02 hb3
    clear hb3
    go_wp2
    go_ret
    exact ⟨rfl, hb03⟩
  · have HR := hid (Hr.out (by trivial)).1
    have Hb02 := hid hb02
    obtain ⟨z0, z1, z2, z3, z4, z5⟩ := box_cfg Hbox2.out
    simp only at z0 z1 z2 z3 z4 z5
    go_wp2
    clear z0 z1 z2 z3 z4 z5 hb02
    go_loopw [17] (fun i wr => ∃ k : Nat, k ≤ c.parts.length ∧ i = .int .i64 k ∧ Below w2.heap.size w2 wr) (fun i _ => c.parts.length - (intOf i).toNat)
    case atStart => exact ⟨0, Nat.zero_le _, rfl, Below.refl _ _⟩
    case round =>
      obtain ⟨k, hkn, rfl, hbr⟩ := hrel
      by_cases hlt : k < c.parts.length
      · obtain ⟨b, o, ha, hb0, g0, g1, g2, g3⟩ := (hc2.out.below hbr).parts.part hlt
        simp only at ha
        subst ha
        have D2 := hid (fun W hW => h2.out W hW k hlt)
        have D3 := hid (fun W hW => h3.out W hW HR.out k hlt)
        have D4 := hid (fun W hW => h4.out W hW HR.out k hlt)
        have D5 := hid (fun W hW => h5.out W hW HR.out k hlt)
        have D6 := hid (fun W hW => h6.out W hW HR.out k hlt)
        obtain ⟨p, hp⟩ : ∃ p, c.parts[k] = p := ⟨_, rfl⟩
        rw [hp] at g0 g1 g2 g3 D2 D3 D4 D5 D6
        clear hp
        obtain ⟨z0, z1, z2, z3, z4, z5⟩ := box_cfg (heap_keep Hbox2.out hbr)
        simp only at z0 z1 z2 z3 z4 z5
        have hcr := hid (hc2.out.below hbr)
        have hwr : w.heap.size < wr.heap.size := by have := hbr.size; omega
        go_wp2_with fail
        refine (D2.out _ (hcr.out.below (below_new _ _))).mono ?_
        rintro e w3 ⟨rfl, hb3⟩
        have hb23 := bthen hbr (bthen (below_new _ _) hb3)
        have hpb := hid (heap_keep (heap_new wr (.cells #[.int .u16 p.id, .string p.name, .int .u64 p.period, .int .u64 p.dur] 36)) hb3)
        clear hb3 z0 z1 z2 z3 z4 z5 g0 g1 g2 g3 hcr hb0
        cases hdv : divs p.period c.frame
        · clear hdv
          go_wp2
          refine ⟨⟨k + 1, by omega, by go_num, hb23⟩, by simp [intOf]; omega⟩
        · obtain ⟨hP, hF⟩ := divs_facts hdv
          have hcn := count_nonneg HR.out hP
          have hsl := short_least HR.out hP hF
          obtain ⟨count, hcount⟩ : ∃ count, c.frame / p.period = count := ⟨_, rfl⟩
          rw [hcount] at hF hcn hsl
          have E3 := hid (fun W hW => D3.out W hW hP count hF)
          have E4 := hid (fun W hW => D4.out W hW hP count hcn hF)
          have E5 := hid (fun W hW => D5.out W hW hP count hF)
          have E6 := hid (fun W hW => D6.out W hW hP count hcn hF)
          obtain ⟨kk, sh, hks⟩ : ∃ kk sh, firstShort p.dur (allOf (inC c p) count) = (kk, sh) := ⟨_, _, rfl⟩
          obtain ⟨L, hL⟩ : ∃ L, leastOf p.period ((periodsOf count).map (inC c p)) = L := ⟨_, rfl⟩
          rw [hks] at E3 E4 hsl
          rw [hL] at E5 E6 hsl
          have hsb : decide (L < p.dur) = sh := hsl
          have Hsb := hid hsb
          clear hdv hF hcn hsl hcount hks hL D2 D3 D4 D5 D6 hsb
          have hc3 := hid (hc2.out.below hb23)
          obtain ⟨z0, z1, z2, z3, z4, z5⟩ := box_cfg (heap_keep Hbox2.out hb23)
          simp only at z0 z1 z2 z3 z4 z5
          go_wp2_with fail
          refine (E3.out _ hc3.out).mono ?_
          rintro e w4 ⟨rfl, hb4⟩
          have hb24 := bthen hb23 hb4
          have hpb4 := hid (heap_keep hpb.out hb4)
          have hc4 := hid (hc3.out.below hb4)
          clear z0 z1 z2 z3 z4 z5 hb4 hb23 hpb hc3
          obtain ⟨z0, z1, z2, z3, z4, z5⟩ := box_cfg (heap_keep Hbox2.out hb24)
          simp only at z0 z1 z2 z3 z4 z5
          go_wp2_with fail
          refine (E4.out _ hc4.out).mono ?_
          rintro e w5 ⟨rfl, hb5⟩
          have hb25 := bthen hb24 hb5
          have hpb5 := hid (heap_keep hpb4.out hb5)
          have hc5 := hid (hc4.out.below hb5)
          clear z0 z1 z2 z3 z4 z5 hb5 hb24 hpb4 hc4
          obtain ⟨z0, z1, z2, z3, z4, z5⟩ := box_cfg (heap_keep Hbox2.out hb25)
          simp only at z0 z1 z2 z3 z4 z5
          go_wp2_with fail
          refine (E5.out _ hc5.out).mono ?_
          rintro e w6 ⟨rfl, hb6⟩
          have hb26 := bthen hb25 hb6
          have hpb6 := hid (heap_keep hpb5.out hb6)
          have hc6 := hid (hc5.out.below hb6)
          clear z0 z1 z2 z3 z4 z5 hb6 hb25 hpb5 hc5
          obtain ⟨z0, z1, z2, z3, z4, z5⟩ := box_cfg (heap_keep Hbox2.out hb26)
          simp only at z0 z1 z2 z3 z4 z5
          go_wp2_with fail
          refine (E6.out _ hc6.out).mono ?_
          rintro e w7 ⟨rfl, hb7⟩
          have hb27 := bthen hb26 hb7
          have q3 := cell_of_heap (i := 3) (heap_keep hpb6.out hb7) rfl
          clear z0 z1 z2 z3 z4 z5 hb7 hb26 hpb6 hc6
          have hsb : decide (L < p.dur) = sh := Hsb.out
          cases sh
          · have hnl : ¬ L < p.dur := of_decide_eq_false hsb
            go_wp2
            refine ⟨⟨k + 1, by omega, by go_num, hb27⟩, by simp [intOf]; omega⟩
          · have hnl : L < p.dur := of_decide_eq_true hsb
            go_wp2
            refine ⟨⟨k + 1, by omega, by go_num, hb27⟩, by simp [intOf]; omega⟩
      · have hb0r := hid (bthen Hb02.out hbr)
        go_wp2_with fail
        refine (alive16_c _).mono ?_
        rintro e w3 ⟨rfl, hb3⟩
        have hb03 := bthen hb0r.out hb3
        clear hb3
        go_wp2
        go_ret
        exact ⟨rfl, hb03⟩
end Go.Proofs.Ytlccbejhamkdoaa
