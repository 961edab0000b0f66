/- the reference's checks of identifiers and names (fenestraref13) -/
import Derived.Test.YtlccbejhamkdoaaRefB
import Derived.Test.YtlccbejhamkdoaaOwn
import Derived.KernelRfl
import Derived.StillTailTactics
namespace Go.Proofs.Ytlccbejhamkdoaa
open Go.RowKit

theorem info_u16 : (Try.prog.info? 34).map (fun i => (i.zero, i.size, i.bytes)) = some (some (.int .u16 0), 1, 2) := by kernel_rfl

/-- of two faults the first -/
def dup2 (a b : Int) : Int := if 0 ≤ a then a else b
theorem dup2_pos {a b : Int} (h : 0 ≤ a) : dup2 a b = a := by simp [dup2, h]
theorem dup2_neg {a b : Int} (h : ¬ 0 ≤ a) : dup2 a b = b := by simp [dup2, h]

set_option maxHeartbeats 400000 in
theorem refChannels_c (w : World) (c : Cfg) (A : Adr) (hc : CfgAt w c A) :
    Calls Try.prog 19 #[cfgVal c A] w fun e w' => e = .returned (.int .i64 (fd (c.chans.map (·.id)) c.chans.length)) ∧ Below w.heap.size w w' := by
  obtain ⟨a1, k1, a2, k2, a3, k3, a4, k4, a5, k5⟩ := A
  have hn := hc.ok.nchans
  simp only [cfgVal, cfgCells]
  go_enter Try.func19, Try.ntmps19
  go_wp2
  refine wp_name (fun W => Below w.heap.size w W ∧ W.heap.size = w.heap.size + 1 ∧ W.heap[w.heap.size]? = some (.cells (cfgCells c ⟨a1, k1, a2, k2, a3, k3, a4, k4, a5, k5⟩) 29 (0, 0))) ⟨below_new _ _, by simp, heap_new _ _⟩ ?_
  rintro w1 ⟨hb1, hs1, hbox⟩
  have hc1 := hc.below hb1
  clear hc
  have Hs1 := hid hs1
  clear hs1
  go_loopw [3, 4] (fun v i wr => ∃ k : Nat, k ≤ c.chans.length ∧ i = .int .i64 k ∧ wr.ownsRow w1.heap.size 34 1 v k (((c.chans.map (·.id)).take k).flatMap (fun n => [.int .u16 n])) ∧ Below w1.heap.size w1 wr) (fun _ i _ => c.chans.length - (intOf i).toNat)
  case atStart => exact ⟨0, Nat.zero_le _, rfl, World.ownsRow_nil _ _ _ _, Below.refl _ _⟩
  case round =>
    obtain ⟨k, hkn, rfl, hown, hbr⟩ := hrel
    have hb := (box_cfg (heap_keep hbox hbr)).2.2.2.2.2
    simp only at hb
    by_cases hlt : k < c.chans.length
    · obtain ⟨b, o, d, cc, rfl, hb0, h0, h1, h2, _, _⟩ := (hc1.below hbr).chans.chn hlt
      have Hc1 := hid hc1
      have hsz := hbr.size
      have Hbr := hid hbr
      have Hown := hid hown
      clear hc1 hbr hown hbox
      go_wp2_with (at_builtin; refine stop ?_)
      refine go_on ?_
      refine wp_append_lit rfl _ _ 42 34 rfl (z := .int .u16 0) (size := 1) (bytes := 2) Try.underlying42 info_u16 rfl (by decide) _ w1.heap.size _ k _ [.int .u16 c.chans[k].id] 1 rfl rfl (by exact Hown.out) rfl (by simp [Value.oneCell']) (by omega) (by omega) (by omega) ?_
      intro v' w' hown' hg _
      have Hown' := hid hown'
      have Hg := hid hg
      clear hown' hg
      go_wp2
      go_roundw
      case rel =>
        refine ⟨k + 1, by omega, by go_num, ?_, below_own Hbr.out Hown.out (Nat.le_refl _) Hg.out⟩
        have := Hown'.out
        rwa [List.take_add_one, List.getElem?_map, List.getElem?_eq_getElem hlt, List.flatMap_append]
      case measure => simp [intOf]; omega
    · have hke : k = c.chans.length := by omega
      subst hke
      rw [List.take_of_length_le (by simp)] at hown
      obtain ⟨a, cap, rfl, hcap⟩ := own_slice hown
      have hrow : RowAt 1 (fun n => [.int .u16 n]) wr a (c.chans.map (·.id)) := own_row hown (by simp) (by simp)
      have hcr := hc1.below hbr
      have hboxr := heap_keep hbox hbr
      have hbw := bthen hb1 hbr
      clear hown hc1 hbox hbr hb1 hcr hboxr
      go_wp2_with fail
      have hcall := refRepeated_c wr a cap (c.chans.map (·.id)) hrow (by simp; omega)
      rw [List.length_map] at hcall
      refine hcall.mono ?_
      rintro e w2 ⟨rfl, hb2⟩
      have hbf := bthen hbw hb2
      clear hb2 hbw hcall hrow
      go_wp2
      go_ret
      exact ⟨rfl, hbf⟩

set_option maxHeartbeats 1000000 in
theorem refPartitions_c (w : World) (c : Cfg) (A : Adr) (hc : CfgAt w c A) :
    Calls Try.prog 15 #[cfgVal c A] w fun e w' => e = .returned (.int .i64 (dup2 (fd (c.parts.map (·.id)) c.parts.length) (fd (c.parts.map (·.name)) c.parts.length))) ∧ Below w.heap.size w w' := by
  obtain ⟨a1, k1, a2, k2, a3, k3, a4, k4, a5, k5⟩ := A
  have hn := hc.ok.nparts
  simp only [cfgVal, cfgCells]
  go_enter Try.func15, Try.ntmps15
  go_wp2
  refine wp_name (fun W => Below w.heap.size w W ∧ W.heap.size = w.heap.size + 1 ∧ W.heap[w.heap.size]? = some (.cells (cfgCells c ⟨a1, k1, a2, k2, a3, k3, a4, k4, a5, k5⟩) 29 (0, 0))) ⟨below_new _ _, by simp, heap_new _ _⟩ ?_
  rintro w1 ⟨hb1, hs1, hbox⟩
  have hc1 := hc.below hb1
  clear hc
  have Hs1 := hid hs1
  clear hs1
  go_loopw [3, 4] (fun v i wr => ∃ k : Nat, k ≤ c.parts.length ∧ i = .int .i64 k ∧ wr.ownsRow w1.heap.size 34 1 v k (((c.parts.map (·.id)).take k).flatMap (fun n => [.int .u16 n])) ∧ Below w1.heap.size w1 wr) (fun _ i _ => c.parts.length - (intOf i).toNat)
  case atStart => exact ⟨0, Nat.zero_le _, rfl, World.ownsRow_nil _ _ _ _, Below.refl _ _⟩
  case round =>
    obtain ⟨k, hkn, rfl, hown, hbr⟩ := hrel
    have hb := (box_cfg (heap_keep hbox hbr)).2.1
    simp only at hb
    by_cases hlt : k < c.parts.length
    · obtain ⟨b, o, rfl, hb0, h0, h1, h2, h3⟩ := (hc1.below hbr).parts.part hlt
      have Hc1 := hid hc1
      have hsz := hbr.size
      have Hbr := hid hbr
      have Hown := hid hown
      clear hc1 hbr hown hbox
      go_wp2_with (at_builtin; refine stop ?_)
      refine go_on ?_
      refine wp_append_lit rfl _ _ 42 34 rfl (z := .int .u16 0) (size := 1) (bytes := 2) Try.underlying42 info_u16 rfl (by decide) _ w1.heap.size _ k _ [.int .u16 c.parts[k].id] 1 rfl rfl (by exact Hown.out) rfl (by simp [Value.oneCell']) (by omega) (by omega) (by omega) ?_
      intro v' w' hown' hg _
      have Hown' := hid hown'
      have Hg := hid hg
      clear hown' hg
      go_wp2
      go_roundw
      case rel =>
        refine ⟨k + 1, by omega, by go_num, ?_, below_own Hbr.out Hown.out (Nat.le_refl _) Hg.out⟩
        have := Hown'.out
        rwa [List.take_add_one, List.getElem?_map, List.getElem?_eq_getElem hlt, List.flatMap_append]
      case measure => simp [intOf]; omega
    · have hke : k = c.parts.length := by omega
      subst hke
      rw [List.take_of_length_le (by simp)] at hown
      obtain ⟨a, cap, rfl, hcap⟩ := own_slice hown
      have hrow : RowAt 1 (fun n => [.int .u16 n]) wr a (c.parts.map (·.id)) := own_row hown (by simp) (by simp)
      have hcr := hc1.below hbr
      have hboxr := heap_keep hbox hbr
      have hbw := bthen hb1 hbr
      clear hown hc1 hbox hbr hb1
      go_wp2_with fail
      have hcall := refRepeated_c wr a cap (c.parts.map (·.id)) hrow (by simp; omega)
      rw [List.length_map] at hcall
      refine hcall.mono ?_
      rintro e w2 ⟨rfl, hb2⟩
      have hbf := bthen hbw hb2
      have hcf := hcr.below hb2
      have hboxf := heap_keep hboxr hb2
      clear hb2 hbw hcall hrow hcr hboxr
      have hr := fd_range (c.parts.map (·.id)) c.parts.length
      by_cases hneg : 0 ≤ fd (c.parts.map (·.id)) c.parts.length
      · have hd : Hid (dup2 (fd (c.parts.map (·.id)) c.parts.length) (fd (c.parts.map (·.name)) c.parts.length) = fd (c.parts.map (·.id)) c.parts.length) := dup2_pos hneg
        go_wp2
        go_ret
        exact ⟨ret_int hd.out.symm, hbf⟩
      · have hd : Hid (dup2 (fd (c.parts.map (·.id)) c.parts.length) (fd (c.parts.map (·.name)) c.parts.length) = fd (c.parts.map (·.name)) c.parts.length) := dup2_neg hneg
        go_wp2
        go_loopw [6] (fun i wr => ∃ k : Nat, k ≤ c.parts.length ∧ i = .int .i64 k ∧ Hid (Diff (c.parts.map (·.name)) k) ∧ Below w2.heap.size w2 wr) (fun i _ => c.parts.length - (intOf i).toNat)
        case atStart => exact ⟨0, Nat.zero_le _, rfl, Diff.zero _, Below.refl _ _⟩
        case round =>
          obtain ⟨k, hkn, rfl, Hk, hb3⟩ := hrel
          obtain ⟨wo, rfl⟩ : ∃ wo : World, wo = wr := ⟨_, rfl⟩
          have hb := (box_cfg (heap_keep hboxf hb3)).2.1
          simp only at hb
          by_cases hlt : k < c.parts.length
          · go_wp2
            go_loopw [7] (fun t wr => ∃ j : Nat, j ≤ k ∧ t = .int .i64 j ∧ Hid (∀ j', j' < j → (c.parts.map (·.name))[j']? ≠ (c.parts.map (·.name))[k]?) ∧ Below w2.heap.size w2 wr) (fun t _ => k - (intOf t).toNat)
            case atStart => exact ⟨0, Nat.zero_le _, rfl, fun j hj => by omega, hb3⟩
            case round =>
              obtain ⟨j, hjk, rfl, Hj, hb4⟩ := hrel
              have hbb := (box_cfg (heap_keep hboxf hb4)).2.1
              simp only at hbb
              clear hb
              by_cases hjl : j < k
              · have hr2 := (hcf.below hb4).parts
                have hlj : j < c.parts.length := by omega
                obtain ⟨b, o, rfl, hbs, -, h1, -, -⟩ := hr2.part (k := k) hlt
                obtain ⟨b', o', hbo, hbs', -, g1, -, -⟩ := hr2.part (k := j) hlj
                simp only [Option.some.injEq, Addr.mk.injEq, and_true] at hbo
                obtain ⟨rfl, rfl⟩ := hbo
                clear hr2 hbs'
                by_cases he : c.parts[j].name = c.parts[k].name
                · have hbe : (c.parts[j].name.toList == c.parts[k].name.toList) = true := by rw [he]; simp
                  have hfin : Hid (fd (c.parts.map (·.name)) c.parts.length = k) := by
                    have := fd_at (ks := c.parts.map (·.name)) (n := k) (by simpa using hlt) Hk.out hjl (by simp [hlt, hlj, he])
                    rwa [List.length_map] at this
                  clear he
                  have Hcf := hid hcf
                  have Hb4 := hid hb4
                  clear hcf hboxf hb3 hb4
                  go_wp2
                  go_quiet (fail)
                  go_wp2
                  go_ret
                  exact ⟨ret_int (hfin.out.symm.trans hd.out.symm), bdrewN (bthen hbf Hb4.out) _⟩
                · have hbe : (c.parts[j].name.toList == c.parts[k].name.toList) = false := by rw [← beq_toListBytes]; exact bytes_ne he
                  have hnext : Hid (∀ j', j' < j + 1 → (c.parts.map (·.name))[j']? ≠ (c.parts.map (·.name))[k]?) := by
                    intro j' hj'
                    rcases Nat.lt_succ_iff_lt_or_eq.1 hj' with h | rfl
                    · exact Hj.out j' h
                    · simpa [hlt, hlj] using he
                  clear he
                  have Hcf := hid hcf
                  have Hb4 := hid hb4
                  clear hcf hboxf hb3 hb4
                  go_wp2
                  go_quiet (fail)
                  go_wp2
                  go_roundw
                  case rel => exact ⟨j + 1, by omega, by go_num, hnext, bdrewN Hb4.out _⟩
                  case measure => simp [intOf]; omega
              · have hdd : Hid (Diff (c.parts.map (·.name)) (k + 1)) := Hk.out.succ (fun j' hj' => Hj.out j' (by omega))
                go_wp2
                go_roundw
                case rel => exact ⟨k + 1, by omega, by go_num, hdd, hb4⟩
                case measure => simp [intOf]; omega
          · have hke : k = c.parts.length := by omega
            have hfin : Hid (fd (c.parts.map (·.name)) c.parts.length = -1) := by
              have := fd_no (ks := c.parts.map (·.name)) (by rw [List.length_map, ← hke]; exact Hk.out)
              rwa [List.length_map] at this
            clear hke
            go_wp2
            go_ret
            exact ⟨ret_int (hfin.out.symm.trans hd.out.symm), bthen hbf hb3⟩

set_option maxHeartbeats 1000000 in
theorem refPorts_c (w : World) (c : Cfg) (A : Adr) (hc : CfgAt w c A) :
    Calls Try.prog 17 #[cfgVal c A] w fun e w' => e = .returned (.int .i64 (dup2 (fd (c.ports.map (·.id)) c.ports.length) (fd (c.ports.map (fun p => (p.part, p.name))) c.ports.length))) ∧ Below w.heap.size w w' := by
  obtain ⟨a1, k1, a2, k2, a3, k3, a4, k4, a5, k5⟩ := A
  have hn := hc.ok.nports
  simp only [cfgVal, cfgCells]
  go_enter Try.func17, Try.ntmps17
  go_wp2
  refine wp_name (fun W => Below w.heap.size w W ∧ W.heap.size = w.heap.size + 1 ∧ W.heap[w.heap.size]? = some (.cells (cfgCells c ⟨a1, k1, a2, k2, a3, k3, a4, k4, a5, k5⟩) 29 (0, 0))) ⟨below_new _ _, by simp, heap_new _ _⟩ ?_
  rintro w1 ⟨hb1, hs1, hbox⟩
  have hc1 := hc.below hb1
  clear hc
  have Hs1 := hid hs1
  clear hs1
  go_loopw [3, 4] (fun v i wr => ∃ k : Nat, k ≤ c.ports.length ∧ i = .int .i64 k ∧ wr.ownsRow w1.heap.size 34 1 v k (((c.ports.map (·.id)).take k).flatMap (fun n => [.int .u16 n])) ∧ Below w1.heap.size w1 wr) (fun _ i _ => c.ports.length - (intOf i).toNat)
  case atStart => exact ⟨0, Nat.zero_le _, rfl, World.ownsRow_nil _ _ _ _, Below.refl _ _⟩
  case round =>
    obtain ⟨k, hkn, rfl, hown, hbr⟩ := hrel
    have hb := (box_cfg (heap_keep hbox hbr)).2.2.2.2.1
    simp only at hb
    by_cases hlt : k < c.ports.length
    · obtain ⟨b, o, rfl, hb0, h0, h1, h2, h3, h4, h5⟩ := (hc1.below hbr).ports.prt hlt
      have Hc1 := hid hc1
      have hsz := hbr.size
      have Hbr := hid hbr
      have Hown := hid hown
      clear hc1 hbr hown hbox
      go_wp2_with (at_builtin; refine stop ?_)
      refine go_on ?_
      refine wp_append_lit rfl _ _ 42 34 rfl (z := .int .u16 0) (size := 1) (bytes := 2) Try.underlying42 info_u16 rfl (by decide) _ w1.heap.size _ k _ [.int .u16 c.ports[k].id] 1 rfl rfl (by exact Hown.out) rfl (by simp [Value.oneCell']) (by omega) (by omega) (by omega) ?_
      intro v' w' hown' hg _
      have Hown' := hid hown'
      have Hg := hid hg
      clear hown' hg
      go_wp2
      go_roundw
      case rel =>
        refine ⟨k + 1, by omega, by go_num, ?_, below_own Hbr.out Hown.out (Nat.le_refl _) Hg.out⟩
        have := Hown'.out
        rwa [List.take_add_one, List.getElem?_map, List.getElem?_eq_getElem hlt, List.flatMap_append]
      case measure => simp [intOf]; omega
    · have hke : k = c.ports.length := by omega
      subst hke
      rw [List.take_of_length_le (by simp)] at hown
      obtain ⟨a, cap, rfl, hcap⟩ := own_slice hown
      have hrow : RowAt 1 (fun n => [.int .u16 n]) wr a (c.ports.map (·.id)) := own_row hown (by simp) (by simp)
      have hcr := hc1.below hbr
      have hboxr := heap_keep hbox hbr
      have hbw := bthen hb1 hbr
      clear hown hc1 hbox hbr hb1
      go_wp2_with fail
      have hcall := refRepeated_c wr a cap (c.ports.map (·.id)) hrow (by simp; omega)
      rw [List.length_map] at hcall
      refine hcall.mono ?_
      rintro e w2 ⟨rfl, hb2⟩
      have hbf := bthen hbw hb2
      have hcf := hcr.below hb2
      have hboxf := heap_keep hboxr hb2
      clear hb2 hbw hcall hrow hcr hboxr
      have hr := fd_range (c.ports.map (·.id)) c.ports.length
      by_cases hneg : 0 ≤ fd (c.ports.map (·.id)) c.ports.length
      · have hd : Hid (dup2 (fd (c.ports.map (·.id)) c.ports.length) (fd (c.ports.map (fun p => (p.part, p.name))) c.ports.length) = fd (c.ports.map (·.id)) c.ports.length) := dup2_pos hneg
        go_wp2
        go_ret
        exact ⟨ret_int hd.out.symm, hbf⟩
      · have hd : Hid (dup2 (fd (c.ports.map (·.id)) c.ports.length) (fd (c.ports.map (fun p => (p.part, p.name))) c.ports.length) = fd (c.ports.map (fun p => (p.part, p.name))) c.ports.length) := dup2_neg hneg
        go_wp2
        go_loopw [6] (fun i wr => ∃ k : Nat, k ≤ c.ports.length ∧ i = .int .i64 k ∧ Hid (Diff (c.ports.map (fun p => (p.part, p.name))) k) ∧ Below w2.heap.size w2 wr) (fun i _ => c.ports.length - (intOf i).toNat)
        case atStart => exact ⟨0, Nat.zero_le _, rfl, Diff.zero _, Below.refl _ _⟩
        case round =>
          obtain ⟨k, hkn, rfl, Hk, hb3⟩ := hrel
          obtain ⟨e0, e1, e2, e3, e4, e5⟩ := box_cfg (heap_keep hboxf hb3)
          simp only at e0 e1 e2 e3 e4 e5
          by_cases hlt : k < c.ports.length
          · have hc3 := hcf.below hb3
            obtain ⟨b, o, ha4, hbs, f0, f1, f2, f3, f4, f5⟩ := hc3.ports.prt hlt
            simp only at ha4
            subst ha4
            have hkk : (c.ports.map (fun p => (p.part, p.name)))[k]? = some (c.ports[k].part, c.ports[k].name) := by simp [hlt]
            have Hkk := hid hkk
            have Hc3 := hid hc3
            have Hb3 := hid hb3
            clear hcf hboxf hb3 hc3 hkk f0 f3 f4 f5
            go_wp2_with fail
            go_region_held3 (fun W => W.cell? ⟨w.heap.size, 0, none⟩ = some (.int .u64 c.frame) ∧ W.cell? ⟨w.heap.size, 1, none⟩ = some (.slice a1 c.parts.length k1) ∧ W.cell? ⟨w.heap.size, 2, none⟩ = some (.slice a2 c.wins.length k2) ∧ W.cell? ⟨w.heap.size, 3, none⟩ = some (.slice a3 c.regs.length k3) ∧ W.cell? ⟨w.heap.size, 4, none⟩ = some (.slice (some ⟨b, o, none⟩) c.ports.length k4) ∧ W.cell? ⟨w.heap.size, 5, none⟩ = some (.slice a5 c.chans.length k5) ∧ W.cell? ⟨b, o + k * 6 + 1, none⟩ = some (.int .u16 c.ports[k].part) ∧ W.cell? ⟨b, o + k * 6 + 2, none⟩ = some (.string c.ports[k].name)) (go_keep) (first | (go_at_call 53; refine (refNamed_c wr.drew c ⟨a1, k1, a2, k2, a3, k3, some ⟨b, o, none⟩, k4, a5, k5⟩ Hc3.out.drew c.ports[k].part c.ports[k].name).mono ?_; rintro e w4 ⟨rfl, hb5'⟩; have hb5 : Below wr.heap.size wr w4 := bundrew hb5'; clear hb5'; have x0 := cell_below hb5 e0; have x1 := cell_below hb5 e1; have x2 := cell_below hb5 e2; have x3 := cell_below hb5 e3; have x4 := cell_below hb5 e4; have x5 := cell_below hb5 e5; have y1 := cell_below hb5 f1; have y2 := cell_below hb5 f2))
            have Hb5 := hid hb5
            clear hb5 x0 x1 x2 x3 x5 y1 y2 e0 e1 e2 e3 e4 e5 f1 f2
            obtain ⟨n, hxn, hnk, hnf⟩ : ∃ n : Nat, ixOf (c.ports.map (fun p => (p.part, p.name))) (c.ports[k].part, c.ports[k].name) = n ∧ (c.ports.map (fun p => (p.part, p.name)))[n]? = some (c.ports[k].part, c.ports[k].name) ∧ ∀ j, j < n → (c.ports.map (fun p => (p.part, p.name)))[j]? ≠ some (c.ports[k].part, c.ports[k].name) := by
              rcases ixOf_cases (c.ports.map (fun p => (p.part, p.name))) (c.ports[k].part, c.ports[k].name) with ⟨_, h⟩ | h
              · exact absurd (List.mem_of_getElem? Hkk.out) h
              · exact h
            have hnle : n ≤ k := by
              rcases Nat.lt_or_ge k n with h | h
              · exact absurd Hkk.out (hnf k h)
              · exact h
            rw [hxn]
            have Hnk := hid hnk
            have Hnf := hid hnf
            clear hxn hnk hnf
            by_cases hn2 : n < k
            · have hfin : Hid (fd (c.ports.map (fun p => (p.part, p.name))) c.ports.length = k) := by
                have := fd_at (ks := c.ports.map (fun p => (p.part, p.name))) (n := k) (by simpa using hlt) Hk.out hn2 (by rw [Hnk.out, Hkk.out])
                rwa [List.length_map] at this
              go_wp2
              go_ret
              exact ⟨ret_int (hfin.out.symm.trans hd.out.symm), bthen hbf (bthen Hb3.out Hb5.out)⟩
            · have hne : n = k := by omega
              have hnext : Hid (Diff (c.ports.map (fun p => (p.part, p.name))) (k + 1)) := Hk.out.succ (fun j hj => by rw [Hkk.out]; exact Hnf.out j (by omega))
              clear hne
              go_wp2
              go_roundw
              case rel => exact ⟨k + 1, by omega, by go_num, hnext, bthen Hb3.out Hb5.out⟩
              case measure => simp [intOf]; omega
          · have hke : k = c.ports.length := by omega
            have hfin : Hid (fd (c.ports.map (fun p => (p.part, p.name))) c.ports.length = -1) := by
              have := fd_no (ks := c.ports.map (fun p => (p.part, p.name))) (by rw [List.length_map, ← hke]; exact Hk.out)
              rwa [List.length_map] at this
            clear hke
            go_wp2
            go_ret
            exact ⟨ret_int (hfin.out.symm.trans hd.out.symm), bthen hbf hb3⟩
end Go.Proofs.Ytlccbejhamkdoaa
