/- whether windows are right, as the reference has it; few periods; the reference's check of demands -/
import Derived.Test.YtlccbejhamkdoaaRef16B
namespace Go.Proofs.Ytlccbejhamkdoaa
open Go.RowKit

set_option maxHeartbeats 4000000 in
theorem refFrame_c (w : World) (c : Cfg) (A : Adr) (hc : CfgAt w c A) :
    Calls Try.prog 78 #[cfgVal c A] w fun e w' => ∃ e0 e1 e2 : Int, e = .returned (.tuple #[.int .i64 e0, .int .i64 e1, .int .i64 e2]) ∧ (e0 = 0 → RightW c) ∧ Below w.heap.size w w' := by
  obtain ⟨a1, k1, a2, k2, a3, k3, a4, k4, a5, k5⟩ := A
  have hn := hc.ok.nwins
  have hokw := hid hc.ok.wins
  have hfr := hc.ok.frame
  unfold U64 at hfr
  simp only [cfgVal, cfgCells]
  by_cases hz : c.frame = 0
  · have hzb : (c.frame == 0) = true := by simp [hz]
    clear hc hz
    go_enter Try.func78, Try.ntmps78
    go_wp2
    go_ret3
    exact ⟨17, 0, 0, rfl, fun h => by omega, below_new _ _⟩
  have hzb : (c.frame == 0) = false := by simp [hz]
  have hpos : 0 < c.frame := by omega
  clear hz
  go_enter Try.func78, Try.ntmps78
  go_wp2
  refine wp_name (fun W => Below w.heap.size w W ∧ W.heap[w.heap.size]? = some (.cells (cfgCells c ⟨a1, k1, a2, k2, a3, k3, a4, k4, a5, k5⟩) 29 (0, 0))) ⟨below_new _ _, heap_new _ _⟩ ?_
  rintro w1 ⟨hb1, hbox⟩
  have hc1 := hid (hc.below hb1)
  have Hbox := hid hbox
  have Hb1 := hid hb1
  have hw1 : w.heap.size < w1.heap.size := lt_of_block hbox
  clear hc hbox hb1
  go_loopw [5] (fun i wr => ∃ k : Nat, k ≤ c.wins.length ∧ i = .int .i64 k ∧ Hid (∀ j, j < k → ∀ (hj : j < c.wins.length), 0 < c.wins[j].len ∧ c.wins[j].start + c.wins[j].len ≤ c.frame) ∧ Below w1.heap.size w1 wr) (fun i _ => c.wins.length - (intOf i).toNat)
  case atStart => exact ⟨0, Nat.zero_le _, rfl, fun j hj => by omega, Below.refl _ _⟩
  case round =>
    obtain ⟨k, hkn, rfl, Hk, hbr⟩ := hrel
    obtain ⟨z0, z1, z2, z3, z4, z5⟩ := box_cfg (heap_keep Hbox.out hbr)
    simp only at z0 z1 z2 z3 z4 z5
    have hwr : w.heap.size < wr.heap.size := by have := hbr.size; omega
    by_cases hlt : k < c.wins.length
    · obtain ⟨b, o, ha, hb0, h0, h1, h2⟩ := (hc1.out.below hbr).wins.win hlt
      simp only at ha
      subst ha
      have hcr := hid (hc1.out.below hbr)
      obtain ⟨x, hx⟩ : ∃ x, c.wins[k] = x := ⟨_, rfl⟩
      rw [hx] at h0 h1 h2
      have Hx := hid hx
      have hok := hokw.out x (by rw [← hx]; exact List.getElem_mem hlt)
      obtain ⟨u0, u1, u2⟩ := hok
      unfold U64 at u0 u1
      clear hx
      go_wp2_with fail
      refine (refPartition_c _ c ⟨a1, k1, some ⟨b, o, none⟩, k2, a3, k3, a4, k4, a5, k5⟩ (hcr.out.below (below_new _ _)) x.part).mono ?_
      rintro e w6 ⟨rfl, hb6⟩
      have hbf := bthen hbr (bthen (below_new _ _) hb6)
      have hxb := heap_keep (heap_new wr (.cells #[.int .u64 x.start, .int .u64 x.len, .int .u16 x.part] 91)) hb6
      have x0 := cell_of_heap (i := 0) hxb rfl
      have x1 := cell_of_heap (i := 1) hxb rfl
      obtain ⟨z0', z1', z2', z3', z4', z5'⟩ := box_cfg (heap_keep Hbox.out hbf)
      simp only at z0' z1' z2' z3' z4' z5'
      obtain ⟨ix, hix⟩ : ∃ ix, ixOf (c.parts.map (·.id)) x.part = ix := ⟨_, rfl⟩
      rw [hix]
      have hbw := hid (bthen Hb1.out hbf)
      clear hb6 hxb hix z0 z1 z2 z3 z4 z5 h0 h1 h2
      by_cases hneg : ix < 0
      · go_wp2
        go_ret3
        exact ⟨19, 2, _, rfl, fun h => by omega, hbw.out⟩
      · by_cases hl0 : x.len = 0
        · have hl0b : (x.len == 0) = true := by simp [hl0]
          clear hl0
          go_wp2
          go_ret3
          exact ⟨20, 2, _, rfl, fun h => by omega, hbw.out⟩
        · have hl0b : (x.len == 0) = false := by simp [hl0]
          by_cases hl1 : c.frame < x.len
          · go_wp2
            go_ret3
            exact ⟨20, 2, _, rfl, fun h => by omega, hbw.out⟩
          · by_cases hl2 : c.frame - x.len < x.start
            · go_wp2
              go_ret3
              exact ⟨20, 2, _, rfl, fun h => by omega, hbw.out⟩
            · have hnext : Hid (∀ j, j < k + 1 → ∀ (hj : j < c.wins.length), 0 < c.wins[j].len ∧ c.wins[j].start + c.wins[j].len ≤ c.frame) := by
                intro j hj hjl
                rcases Nat.lt_succ_iff_lt_or_eq.1 hj with h | rfl
                · exact Hk.out j h hjl
                · rw [Hx.out]; omega
              go_wp2
              go_roundw
              case rel => exact ⟨k + 1, by omega, by go_num, hnext, hbf⟩
              case measure => simp [intOf]; omega
    · have Hall := hid (fun j (hj : j < c.wins.length) => Hk.out j (by omega) hj)
      clear Hk
      go_wp2
      obtain ⟨wt, rfl⟩ : ∃ wt : World, wt = wr := ⟨_, rfl⟩
      go_loopw [7] (fun i wr => ∃ q : Nat, q ≤ c.wins.length ∧ i = .int .i64 q ∧ Hid (∀ j, j < q → ∀ i, i < j → ∀ (hi : i < c.wins.length) (hj : j < c.wins.length), Free c.wins[i] c.wins[j]) ∧ Below w1.heap.size w1 wr) (fun i _ => c.wins.length - (intOf i).toNat)
      case atStart => exact ⟨0, Nat.zero_le _, rfl, fun j hj => by omega, hbr⟩
      case round =>
        obtain ⟨q, hqn, rfl, Hq, hbr2⟩ := hrel
        obtain ⟨z0, z1, z2, z3, z4, z5⟩ := box_cfg (heap_keep Hbox.out hbr2)
        simp only at z0 z1 z2 z3 z4 z5
        by_cases hq : q < c.wins.length
        · go_wp2
          clear z0 z1 z2 z3 z4 z5
          obtain ⟨wt2, rfl⟩ : ∃ wt : World, wt = wr := ⟨_, rfl⟩
          go_loopw [8] (fun i wr => ∃ r : Nat, r ≤ q ∧ i = .int .i64 r ∧ Hid (∀ i, i < r → ∀ (hi : i < c.wins.length), Free c.wins[i] c.wins[q]) ∧ Below w1.heap.size w1 wr) (fun i _ => q - (intOf i).toNat)
          case atStart => exact ⟨0, Nat.zero_le _, rfl, fun i hi => by omega, hbr2⟩
          case round =>
            obtain ⟨r, hrq, rfl, Hr, hbr3⟩ := hrel
            by_cases hr : r < q
            · have hrn : r < c.wins.length := by omega
              obtain ⟨b, o, ha, hb0, h0, h1, h2⟩ := (hc1.out.below hbr3).wins.win hrn
              simp only at ha
              subst ha
              obtain ⟨b', o', ha', hb0', g0, g1, g2⟩ := (hc1.out.below hbr3).wins.win hq
              simp only [Option.some.injEq, Addr.mk.injEq, and_true] at ha'
              obtain ⟨rfl, rfl⟩ := ha'
              obtain ⟨x, hx⟩ : ∃ x, c.wins[r] = x := ⟨_, rfl⟩
              obtain ⟨y, hy⟩ : ∃ y, c.wins[q] = y := ⟨_, rfl⟩
              rw [hx] at h0 h1 h2
              rw [hy] at g0 g1 g2
              have okx := hokw.out x (by rw [← hx]; exact List.getElem_mem hrn)
              have oky := hokw.out y (by rw [← hy]; exact List.getElem_mem hq)
              have fx := Hall.out r hrn
              have fy := Hall.out q hq
              rw [hx] at fx
              rw [hy] at fy
              obtain ⟨u0, -, -⟩ := okx
              obtain ⟨v0, -, -⟩ := oky
              unfold U64 at u0 v0
              have Hx := hid hx
              have Hy := hid hy
              obtain ⟨t0, t1, t2, t3, t4, t5⟩ := box_later (heap_keep Hbox.out hbr3)
              have m0 : ∀ W, Below wr.heap.size wr W → W.cell? ⟨b, o + r * 3, none⟩ = some (.int .u64 x.start) := fun W hW => cell_below hW h0
              have m1 : ∀ W, Below wr.heap.size wr W → W.cell? ⟨b, o + r * 3 + 1, none⟩ = some (.int .u64 x.len) := fun W hW => cell_below hW h1
              have m2 : ∀ W, Below wr.heap.size wr W → W.cell? ⟨b, o + r * 3 + 2, none⟩ = some (.int .u16 x.part) := fun W hW => cell_below hW h2
              have n0 : ∀ W, Below wr.heap.size wr W → W.cell? ⟨b, o + q * 3, none⟩ = some (.int .u64 y.start) := fun W hW => cell_below hW g0
              have n1 : ∀ W, Below wr.heap.size wr W → W.cell? ⟨b, o + q * 3 + 1, none⟩ = some (.int .u64 y.len) := fun W hW => cell_below hW g1
              have n2 : ∀ W, Below wr.heap.size wr W → W.cell? ⟨b, o + q * 3 + 2, none⟩ = some (.int .u16 y.part) := fun W hW => cell_below hW g2
              clear hx hy h0 h1 h2 g0 g1 g2
              go_wp2_with fail
              go_region_held3 (fun W => Below wr.heap.size wr W) (first | assumption | exact (Below.refl _ _).drew) (first
                | (go_at_call 95; (with_reducible refine (span_c _ _).mono ?_); rintro e w6 ⟨rfl, hb6⟩; have hS := bthen (w := wr) (by assumption) hb6)
                | (go_at_call 95; refine (span_c _ x).mono ?_; rintro e w6 ⟨rfl, hb6⟩; have hS := bthen (w := wr) (by assumption) hb6)
                | (go_at_call 95; refine (span_c _ y).mono ?_; rintro e w6 ⟨rfl, hb6⟩; have hS := bthen (w := wr) (by assumption) hb6)
                | (go_at_call 94; refine (meet_c _ x y u0.1 fx.1 (by omega) v0.1 fy.1 (by omega)).mono ?_; rintro e w6 ⟨rfl, hb6⟩; have hS := bthen (w := wr) (by assumption) hb6))
              have hbf := bthen hbr3 hS
              have hbw := hid (bthen Hb1.out hbf)
              clear hS hb6 t0 t1 t2 t3 t4 t5 m0 m1 m2 n0 n1 n2
              cases hm : meets x y
              · have hnext : Hid (∀ i, i < r + 1 → ∀ (hi : i < c.wins.length), Free c.wins[i] c.wins[q]) := by
                  intro i hi hil
                  rcases Nat.lt_succ_iff_lt_or_eq.1 hi with h | rfl
                  · exact Hr.out i h hil
                  · rw [Hx.out, Hy.out]; exact meets_free hm
                clear hm
                go_wp2
                go_roundw
                case rel => exact ⟨r + 1, by omega, by go_num, hnext, hbf⟩
                case measure => simp [intOf]; omega
              · clear hm
                go_wp2
                go_ret3
                exact ⟨21, 2, _, rfl, fun h => by omega, hbw.out⟩
            · have hnext : Hid (∀ j, j < q + 1 → ∀ i, i < j → ∀ (hi : i < c.wins.length) (hj : j < c.wins.length), Free c.wins[i] c.wins[j]) := by
                intro j hj i hi hil hjl
                rcases Nat.lt_succ_iff_lt_or_eq.1 hj with h | rfl
                · exact Hq.out j h i hi hil hjl
                · exact Hr.out i (by omega) hil
              go_wp2
              go_roundw
              case rel => exact ⟨q + 1, by omega, by go_num, hnext, hbr3⟩
              case measure => simp [intOf]; omega
        · have hR : Hid (RightW c) := by
            refine ⟨hpos, ?_, ?_⟩
            · intro x hx
              obtain ⟨j, hj, rfl⟩ := List.getElem_of_mem hx
              have h1 := Hall.out j hj
              have h2 := (hokw.out _ (List.getElem_mem hj)).1.1
              exact ⟨h2, h1⟩
            · rw [List.pairwise_iff_getElem]
              intro i j hi hj hij
              exact Hq.out j (by omega) i hij hi hj
          have hbw := hid (bthen Hb1.out hbr2)
          go_wp2
          go_ret3
          exact ⟨0, 0, 0, rfl, fun _ => hR.out, hbw.out⟩

theorem refRight_c (w : World) (c : Cfg) (A : Adr) (hc : CfgAt w c A) :
    Calls Try.prog 57 #[cfgVal c A] w fun e w' => ∃ r : Bool, e = .returned (.bool r) ∧ (r = true → RightW c) ∧ Below w.heap.size w w' := by
  have hcall := hid (refFrame_c (w.alloc (.cells (cfgCells c A) 29)) c A (hc.below (below_new _ _)))
  obtain ⟨a1, k1, a2, k2, a3, k3, a4, k4, a5, k5⟩ := A
  simp only [cfgVal, cfgCells] at hcall ⊢
  clear hc
  go_enter Try.func57, Try.ntmps57
  go_wp2_with fail
  refine hcall.out.mono ?_
  rintro e w2 ⟨e0, e1, e2, rfl, hz, hb2⟩
  have hbf := bthen (below_new w _) hb2
  have Hz := hid hz
  clear hb2 hz hcall
  go_wp2
  go_ret
  exact ⟨_, rfl, fun h => Hz.out (by simpa using h), hbf⟩

set_option maxHeartbeats 4000000 in
theorem refFew16_c (w : World) (c : Cfg) (A : Adr) (hc : CfgAt w c A) :
    Calls Try.prog 56 #[cfgVal c A] w fun e w' => ∃ r : Bool, e = .returned (.bool r) ∧ (r = true → Diff (c.parts.map (·.id)) c.parts.length) ∧ Below w.heap.size w w' := by
  obtain ⟨a1, k1, a2, k2, a3, k3, a4, k4, a5, k5⟩ := A
  have hn := hc.ok.nparts
  have hokp := hid hc.ok.parts
  have hfr := hc.ok.frame
  unfold U64 at hfr
  simp only [cfgVal, cfgCells]
  go_enter Try.func56, Try.ntmps56
  go_wp2
  refine wp_name (fun W => Below w.heap.size w W ∧ W.heap[w.heap.size]? = some (.cells (cfgCells c ⟨a1, k1, a2, k2, a3, k3, a4, k4, a5, k5⟩) 29 (0, 0))) ⟨below_new _ _, heap_new _ _⟩ ?_
  rintro w1 ⟨hb1, hbox⟩
  have hc1 := hid (hc.below hb1)
  have Hbox := hid hbox
  have Hb1 := hid hb1
  have hw1 : w.heap.size < w1.heap.size := lt_of_block hbox
  clear hc hbox hb1
  go_loopw [3] (fun i wr => ∃ k : Nat, k ≤ c.parts.length ∧ i = .int .i64 k ∧ Hid (Diff (c.parts.map (·.id)) k) ∧ Below w1.heap.size w1 wr) (fun i _ => c.parts.length - (intOf i).toNat)
  case atStart => exact ⟨0, Nat.zero_le _, rfl, Diff.zero _, Below.refl _ _⟩
  case round =>
    obtain ⟨k, hkn, rfl, Hk, hbr⟩ := hrel
    obtain ⟨z0, z1, z2, z3, z4, z5⟩ := box_cfg (heap_keep Hbox.out hbr)
    simp only at z0 z1 z2 z3 z4 z5
    have hwr : w.heap.size < wr.heap.size := by have := hbr.size; omega
    by_cases hlt : k < c.parts.length
    · obtain ⟨b, o, ha, hb0, h0, h1, h2, h3⟩ := (hc1.out.below hbr).parts.part hlt
      simp only at ha
      subst ha
      obtain ⟨p, hp⟩ : ∃ p, c.parts[k] = p := ⟨_, rfl⟩
      rw [hp] at h0 h1 h2 h3
      have Hp := hid hp
      have hok := (hokp.out p (by rw [← hp]; exact List.getElem_mem hlt)).2.2.1
      unfold U64 at hok
      clear hp
      have hbw := hid (bthen Hb1.out (hbr.alloc hbr.size (.cells #[.int .u16 p.id, .string p.name, .int .u64 p.period, .int .u64 p.dur] 36)))
      by_cases hP : 0 < p.period
      · have hne : ¬ p.period = 0 := by omega
        by_cases hbig : 2000 < c.frame / p.period
        · go_wp2
          go_ret
          exact ⟨false, rfl, fun h => (by cases h), hbw.out⟩
        · skip
          go_wp2
          obtain ⟨wt, rfl⟩ : ∃ wt : World, wt = wr := ⟨_, rfl⟩
          refine wp_name (fun W => Below w1.heap.size w1 W ∧ W.heap[wt.heap.size]? = some (.cells #[.int .u16 p.id, .string p.name, .int .u64 p.period, .int .u64 p.dur] 36 (0, 0))) ⟨hbr.alloc hbr.size _, heap_new _ _⟩ ?_
          rintro w3 ⟨hb3, hpb3⟩
          have Hpb3 := hid hpb3
          obtain ⟨pb, hpbn⟩ : ∃ pb, wt.heap.size = pb := ⟨_, rfl⟩
          rw [hpbn] at Hpb3 ⊢
          clear hpb3 z0 z1 z2 z3 z4 z5 h0 h1 h2 h3 hb0 hwr
          go_loopw [5] (fun i wr => ∃ r : Nat, r ≤ k ∧ i = .int .i64 r ∧ Hid (∀ i, i < r → (c.parts.map (·.id))[i]? ≠ some p.id) ∧ Below w3.heap.size w3 wr) (fun i _ => k - (intOf i).toNat)
          case atStart => exact ⟨0, Nat.zero_le _, rfl, fun i hi => by omega, Below.refl _ _⟩
          case round =>
            obtain ⟨r, hrk, rfl, Hr, hbr3⟩ := hrel
            have hbf := bthen hb3 hbr3
            have hbw := hid (bthen Hb1.out hbf)
            by_cases hr : r < k
            · have hrn : r < c.parts.length := by omega
              obtain ⟨b', o', ha', hb0', g0, g1, g2, g3⟩ := (hc1.out.below hbf).parts.part hrn
              simp only [Option.some.injEq, Addr.mk.injEq, and_true] at ha'
              obtain ⟨rfl, rfl⟩ := ha'
              obtain ⟨z0, z1, z2, z3, z4, z5⟩ := box_later (heap_keep Hbox.out hbf)
              have y0 := cells_later (heap_keep Hpb3.out hbr3) 0 rfl
              have m0 : ∀ W, Below wr.heap.size wr W → W.cell? ⟨b, o + r * 4, none⟩ = some (.int .u16 c.parts[r].id) := fun W hW => cell_below hW g0
              clear g0 g1 g2 g3
              have hkk : (c.parts.map (·.id))[r]? = some c.parts[r].id := by simp [hrn]
              have Hkk := hid hkk
              clear hkk
              go_wp2_with fail
              go_region_held3 (fun W => Below wr.heap.size wr W) (first | assumption | exact (Below.refl _ _).drew) (fail)
              rename_i W hW
              have hbf2 := bthen hbf hW
              have hbw2 := hid (bthen Hb1.out hbf2)
              have hbr4 := bthen hbr3 hW
              clear z0 z1 z2 z3 z4 z5 y0 m0 hW hbf
              by_cases he : c.parts[r].id = p.id
              · have hbe : (c.parts[r].id == p.id) = true := by simpa using he
                clear he
                go_wp2
                go_ret
                exact ⟨false, rfl, fun h => (by cases h), hbw2.out⟩
              · have hbe : (c.parts[r].id == p.id) = false := by simpa using he
                have hnext : Hid (∀ i, i < r + 1 → (c.parts.map (·.id))[i]? ≠ some p.id) := by
                  intro i hi
                  rcases Nat.lt_succ_iff_lt_or_eq.1 hi with h | rfl
                  · exact Hr.out i h
                  · rw [Hkk.out]; simpa using he
                clear he
                go_wp2
                go_roundw
                case rel => exact ⟨r + 1, by omega, by go_num, hnext, hbr4⟩
                case measure => simp [intOf]; omega
            · have hnext : Hid (Diff (c.parts.map (·.id)) (k + 1)) := Hk.out.succ (fun j hj => by
                have h1 := Hr.out j (by omega)
                have h2 : (c.parts.map (·.id))[k]? = some p.id := by rw [← Hp.out]; simp [hlt]
                rw [h2]; exact h1)
              go_wp2
              go_roundw
              case rel => exact ⟨k + 1, by omega, by go_num, hnext, hbf⟩
              case measure => simp [intOf]; omega
      · skip
        go_wp2
        obtain ⟨wt, rfl⟩ : ∃ wt : World, wt = wr := ⟨_, rfl⟩
        refine wp_name (fun W => Below w1.heap.size w1 W ∧ W.heap[wt.heap.size]? = some (.cells #[.int .u16 p.id, .string p.name, .int .u64 p.period, .int .u64 p.dur] 36 (0, 0))) ⟨hbr.alloc hbr.size _, heap_new _ _⟩ ?_
        rintro w3 ⟨hb3, hpb3⟩
        have Hpb3 := hid hpb3
        obtain ⟨pb, hpbn⟩ : ∃ pb, wt.heap.size = pb := ⟨_, rfl⟩
        rw [hpbn] at Hpb3 ⊢
        clear hpb3 z0 z1 z2 z3 z4 z5 h0 h1 h2 h3 hb0 hwr
        go_loopw [5] (fun i wr => ∃ r : Nat, r ≤ k ∧ i = .int .i64 r ∧ Hid (∀ i, i < r → (c.parts.map (·.id))[i]? ≠ some p.id) ∧ Below w3.heap.size w3 wr) (fun i _ => k - (intOf i).toNat)
        case atStart => exact ⟨0, Nat.zero_le _, rfl, fun i hi => by omega, Below.refl _ _⟩
        case round =>
          obtain ⟨r, hrk, rfl, Hr, hbr3⟩ := hrel
          have hbf := bthen hb3 hbr3
          have hbw := hid (bthen Hb1.out hbf)
          by_cases hr : r < k
          · have hrn : r < c.parts.length := by omega
            obtain ⟨b', o', ha', hb0', g0, g1, g2, g3⟩ := (hc1.out.below hbf).parts.part hrn
            simp only [Option.some.injEq, Addr.mk.injEq, and_true] at ha'
            obtain ⟨rfl, rfl⟩ := ha'
            obtain ⟨z0, z1, z2, z3, z4, z5⟩ := box_later (heap_keep Hbox.out hbf)
            have y0 := cells_later (heap_keep Hpb3.out hbr3) 0 rfl
            have m0 : ∀ W, Below wr.heap.size wr W → W.cell? ⟨b, o + r * 4, none⟩ = some (.int .u16 c.parts[r].id) := fun W hW => cell_below hW g0
            clear g0 g1 g2 g3
            have hkk : (c.parts.map (·.id))[r]? = some c.parts[r].id := by simp [hrn]
            have Hkk := hid hkk
            clear hkk
            go_wp2_with fail
            go_region_held3 (fun W => Below wr.heap.size wr W) (first | assumption | exact (Below.refl _ _).drew) (fail)
            rename_i W hW
            have hbf2 := bthen hbf hW
            have hbw2 := hid (bthen Hb1.out hbf2)
            have hbr4 := bthen hbr3 hW
            clear z0 z1 z2 z3 z4 z5 y0 m0 hW hbf
            by_cases he : c.parts[r].id = p.id
            · have hbe : (c.parts[r].id == p.id) = true := by simpa using he
              clear he
              go_wp2
              go_ret
              exact ⟨false, rfl, fun h => (by cases h), hbw2.out⟩
            · have hbe : (c.parts[r].id == p.id) = false := by simpa using he
              have hnext : Hid (∀ i, i < r + 1 → (c.parts.map (·.id))[i]? ≠ some p.id) := by
                intro i hi
                rcases Nat.lt_succ_iff_lt_or_eq.1 hi with h | rfl
                · exact Hr.out i h
                · rw [Hkk.out]; simpa using he
              clear he
              go_wp2
              go_roundw
              case rel => exact ⟨r + 1, by omega, by go_num, hnext, hbr4⟩
              case measure => simp [intOf]; omega
          · have hnext : Hid (Diff (c.parts.map (·.id)) (k + 1)) := Hk.out.succ (fun j hj => by
              have h1 := Hr.out j (by omega)
              have h2 : (c.parts.map (·.id))[k]? = some p.id := by rw [← Hp.out]; simp [hlt]
              rw [h2]; exact h1)
            go_wp2
            go_roundw
            case rel => exact ⟨k + 1, by omega, by go_num, hnext, hbf⟩
            case measure => simp [intOf]; omega
    · have hke : k = c.parts.length := by omega
      subst hke
      have hbw := hid (bthen Hb1.out hbr)
      go_wp2
      go_ret
      exact ⟨true, rfl, fun _ => Hk.out, hbw.out⟩
end Go.Proofs.Ytlccbejhamkdoaa
