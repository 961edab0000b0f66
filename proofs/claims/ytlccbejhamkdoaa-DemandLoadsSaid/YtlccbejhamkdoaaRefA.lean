/- the reference's look-ups (fenestraref13) -/
import Derived.Test.YtlccbejhamkdoaaSpec
import Derived.Test.YtlccbejhamkdoaaChecked
import Derived.Deep.RegionHeld3
namespace Go.Proofs.Ytlccbejhamkdoaa
open Go.RowKit

theorem refPartition_c (w : World) (c : Cfg) (A : Adr) (hc : CfgAt w c A) (id : Int) :
    Calls Try.prog 93 #[cfgVal c A, .int .u16 id] w fun e w' => e = .returned (.int .i64 (ixOf (c.parts.map (·.id)) id)) ∧ Below w.heap.size w w' := by
  obtain ⟨a1, k1, a2, k2, a3, k3, a4, k4, a5, k5⟩ := A
  have hn := hc.ok.nparts
  obtain ⟨r, hr⟩ : ∃ r, ixOf (c.parts.map (·.id)) id = r := ⟨_, rfl⟩
  rw [hr]
  have Hr := hid hr
  clear hr
  simp only [cfgVal, cfgCells]
  go_enter Try.func93, Try.ntmps93
  go_wp2
  refine wp_name (fun W => Below w.heap.size w W ∧ W.heap[w.heap.size]? = some (.cells (cfgCells c ⟨a1, k1, a2, k2, a3, k3, a4, k4, a5, k5⟩) 29 (0, 0))) ⟨below_new _ _, heap_new _ _⟩ ?_
  rintro w1 ⟨hb1, hbox⟩
  have hrow := (hc.below hb1).parts
  have hb := (box_cfg hbox).2.1
  simp only at hb hrow
  clear hbox hc
  go_loop [5] (fun i => ∃ k : Nat, k ≤ c.parts.length ∧ i = .int .i64 k ∧ Hid (∀ j, j < k → (c.parts.map (·.id))[j]? ≠ some id)) (fun i => c.parts.length - (intOf i).toNat)
  case atStart => exact ⟨0, Nat.zero_le _, rfl, fun j hj => by omega⟩
  case round =>
    obtain ⟨k, hkn, rfl, Hk⟩ := hrel
    by_cases hlt : k < c.parts.length
    · obtain ⟨b, o, rfl, hb0, h0, h1, h2, h3⟩ := hrow.part hlt
      clear hrow
      have hkk : (c.parts.map (·.id))[k]? = some c.parts[k].id := by simp [hlt]
      have Hkk := hid hkk
      clear hkk
      by_cases he : c.parts[k].id = id
      · have hbe : (c.parts[k].id == id) = true := by simpa using he
        have hfin : Hid (ixOf (c.parts.map (·.id)) id = k) := ixOf_at (by rw [Hkk.out, he]) Hk.out
        clear he
        go_wp2
        go_ret
        exact ⟨ret_int (hfin.out.symm.trans Hr.out), hb1⟩
      · have hbe : (c.parts[k].id == id) = false := by simpa using he
        have hnext : Hid (∀ j, j < k + 1 → (c.parts.map (·.id))[j]? ≠ some id) := by
          intro j hj
          rcases Nat.lt_succ_iff_lt_or_eq.1 hj with h | rfl
          · exact Hk.out j h
          · rw [Hkk.out]; simpa using he
        clear he
        go_wp2
        go_round
        case rel => exact ⟨k + 1, by omega, by go_num, hnext⟩
        case measure => simp [intOf]; omega
    · have hke : k = c.parts.length := by omega
      have hfin : Hid (ixOf (c.parts.map (·.id)) id = -1) := ixOf_no (fun j hj => Hk.out j (by simp at hj; omega))
      clear hke
      go_wp2
      go_ret
      exact ⟨ret_int (hfin.out.symm.trans Hr.out), hb1⟩





theorem refNamed_c (w : World) (c : Cfg) (A : Adr) (hc : CfgAt w c A) (part : Int) (name : ByteArray) :
    Calls Try.prog 53 #[cfgVal c A, .int .u16 part, .string name] w fun e w' => e = .returned (.int .i64 (ixOf (c.ports.map (fun p => (p.part, p.name))) (part, name))) ∧ Below w.heap.size w w' := by
  obtain ⟨a1, k1, a2, k2, a3, k3, a4, k4, a5, k5⟩ := A
  have hn := hc.ok.nports
  obtain ⟨r, hr⟩ : ∃ r, ixOf (c.ports.map (fun p => (p.part, p.name))) (part, name) = r := ⟨_, rfl⟩
  rw [hr]
  have Hr := hid hr
  clear hr
  simp only [cfgVal, cfgCells]
  go_enter Try.func53, Try.ntmps53
  go_wp2
  refine wp_name (fun W => Below w.heap.size w W ∧ W.heap[w.heap.size]? = some (.cells (cfgCells c ⟨a1, k1, a2, k2, a3, k3, a4, k4, a5, k5⟩) 29 (0, 0))) ⟨below_new _ _, heap_new _ _⟩ ?_
  rintro w1 ⟨hb1, hbox⟩
  have hrow := (hc.below hb1).ports
  have hb := (box_cfg hbox).2.2.2.2.1
  simp only at hb hrow
  clear hbox hc
  go_loop [7] (fun i => ∃ k : Nat, k ≤ c.ports.length ∧ i = .int .i64 k ∧ Hid (∀ j, j < k → (c.ports.map (fun p => (p.part, p.name)))[j]? ≠ some (part, name))) (fun i => c.ports.length - (intOf i).toNat)
  case atStart => exact ⟨0, Nat.zero_le _, rfl, fun j hj => by omega⟩
  case round =>
    obtain ⟨k, hkn, rfl, Hk⟩ := hrel
    by_cases hlt : k < c.ports.length
    · obtain ⟨b, o, rfl, hb0, h0, h1, h2, h3, h4, h5⟩ := hrow.prt hlt
      clear hrow
      have hkk : (c.ports.map (fun p => (p.part, p.name)))[k]? = some (c.ports[k].part, c.ports[k].name) := by simp [hlt]
      have Hkk := hid hkk
      clear hkk
      by_cases he : c.ports[k].part = part
      · have hbe : (c.ports[k].part == part) = true := by simpa using he
        by_cases he2 : c.ports[k].name = name
        · have hbe2 : (c.ports[k].name.toList == name.toList) = true := by rw [he2]; simp
          have hfin : Hid (ixOf (c.ports.map (fun p => (p.part, p.name))) (part, name) = k) := ixOf_at (by rw [Hkk.out, he, he2]) Hk.out
          clear he he2
          go_wp2
          go_ret
          exact ⟨ret_int (hfin.out.symm.trans Hr.out), hb1⟩
        · have hbe2 : (c.ports[k].name.toList == name.toList) = false := by rw [← beq_toListBytes]; exact bytes_ne he2
          have hnext : Hid (∀ j, j < k + 1 → (c.ports.map (fun p => (p.part, p.name)))[j]? ≠ some (part, name)) := by
            intro j hj
            rcases Nat.lt_succ_iff_lt_or_eq.1 hj with h | rfl
            · exact Hk.out j h
            · rw [Hkk.out]; intro h; simp at h; exact he2 h.2
          clear he he2
          go_wp2
          go_round
          case rel => exact ⟨k + 1, by omega, by go_num, hnext⟩
          case measure => simp [intOf]; omega
      · have hbe : (c.ports[k].part == part) = false := by simpa using he
        have hnext : Hid (∀ j, j < k + 1 → (c.ports.map (fun p => (p.part, p.name)))[j]? ≠ some (part, name)) := by
          intro j hj
          rcases Nat.lt_succ_iff_lt_or_eq.1 hj with h | rfl
          · exact Hk.out j h
          · rw [Hkk.out]; intro h; simp at h; exact he h.1
        clear he
        go_wp2
        go_round
        case rel => exact ⟨k + 1, by omega, by go_num, hnext⟩
        case measure => simp [intOf]; omega
    · have hke : k = c.ports.length := by omega
      have hfin : Hid (ixOf (c.ports.map (fun p => (p.part, p.name))) (part, name) = -1) := ixOf_no (fun j hj => Hk.out j (by simp at hj; omega))
      clear hke
      go_wp2
      go_ret
      exact ⟨ret_int (hfin.out.symm.trans Hr.out), hb1⟩
end Go.Proofs.Ytlccbejhamkdoaa
