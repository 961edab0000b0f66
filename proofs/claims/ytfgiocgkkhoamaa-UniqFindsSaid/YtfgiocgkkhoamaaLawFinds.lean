/- the walk of UniqFinds -/
import Derived.Test.YtfgiocgkkhoamaaAlive13
namespace Go.Proofs.Ytfgiocgkkhoamaa
open Go.RowKit

theorem cells_later {w5 : World} {b : Nat} {cs : Array Value} {t : TypeId} (h : w5.heap[b]? = some (.cells cs t (0, 0))) (i : Nat) {v : Value} (hv : cs[i]? = some v) : ∀ W, Below w5.heap.size w5 W → W.cell? ⟨b, i, none⟩ = some v :=
  fun _ hW => cell_of_heap (heap_keep h hW) hv
theorem box_later {w5 : World} {b : Nat} {c : Cfg} {a1 a2 a3 a4 a5 : Option Addr} {k1 k2 k3 k4 k5 : Nat} {t : TypeId} (h : w5.heap[b]? = some (.cells (cfgCells c ⟨a1, k1, a2, k2, a3, k3, a4, k4, a5, k5⟩) t (0, 0))) :
    (∀ W, Below w5.heap.size w5 W → W.cell? ⟨b, 0, none⟩ = some (.int .u64 c.frame)) ∧ (∀ W, Below w5.heap.size w5 W → W.cell? ⟨b, 1, none⟩ = some (.slice a1 c.parts.length k1)) ∧
    (∀ W, Below w5.heap.size w5 W → W.cell? ⟨b, 2, none⟩ = some (.slice a2 c.wins.length k2)) ∧ (∀ W, Below w5.heap.size w5 W → W.cell? ⟨b, 3, none⟩ = some (.slice a3 c.regs.length k3)) ∧
    (∀ W, Below w5.heap.size w5 W → W.cell? ⟨b, 4, none⟩ = some (.slice a4 c.ports.length k4)) ∧ (∀ W, Below w5.heap.size w5 W → W.cell? ⟨b, 5, none⟩ = some (.slice a5 c.chans.length k5)) :=
  ⟨cells_later h 0 rfl, cells_later h 1 rfl, cells_later h 2 rfl, cells_later h 3 rfl, cells_later h 4 rfl, cells_later h 5 rfl⟩

set_option maxHeartbeats 2000000 in
theorem UniqFinds_walk (w : World) (c : Cfg) (A : Adr) (hc : CfgAt w c A) (id : Int) (_hid : U16 id) (name : ByteArray) (_hname : name.size ≤ 9223372036854775807) :
    Calls Try.prog 3 #[cfgVal c A, .int .u16 id, .string name] w fun e w' => e = .returned (.bool true) ∧ Below w.heap.size w w' := by
  obtain ⟨a1, k1, a2, k2, a3, k3, a4, k4, a5, k5⟩ := A
  have hn := hc.ok.nports
  simp only [cfgVal, cfgCells]
  have hbox1 := heap_new w (.cells (cfgCells c ⟨a1, k1, a2, k2, a3, k3, a4, k4, a5, k5⟩) 29)
  have hcall := Few_c _ c ⟨a1, k1, a2, k2, a3, k3, a4, k4, a5, k5⟩ (hc.below (below_new w (.cells (cfgCells c ⟨a1, k1, a2, k2, a3, k3, a4, k4, a5, k5⟩) 29)))
  cases hfew : few c with
  | false =>
    rw [hfew] at hcall
    have Hcall := hid hcall
    clear hcall hfew hc hbox1
    go_enter Try.func3, Try.ntmps3
    go_wp2_with fail
    refine Hcall.out.mono ?_
    rintro e w2 ⟨rfl, hb2⟩
    have hb02 := bthen (below_new w _) hb2
    clear hb2
    go_wp2_with fail
    refine (alive13_c _).mono ?_
    rintro e w3 ⟨rfl, hb3⟩
    have hb03 := bthen hb02 hb3
    clear hb3
    go_wp2
    go_ret
    exact ⟨rfl, hb03⟩
  | true =>
    rw [hfew] at hcall
    have Hcall := hid hcall
    clear hcall hfew
    by_cases hlong : 100 < name.size
    · clear hc hbox1
      go_enter Try.func3, Try.ntmps3
      go_wp2_with fail
      refine Hcall.out.mono ?_
      rintro e w2 ⟨rfl, hb2⟩
      have hb02 := bthen (below_new w _) hb2
      clear hb2
      go_wp2_with fail
      refine (alive13_c _).mono ?_
      rintro e w3 ⟨rfl, hb3⟩
      have hb03 := bthen hb02 hb3
      clear hb3
      go_wp2
      go_ret
      exact ⟨rfl, hb03⟩
    · go_enter Try.func3, Try.ntmps3
      go_wp2_with fail
      refine Hcall.out.mono ?_
      rintro e w2 ⟨rfl, hb2⟩
      have hb02 := bthen (below_new w _) hb2
      have hbox2 := heap_keep hbox1 hb2
      clear Hcall hb2 hbox1
      obtain ⟨e0, e1, e2, e3, e4, e5⟩ := box_cfg hbox2
      simp only at e0 e1 e2 e3 e4 e5
      go_wp2_with fail
      refine (New_c _ c ⟨a1, k1, a2, k2, a3, k3, a4, k4, a5, k5⟩ (hc.below hb02)).mono ?_
      rintro e w3 ⟨x, r1, r2, r3, r4, rfl, hx, hb3⟩
      have hb03 := bthen hb02 hb3
      have hbox3 := heap_keep hbox2 hb3
      have hc3 := hc.below hb03
      clear e0 e1 e2 e3 e4 e5 hbox2 hb02 hb3 hc
      obtain ⟨e0, e1, e2, e3, e4, e5⟩ := box_cfg hbox3
      simp only at e0 e1 e2 e3 e4 e5
      go_wp2
      go_loopw [27] (fun i wr => ∃ k : Nat, k ≤ c.ports.length ∧ i = .int .i64 k ∧ Below w3.heap.size w3 wr) (fun i _ => c.ports.length - (intOf i).toNat)
      case atStart => exact ⟨0, Nat.zero_le _, rfl, Below.refl _ _⟩
      case round =>
        obtain ⟨k, hkn, rfl, hbr⟩ := hrel
        by_cases hlt : k < c.ports.length
        · obtain ⟨b, o, ha, hb0, h0, h1, h2, h3, h4, h5⟩ := (hc3.below hbr).ports.prt hlt
          simp only at ha
          subst ha
          clear e0 e1 e2 e3 e4 e5
          go_wp2_with fail
          refine wp_name (fun W => Below w3.heap.size w3 W ∧ W.heap[wr.heap.size]? = some (.cells #[.int .u16 c.ports[k].id, .int .u16 c.ports[k].part, .string c.ports[k].name, .bool c.ports[k].output, .bool c.ports[k].queuing, .int .u32 c.ports[k].size] 37 (0, 0))) ⟨hbr.alloc hbr.size _, heap_new _ _⟩ ?_
          rintro w5 ⟨hb5, hp5⟩
          obtain ⟨z0, z1, z2, z3, z4, z5⟩ := box_later (heap_keep hbox3 hb5)
          have y1 := cells_later hp5 1 rfl
          have y2 := cells_later hp5 2 rfl
          have hx5 := hx.below hb5
          have hc5 := hc3.below hb5
          clear h0 h1 h2 h3 h4 h5 hp5
          go_region_held3 (fun W => Below w5.heap.size w5 W) (first | assumption | exact (Below.refl _ _).drew) (first
            | (go_at_call 21; refine (xNamed_c _ x c r1 r2 r3 r4 (hx5.below (by assumption)) _ _).mono ?_; rintro e w6 ⟨rfl, hb6⟩; have hS := bthen (w := w5) (by assumption) hb6)
            | (go_at_call 22; refine (refNamed_c _ c ⟨a1, k1, a2, k2, a3, k3, some ⟨b, o, none⟩, k4, a5, k5⟩ (hc5.below (by assumption)) _ _).mono ?_; rintro e w6 ⟨rfl, hb6⟩; have hS := bthen (w := w5) (by assumption) hb6))
          have hbf := bthen hb5 hS
          clear hb6 hS z0 z1 z2 z3 z4 z5 y1 y2 hx5 hc5
          go_wp2
          go_roundw
          case rel => exact ⟨k + 1, by omega, by go_num, hbf⟩
          case measure => simp [intOf]; omega
        · clear e0 e1 e2 e3 e4 e5
          go_wp2_with fail
          refine wp_name (fun W => Below w3.heap.size w3 W) hbr ?_
          rintro w5 hb5
          obtain ⟨z0, z1, z2, z3, z4, z5⟩ := box_later (heap_keep hbox3 hb5)
          have hx5 := hx.below hb5
          have hc5 := hc3.below hb5
          simp only [List.append_eq, List.cons_append, List.nil_append]
          go_region_held3 (fun W => Below w5.heap.size w5 W) (first | assumption | exact (Below.refl _ _).drew) (first
            | (go_at_call 19; refine (alive13_c _).mono ?_; rintro e w6 ⟨rfl, hb6⟩; have hS := bthen (w := w5) (by assumption) hb6)
            | (go_at_call 23; (with_reducible refine (nPartition_c _ _).mono ?_); rintro e w6 ⟨rfl, hb6⟩; have hS := bthen (w := w5) (by assumption) hb6)
            | (go_at_call 25; (with_reducible refine (nPort_c _ _).mono ?_); rintro e w6 ⟨rfl, hb6⟩; have hS := bthen (w := w5) (by assumption) hb6)
            | (go_at_call 27; (with_reducible refine (nChannel_c _ _).mono ?_); rintro e w6 ⟨rfl, hb6⟩; have hS := bthen (w := w5) (by assumption) hb6)
            | (go_at_call 21; (with_reducible refine (nNamed_c _ _ _).mono ?_); rintro e w6 ⟨rfl, hb6⟩; have hS := bthen (w := w5) (by assumption) hb6)
            | (go_at_call 23; refine (xPartition_c _ x c r1 r2 r3 r4 (hx5.below (by assumption)) _).mono ?_; rintro e w6 ⟨rfl, hb6⟩; have hS := bthen (w := w5) (by assumption) hb6)
            | (go_at_call 25; refine (xPort_c _ x c r1 r2 r3 r4 (hx5.below (by assumption)) _).mono ?_; rintro e w6 ⟨rfl, hb6⟩; have hS := bthen (w := w5) (by assumption) hb6)
            | (go_at_call 27; refine (xChannel_c _ x c r1 r2 r3 r4 (hx5.below (by assumption)) _).mono ?_; rintro e w6 ⟨rfl, hb6⟩; have hS := bthen (w := w5) (by assumption) hb6)
            | (go_at_call 21; refine (xNamed_c _ x c r1 r2 r3 r4 (hx5.below (by assumption)) _ _).mono ?_; rintro e w6 ⟨rfl, hb6⟩; have hS := bthen (w := w5) (by assumption) hb6)
            | (go_at_call 24; refine (refPartition_c _ c ⟨a1, k1, a2, k2, a3, k3, a4, k4, a5, k5⟩ (hc5.below (by assumption)) _).mono ?_; rintro e w6 ⟨rfl, hb6⟩; have hS := bthen (w := w5) (by assumption) hb6)
            | (go_at_call 26; refine (refPort_c _ c ⟨a1, k1, a2, k2, a3, k3, a4, k4, a5, k5⟩ (hc5.below (by assumption)) _).mono ?_; rintro e w6 ⟨rfl, hb6⟩; have hS := bthen (w := w5) (by assumption) hb6)
            | (go_at_call 28; refine (refChannel_c _ c ⟨a1, k1, a2, k2, a3, k3, a4, k4, a5, k5⟩ (hc5.below (by assumption)) _).mono ?_; rintro e w6 ⟨rfl, hb6⟩; have hS := bthen (w := w5) (by assumption) hb6)
            | (go_at_call 22; refine (refNamed_c _ c ⟨a1, k1, a2, k2, a3, k3, a4, k4, a5, k5⟩ (hc5.below (by assumption)) _ _).mono ?_; rintro e w6 ⟨rfl, hb6⟩; have hS := bthen (w := w5) (by assumption) hb6))
          have hbf := bthen hb03 (bthen hb5 hS)
          clear hb6 hS z0 z1 z2 z3 z4 z5 hx5 hc5
          go_wp2
          go_ret
          exact ⟨rfl, hbf⟩
end Go.Proofs.Ytfgiocgkkhoamaa
