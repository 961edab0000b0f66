/-
  collect: the keys of records
  the index of a configuration
  the reference's checks of keys (fenestraref13)
  the reference's checks of identifiers and names (fenestraref13)
  the methods of an index; the checks of uniq
  What container/heap does to a row, by keys. Plain Lean, no program in sight.
  What sweep.visit passes on: the items in the order of their beginnings, each with those before it that are still open. Plain Lean, no program in sight.
  the queue of sweep: its methods
  the queue of sweep: Len, Less, Swap
  the queue of sweep: Swap
  container/heap.up and down at the queue of sweep
  container/heap.Init and Fix, sweep.queue's Pop, container/heap.Pop
  sweep.queue's Pop, container/heap.Pop
-/
import Derived.Test.YtmoignbaphddeaaB2Law15A
import Derived.Deep.RegionHeld3
import Derived.Test.YtmoignbaphddeaaB1Law15A
import Derived.Deep.QuietTactic
import Derived.BigQuiet
import Derived.KernelRfl
import Derived.StillTailTactics
import Derived.BigRegion
import Derived.Handy
set_option linter.unusedVariables false
namespace Go.Proofs.Ytmoignbaphddeaa
open Go.RowKit

set_option maxHeartbeats 400000 in
theorem collectP16_c (w : World) (a : Option Addr) (cap r : Nat) (l : List Part) (hrow : RowAt 4 encPart w a l) (hlen : l.length ≤ 140737488351232) (hm : Map16 w r []) :
    Calls Try.prog 35 #[.slice a l.length cap, .func (.func 36) #[] #[], .func (.func 37) #[.map (some r)] #[]] w fun e w' =>
      e = .returned (.int .i64 (fd (l.map (·.id)) l.length)) ∧ Map16 w' r (fm (l.map (·.id)) l.length) ∧ w.grownBy w' (some r) := by
  have hsh := hm.shape
  obtain ⟨ks, hks⟩ : ∃ ks, ks = l.map (·.id) := ⟨_, rfl⟩
  rw [← hks]
  have hk : ∀ k (h : k < l.length), ks[k]? = some l[k].id := by intro k h; subst hks; simp [h]
  have Hk := hid hk
  clear hks hk
  go_enter Try.func35, Try.ntmps35
  go_wp2
  go_loopw [7, 12] (fun f i wr => ∃ k : Nat, k ≤ l.length ∧ f = .int .i64 (fd ks k) ∧ i = .int .i64 k ∧ Map16 wr r (fm ks k) ∧ w.grownBy wr (some r)) (fun _ i _ => l.length - (intOf i).toNat)
  case atStart => exact ⟨0, Nat.zero_le _, rfl, rfl, hm, grefl _ _⟩
  case round =>
    obtain ⟨k, hkn, rfl, rfl, hmk, hg⟩ := hrel
    by_cases hlt : k < l.length
    · obtain ⟨b, o, rfl, hb, h0, h1, h2, h3⟩ := (hrow.grown hg hsh).part hlt
      have hfr := fd_range ks k
      clear hrow hm hsh
      have hkk := Hk.out k hlt
      have hm1 := hid hmk
      have hg1 := hid hg
      clear hmk hg
      go_wp2_with fail
      refine (partitionID_c l[k] _).mono ?_
      rintro e w2 ⟨rfl, hb2⟩
      have hm2 := (hm1.out.below (below_new _ _)).below hb2
      have hg2 := gtrans (gtrans hg1.out (World.grownBy_alloc _ _ _)) (gbelow hb2 _)
      have hc8 : w2.heap.size ≥ wr.heap.size + 1 := by have := hb2.size; simpa using this
      clear hb2
      go_wp2_with fail
      refine (add16_c w2 r (fm ks k) hm2 l[k].id k).mono ?_
      rintro e w3 ⟨rfl, hm3, hg3⟩
      have hg4 := gtrans hg2 hg3
      clear hg2 hg3 hm2
      have Hm3 := hid hm3
      have Hg4 := hid hg4
      clear hm3 hg4
      cases hlk : look l[k].id (fm ks k) with
      | none =>
        have e1 := fm_succ hkk
        have e2 := fd_succ_new hkk hlk
        have E1 := hid e1
        have E2 := hid e2
        clear e1 e2 hlk
        go_wp2
        go_roundw
        case rel => exact ⟨k + 1, by omega, by rw [E2.out], by go_num, by rw [E1.out]; exact Hm3.out, Hg4.out⟩
        case measure => simp [intOf]; omega
      | some y =>
        have e1 := fm_succ hkk
        have E1 := hid e1
        by_cases hf : fd ks k < 0
        · have e2 := fd_succ_first hkk hlk hf
          have E2 := hid e2
          clear e1 e2 hlk
          go_wp2
          go_roundw
          case rel => exact ⟨k + 1, by omega, by rw [E2.out], by go_num, by rw [E1.out]; exact Hm3.out, Hg4.out⟩
          case measure => simp [intOf]; omega
        · have e2 := fd_succ_old hkk (by omega)
          have E2 := hid e2
          clear e1 e2 hlk
          go_wp2
          go_roundw
          case rel => exact ⟨k + 1, by omega, by rw [E2.out], by go_num, by rw [E1.out]; exact Hm3.out, Hg4.out⟩
          case measure => simp [intOf]; omega
    · have hke : k = l.length := by omega
      subst hke
      go_wp2
      go_ret
      exact ⟨rfl, hmk, hg⟩

set_option maxHeartbeats 400000 in
theorem collectO16_c (w : World) (a : Option Addr) (cap r : Nat) (l : List Prt) (hrow : RowAt 6 encPrt w a l) (hlen : l.length ≤ 140737488351232) (hm : Map16 w r []) :
    Calls Try.prog 38 #[.slice a l.length cap, .func (.func 39) #[] #[], .func (.func 37) #[.map (some r)] #[]] w fun e w' =>
      e = .returned (.int .i64 (fd (l.map (·.id)) l.length)) ∧ Map16 w' r (fm (l.map (·.id)) l.length) ∧ w.grownBy w' (some r) := by
  have hsh := hm.shape
  obtain ⟨ks, hks⟩ : ∃ ks, ks = l.map (·.id) := ⟨_, rfl⟩
  rw [← hks]
  have hk : ∀ k (h : k < l.length), ks[k]? = some l[k].id := by intro k h; subst hks; simp [h]
  have Hk := hid hk
  clear hks hk
  go_enter Try.func38, Try.ntmps38
  go_wp2
  go_loopw [7, 12] (fun f i wr => ∃ k : Nat, k ≤ l.length ∧ f = .int .i64 (fd ks k) ∧ i = .int .i64 k ∧ Map16 wr r (fm ks k) ∧ w.grownBy wr (some r)) (fun _ i _ => l.length - (intOf i).toNat)
  case atStart => exact ⟨0, Nat.zero_le _, rfl, rfl, hm, grefl _ _⟩
  case round =>
    obtain ⟨k, hkn, rfl, rfl, hmk, hg⟩ := hrel
    by_cases hlt : k < l.length
    · obtain ⟨b, o, rfl, hb, h0, h1, h2, h3, h4, h5⟩ := (hrow.grown hg hsh).prt hlt
      have hfr := fd_range ks k
      clear hrow hm hsh
      have hkk := Hk.out k hlt
      have hm1 := hid hmk
      have hg1 := hid hg
      clear hmk hg
      go_wp2_with fail
      refine (portID_c l[k] _).mono ?_
      rintro e w2 ⟨rfl, hb2⟩
      have hm2 := (hm1.out.below (below_new _ _)).below hb2
      have hg2 := gtrans (gtrans hg1.out (World.grownBy_alloc _ _ _)) (gbelow hb2 _)
      have hc8 : w2.heap.size ≥ wr.heap.size + 1 := by have := hb2.size; simpa using this
      clear hb2
      go_wp2_with fail
      refine (add16_c w2 r (fm ks k) hm2 l[k].id k).mono ?_
      rintro e w3 ⟨rfl, hm3, hg3⟩
      have hg4 := gtrans hg2 hg3
      clear hg2 hg3 hm2
      have Hm3 := hid hm3
      have Hg4 := hid hg4
      clear hm3 hg4
      cases hlk : look l[k].id (fm ks k) with
      | none =>
        have e1 := fm_succ hkk
        have e2 := fd_succ_new hkk hlk
        have E1 := hid e1
        have E2 := hid e2
        clear e1 e2 hlk
        go_wp2
        go_roundw
        case rel => exact ⟨k + 1, by omega, by rw [E2.out], by go_num, by rw [E1.out]; exact Hm3.out, Hg4.out⟩
        case measure => simp [intOf]; omega
      | some y =>
        have e1 := fm_succ hkk
        have E1 := hid e1
        by_cases hf : fd ks k < 0
        · have e2 := fd_succ_first hkk hlk hf
          have E2 := hid e2
          clear e1 e2 hlk
          go_wp2
          go_roundw
          case rel => exact ⟨k + 1, by omega, by rw [E2.out], by go_num, by rw [E1.out]; exact Hm3.out, Hg4.out⟩
          case measure => simp [intOf]; omega
        · have e2 := fd_succ_old hkk (by omega)
          have E2 := hid e2
          clear e1 e2 hlk
          go_wp2
          go_roundw
          case rel => exact ⟨k + 1, by omega, by rw [E2.out], by go_num, by rw [E1.out]; exact Hm3.out, Hg4.out⟩
          case measure => simp [intOf]; omega
    · have hke : k = l.length := by omega
      subst hke
      go_wp2
      go_ret
      exact ⟨rfl, hmk, hg⟩
set_option maxHeartbeats 400000 in
theorem collectONm_c (w : World) (a : Option Addr) (cap r : Nat) (l : List Prt) (hrow : RowAt 6 encPrt w a l) (hlen : l.length ≤ 140737488351232) (hm : MapNm w r []) :
    Calls Try.prog 42 #[.slice a l.length cap, .func (.func 43) #[] #[], .func (.func 44) #[.map (some r)] #[]] w fun e w' =>
      e = .returned (.int .i64 (fd (l.map (fun p => (p.part, p.name))) l.length)) ∧ MapNm w' r (fm (l.map (fun p => (p.part, p.name))) l.length) ∧ w.grownBy w' (some r) := by
  have hsh := hm.shape
  obtain ⟨ks, hks⟩ : ∃ ks, ks = l.map (fun p => (p.part, p.name)) := ⟨_, rfl⟩
  rw [← hks]
  have hk : ∀ k (h : k < l.length), ks[k]? = some (l[k].part, l[k].name) := by intro k h; subst hks; simp [h]
  have Hk := hid hk
  clear hks hk
  go_enter Try.func42, Try.ntmps42
  go_wp2
  go_loopw [7, 12] (fun f i wr => ∃ k : Nat, k ≤ l.length ∧ f = .int .i64 (fd ks k) ∧ i = .int .i64 k ∧ MapNm wr r (fm ks k) ∧ w.grownBy wr (some r)) (fun _ i _ => l.length - (intOf i).toNat)
  case atStart => exact ⟨0, Nat.zero_le _, rfl, rfl, hm, grefl _ _⟩
  case round =>
    obtain ⟨k, hkn, rfl, rfl, hmk, hg⟩ := hrel
    by_cases hlt : k < l.length
    · obtain ⟨b, o, rfl, hb, h0, h1, h2, h3, h4, h5⟩ := (hrow.grown hg hsh).prt hlt
      have hfr := fd_range ks k
      clear hrow hm hsh
      have hkk := Hk.out k hlt
      have hm1 := hid hmk
      have hg1 := hid hg
      clear hmk hg
      go_wp2_with fail
      refine (portName_c l[k] _).mono ?_
      rintro e w2 ⟨rfl, hb2⟩
      have hm2 := (hm1.out.below (below_new _ _)).below hb2
      have hg2 := gtrans (gtrans hg1.out (World.grownBy_alloc _ _ _)) (gbelow hb2 _)
      have hc8 : w2.heap.size ≥ wr.heap.size + 1 := by have := hb2.size; simpa using this
      clear hb2
      go_wp2_with fail
      refine (addNm_c w2 r (fm ks k) hm2 (l[k].part, l[k].name) k).mono ?_
      rintro e w3 ⟨rfl, hm3, hg3⟩
      have hg4 := gtrans hg2 hg3
      clear hg2 hg3 hm2
      have Hm3 := hid hm3
      have Hg4 := hid hg4
      clear hm3 hg4
      cases hlk : look (l[k].part, l[k].name) (fm ks k) with
      | none =>
        have e1 := fm_succ hkk
        have e2 := fd_succ_new hkk hlk
        have E1 := hid e1
        have E2 := hid e2
        clear e1 e2 hlk
        go_wp2
        go_roundw
        case rel => exact ⟨k + 1, by omega, by rw [E2.out], by go_num, by rw [E1.out]; exact Hm3.out, Hg4.out⟩
        case measure => simp [intOf]; omega
      | some y =>
        have e1 := fm_succ hkk
        have E1 := hid e1
        by_cases hf : fd ks k < 0
        · have e2 := fd_succ_first hkk hlk hf
          have E2 := hid e2
          clear e1 e2 hlk
          go_wp2
          go_roundw
          case rel => exact ⟨k + 1, by omega, by rw [E2.out], by go_num, by rw [E1.out]; exact Hm3.out, Hg4.out⟩
          case measure => simp [intOf]; omega
        · have e2 := fd_succ_old hkk (by omega)
          have E2 := hid e2
          clear e1 e2 hlk
          go_wp2
          go_roundw
          case rel => exact ⟨k + 1, by omega, by rw [E2.out], by go_num, by rw [E1.out]; exact Hm3.out, Hg4.out⟩
          case measure => simp [intOf]; omega
    · have hke : k = l.length := by omega
      subst hke
      go_wp2
      go_ret
      exact ⟨rfl, hmk, hg⟩
set_option maxHeartbeats 400000 in
theorem collectC16_c (w : World) (a : Option Addr) (cap r : Nat) (l : List Chn) (hrow : ChnAt w a l) (hlen : l.length ≤ 140737488351232) (hm : Map16 w r []) :
    Calls Try.prog 40 #[.slice a l.length cap, .func (.func 41) #[] #[], .func (.func 37) #[.map (some r)] #[]] w fun e w' =>
      e = .returned (.int .i64 (fd (l.map (·.id)) l.length)) ∧ Map16 w' r (fm (l.map (·.id)) l.length) ∧ w.grownBy w' (some r) := by
  have hsh := hm.shape
  obtain ⟨ks, hks⟩ : ∃ ks, ks = l.map (·.id) := ⟨_, rfl⟩
  rw [← hks]
  have hk : ∀ k (h : k < l.length), ks[k]? = some l[k].id := by intro k h; subst hks; simp [h]
  have Hk := hid hk
  clear hks hk
  go_enter Try.func40, Try.ntmps40
  go_wp2
  go_loopw [7, 12] (fun f i wr => ∃ k : Nat, k ≤ l.length ∧ f = .int .i64 (fd ks k) ∧ i = .int .i64 k ∧ Map16 wr r (fm ks k) ∧ w.grownBy wr (some r)) (fun _ i _ => l.length - (intOf i).toNat)
  case atStart => exact ⟨0, Nat.zero_le _, rfl, rfl, hm, grefl _ _⟩
  case round =>
    obtain ⟨k, hkn, rfl, rfl, hmk, hg⟩ := hrel
    by_cases hlt : k < l.length
    · obtain ⟨b, o, d, c, rfl, hb, h0, h1, h2, _, _⟩ := (hrow.grown hg hsh).chn hlt
      have hfr := fd_range ks k
      clear hrow hm hsh
      have hkk := Hk.out k hlt
      have hm1 := hid hmk
      have hg1 := hid hg
      clear hmk hg
      go_wp2_with fail
      refine (channelID_c _ _ l[k].id _).mono ?_
      rintro e w2 ⟨rfl, hb2⟩
      have hm2 := (hm1.out.below (below_new _ _)).below hb2
      have hg2 := gtrans (gtrans hg1.out (World.grownBy_alloc _ _ _)) (gbelow hb2 _)
      have hc8 : w2.heap.size ≥ wr.heap.size + 1 := by have := hb2.size; simpa using this
      clear hb2
      go_wp2_with fail
      refine (add16_c w2 r (fm ks k) hm2 l[k].id k).mono ?_
      rintro e w3 ⟨rfl, hm3, hg3⟩
      have hg4 := gtrans hg2 hg3
      clear hg2 hg3 hm2
      have Hm3 := hid hm3
      have Hg4 := hid hg4
      clear hm3 hg4
      cases hlk : look l[k].id (fm ks k) with
      | none =>
        have e1 := fm_succ hkk
        have e2 := fd_succ_new hkk hlk
        have E1 := hid e1
        have E2 := hid e2
        clear e1 e2 hlk
        go_wp2
        go_roundw
        case rel => exact ⟨k + 1, by omega, by rw [E2.out], by go_num, by rw [E1.out]; exact Hm3.out, Hg4.out⟩
        case measure => simp [intOf]; omega
      | some y =>
        have e1 := fm_succ hkk
        have E1 := hid e1
        by_cases hf : fd ks k < 0
        · have e2 := fd_succ_first hkk hlk hf
          have E2 := hid e2
          clear e1 e2 hlk
          go_wp2
          go_roundw
          case rel => exact ⟨k + 1, by omega, by rw [E2.out], by go_num, by rw [E1.out]; exact Hm3.out, Hg4.out⟩
          case measure => simp [intOf]; omega
        · have e2 := fd_succ_old hkk (by omega)
          have E2 := hid e2
          clear e1 e2 hlk
          go_wp2
          go_roundw
          case rel => exact ⟨k + 1, by omega, by rw [E2.out], by go_num, by rw [E1.out]; exact Hm3.out, Hg4.out⟩
          case measure => simp [intOf]; omega
    · have hke : k = l.length := by omega
      subst hke
      go_wp2
      go_ret
      exact ⟨rfl, hmk, hg⟩




end Go.Proofs.Ytmoignbaphddeaa
namespace Go.Proofs.Ytmoignbaphddeaa
open Go.RowKit

/-- what an index holds -/
structure IdxAt (w : World) (x : Nat) (c : Cfg) (r1 r2 r3 r4 : Nat) : Prop where
  cells : w.heap[x]? = some (.cells #[.map (some r1), .map (some r2), .map (some r3), .map (some r4)] 86 (0, 0))
  parts : Map16 w r1 (fm (c.parts.map (·.id)) c.parts.length)
  ports : Map16 w r2 (fm (c.ports.map (·.id)) c.ports.length)
  chans : Map16 w r3 (fm (c.chans.map (·.id)) c.chans.length)
  names : MapNm w r4 (fm (c.ports.map (fun p => (p.part, p.name))) c.ports.length)

theorem IdxAt.below {w w' : World} {x : Nat} {c : Cfg} {r1 r2 r3 r4 : Nat} (h : IdxAt w x c r1 r2 r3 r4) (hb : Below w.heap.size w w') : IdxAt w' x c r1 r2 r3 r4 :=
  ⟨heap_keep h.cells hb, h.parts.below hb, h.ports.below hb, h.chans.below hb, h.names.below hb⟩

theorem New_c (w : World) (c : Cfg) (A : Adr) (hc : CfgAt w c A) :
    Calls Try.prog 24 #[cfgVal c A] w fun e w' => ∃ x r1 r2 r3 r4, e = .returned (.pointer (some ⟨x, 0, none⟩)) ∧ IdxAt w' x c r1 r2 r3 r4 ∧ Below w.heap.size w w' := by
  have hmm := @run_makeMap Try.prog
  unfold cfgVal cfgCells
  go_enter Try.func24, Try.ntmps24
  go_wp2_with fail
  refine wp_name (fun W => Below w.heap.size w W ∧ W.heap.size = w.heap.size + 6 ∧ W.heap[w.heap.size]? = some (.cells (cfgCells c A) 29 (0, 0)) ∧
      W.heap[w.heap.size + 1 + 1 + 1 + 1 + 1]? = some (.cells #[.map (some (w.heap.size + 1)), .map (some (w.heap.size + 1 + 1)), .map (some (w.heap.size + 1 + 1 + 1)), .map (some (w.heap.size + 1 + 1 + 1 + 1))] 86 (0, 0)) ∧
      Map16 W (w.heap.size + 1) [] ∧ Map16 W (w.heap.size + 1 + 1) [] ∧ Map16 W (w.heap.size + 1 + 1 + 1) [] ∧ MapNm W (w.heap.size + 1 + 1 + 1 + 1) []) ?_ ?_
  · refine ⟨?_, by simp, (by repeat (first | (refine heap_at ?_; simp; done) | refine heap_alloc' ?_ _)), (by repeat (first | (refine heap_at ?_; simp; done) | refine heap_alloc' ?_ _)), ⟨#[], 0, (by repeat (first | (refine heap_at ?_; simp; done) | refine heap_alloc' ?_ _)), rfl⟩, ⟨#[], 0, (by repeat (first | (refine heap_at ?_; simp; done) | refine heap_alloc' ?_ _)), rfl⟩, ⟨#[], 0, (by repeat (first | (refine heap_at ?_; simp; done) | refine heap_alloc' ?_ _)), rfl⟩, ⟨#[], 0, (by repeat (first | (refine heap_at ?_; simp; done) | refine heap_alloc' ?_ _)), rfl⟩⟩
    exact (((((below_new _ _).alloc (by simp) _).alloc (by simp; omega) _).alloc (by simp; omega) _).alloc (by simp; omega) _).alloc (by simp; omega) _
  rintro w1 ⟨hb1, hs1, hbox1, hidx1, hm1, hm2, hm3, hm4⟩
  have hp1 : RowAt 4 encPart w1.drew A.a1 c.parts := (hc.below hb1).parts
  have hl1 : c.parts.length ≤ 140737488351232 := by have := hc.ok.nparts; omega
  have d1 := cell_of_heap (i := 0) hidx1 rfl
  have b1 := (box_cfg hbox1).2.1
  go_region_held3 (fun W => W.cell? ⟨w.heap.size, 1, none⟩ = some (.slice A.a1 c.parts.length A.k1) ∧ W.cell? ⟨w.heap.size + 1 + 1 + 1 + 1 + 1, 0, none⟩ = some (.map (some (w.heap.size + 1)))) (go_keep) (first | (go_at_call 35; refine (collectP16_c w1.drew A.a1 A.k1 (w.heap.size + 1) c.parts hp1 hl1 hm1).mono ?_; rintro e w2 ⟨rfl, hn1, hg1'⟩; have hg1 := undrew hg1'; clear hg1'; have hbox2 := heap_grown hg1 hbox1 (by omega); have hidx2 := heap_grown hg1 hidx1 (by omega); have eb := (box_cfg hbox2).2.1; have ed := cell_of_heap (i := 0) hidx2 rfl))
  have hb2 : Below w.heap.size w w2 := bgrown hb1 hg1 (by omega)
  have hm2' := MapAt.grown hm2 hg1 (by omega)
  clear hm2
  have hm2 := hm2'
  clear hm2'
  have hm3' := MapAt.grown hm3 hg1 (by omega)
  clear hm3
  have hm3 := hm3'
  clear hm3'
  have hm4' := MapAt.grown hm4 hg1 (by omega)
  clear hm4
  have hm4 := hm4'
  clear hm4'
  clear hp1 hl1 d1 b1 eb ed hbox1 hidx1 hg1 hb1 hm1
  go_wp2_with fail
  have hp2 : RowAt 6 encPrt w2.drew A.a4 c.ports := (hc.below hb2).ports
  have hl2 : c.ports.length ≤ 140737488351232 := by have := hc.ok.nports; omega
  have d2 := cell_of_heap (i := 1) hidx2 rfl
  have b2 := (box_cfg hbox2).2.2.2.2.1
  go_region_held3 (fun W => W.cell? ⟨w.heap.size, 4, none⟩ = some (.slice A.a4 c.ports.length A.k4) ∧ W.cell? ⟨w.heap.size + 1 + 1 + 1 + 1 + 1, 1, none⟩ = some (.map (some (w.heap.size + 1 + 1)))) (go_keep) (first | (go_at_call 38; refine (collectO16_c w2.drew A.a4 A.k4 (w.heap.size + 1 + 1) c.ports hp2 hl2 hm2).mono ?_; rintro e w3 ⟨rfl, hn2, hg2'⟩; have hg2 := undrew hg2'; clear hg2'; have hbox3 := heap_grown hg2 hbox2 (by omega); have hidx3 := heap_grown hg2 hidx2 (by omega); have eb := (box_cfg hbox3).2.2.2.2.1; have ed := cell_of_heap (i := 1) hidx3 rfl))
  have hb3 : Below w.heap.size w w3 := bgrown hb2 hg2 (by omega)
  have hn1' := MapAt.grown hn1 hg2 (by omega)
  clear hn1
  have hn1 := hn1'
  clear hn1'
  have hm3' := MapAt.grown hm3 hg2 (by omega)
  clear hm3
  have hm3 := hm3'
  clear hm3'
  have hm4' := MapAt.grown hm4 hg2 (by omega)
  clear hm4
  have hm4 := hm4'
  clear hm4'
  clear hp2 hl2 d2 b2 eb ed hbox2 hidx2 hg2 hb2 hm2
  go_wp2_with fail
  have hp3 : ChnAt w3.drew A.a5 c.chans := (hc.below hb3).chans
  have hl3 : c.chans.length ≤ 140737488351232 := by have := hc.ok.nchans; omega
  have d3 := cell_of_heap (i := 2) hidx3 rfl
  have b3 := (box_cfg hbox3).2.2.2.2.2
  go_region_held3 (fun W => W.cell? ⟨w.heap.size, 5, none⟩ = some (.slice A.a5 c.chans.length A.k5) ∧ W.cell? ⟨w.heap.size + 1 + 1 + 1 + 1 + 1, 2, none⟩ = some (.map (some (w.heap.size + 1 + 1 + 1)))) (go_keep) (first | (go_at_call 40; refine (collectC16_c w3.drew A.a5 A.k5 (w.heap.size + 1 + 1 + 1) c.chans hp3 hl3 hm3).mono ?_; rintro e w4 ⟨rfl, hn3, hg3'⟩; have hg3 := undrew hg3'; clear hg3'; have hbox4 := heap_grown hg3 hbox3 (by omega); have hidx4 := heap_grown hg3 hidx3 (by omega); have eb := (box_cfg hbox4).2.2.2.2.2; have ed := cell_of_heap (i := 2) hidx4 rfl))
  have hb4 : Below w.heap.size w w4 := bgrown hb3 hg3 (by omega)
  have hn1' := MapAt.grown hn1 hg3 (by omega)
  clear hn1
  have hn1 := hn1'
  clear hn1'
  have hn2' := MapAt.grown hn2 hg3 (by omega)
  clear hn2
  have hn2 := hn2'
  clear hn2'
  have hm4' := MapAt.grown hm4 hg3 (by omega)
  clear hm4
  have hm4 := hm4'
  clear hm4'
  clear hp3 hl3 d3 b3 eb ed hbox3 hidx3 hg3 hb3 hm3
  go_wp2_with fail
  have hp4 : RowAt 6 encPrt w4.drew A.a4 c.ports := (hc.below hb4).ports
  have hl4 : c.ports.length ≤ 140737488351232 := by have := hc.ok.nports; omega
  have d4 := cell_of_heap (i := 3) hidx4 rfl
  have b4 := (box_cfg hbox4).2.2.2.2.1
  go_region_held3 (fun W => W.cell? ⟨w.heap.size, 4, none⟩ = some (.slice A.a4 c.ports.length A.k4) ∧ W.cell? ⟨w.heap.size + 1 + 1 + 1 + 1 + 1, 3, none⟩ = some (.map (some (w.heap.size + 1 + 1 + 1 + 1)))) (go_keep) (first | (go_at_call 42; refine (collectONm_c w4.drew A.a4 A.k4 (w.heap.size + 1 + 1 + 1 + 1) c.ports hp4 hl4 hm4).mono ?_; rintro e w5 ⟨rfl, hn4, hg4'⟩; have hg4 := undrew hg4'; clear hg4'; have hbox5 := heap_grown hg4 hbox4 (by omega); have hidx5 := heap_grown hg4 hidx4 (by omega); have eb := (box_cfg hbox5).2.2.2.2.1; have ed := cell_of_heap (i := 3) hidx5 rfl))
  have hb5 : Below w.heap.size w w5 := bgrown hb4 hg4 (by omega)
  have hn1' := MapAt.grown hn1 hg4 (by omega)
  clear hn1
  have hn1 := hn1'
  clear hn1'
  have hn2' := MapAt.grown hn2 hg4 (by omega)
  clear hn2
  have hn2 := hn2'
  clear hn2'
  have hn3' := MapAt.grown hn3 hg4 (by omega)
  clear hn3
  have hn3 := hn3'
  clear hn3'
  clear hp4 hl4 d4 b4 eb ed hbox4 hidx4 hg4 hb4 hm4
  go_wp2
  go_ret
  exact ⟨_, _, _, _, _, rfl, ⟨hidx5, hn1, hn2, hn3, hn4⟩, hb5⟩
end Go.Proofs.Ytmoignbaphddeaa
namespace Go.Proofs.Ytmoignbaphddeaa
open Go.RowKit


end Go.Proofs.Ytmoignbaphddeaa
namespace Go.Proofs.Ytmoignbaphddeaa
open Go.RowKit

theorem info_u16 : (Try.prog.info? 38).map (fun i => (i.zero, i.size, i.bytes)) = some (some (.int .u16 0), 1, 2) := by kernel_rfl

/-- of two faults the first -/
def dup2 (a b : Int) : Int := if 0 ≤ a then a else b
theorem dup2_pos {a b : Int} (h : 0 ≤ a) : dup2 a b = a := by simp [dup2, h]
theorem dup2_neg {a b : Int} (h : ¬ 0 ≤ a) : dup2 a b = b := by simp [dup2, h]






end Go.Proofs.Ytmoignbaphddeaa
namespace Go.Proofs.Ytmoignbaphddeaa
open Go.RowKit

theorem xPartition_c (w : World) (x : Nat) (c : Cfg) (r1 r2 r3 r4 : Nat) (hx : IdxAt w x c r1 r2 r3 r4) (id : Int) :
    Calls Try.prog 45 #[.pointer (some ⟨x, 0, none⟩), .int .u16 id] w fun e w' => e = .returned (.int .i64 (ixOf (c.parts.map (·.id)) id)) ∧ Below w.heap.size w w' := by
  have hcell := cell_of_heap (i := 0) hx.cells rfl
  have hfind := find16_c w r1 _ hx.parts id
  rw [look_fm _ _ (by simp)] at hfind
  have Hf := hid hfind
  clear hx hfind
  go_enter Try.func45, Try.ntmps45
  go_wp2_with fail
  refine Hf.out.mono ?_
  rintro e w' ⟨rfl, hb⟩
  go_wp2
  go_ret
  exact ⟨rfl, hb⟩





theorem nPartition_c (w : World) (id : Int) : Calls Try.prog 45 #[.pointer none, .int .u16 id] w fun e w' => e = .returned (.int .i64 (-1)) ∧ Below w.heap.size w w' := by
  go_enter Try.func45, Try.ntmps45
  go_wp2
  go_ret
  exact ⟨rfl, Below.refl _ _⟩








end Go.Proofs.Ytmoignbaphddeaa
namespace Go.Proofs.Ytmoignbaphddeaa

section
variable {α : Type} (key : α → Int)
/-- the key at a place -/
def kAt (a : Array α) (i : Nat) : Int := (a[i]?.map key).getD 0
/-- two places change -/
def swapA (a : Array α) (i j : Nat) : Array α := if h : i < a.size ∧ j < a.size then a.swap i j h.1 h.2 else a
/-- from place j upwards -/
def upA (a : Array α) (j : Nat) : Array α :=
  if _h : 0 < j ∧ kAt key a j < kAt key a ((j - 1) / 2) then upA (swapA a ((j - 1) / 2) j) ((j - 1) / 2) else a
termination_by j
decreasing_by omega
/-- the child of place i with the lesser key, among the first n -/
def childA (a : Array α) (i n : Nat) : Nat := if 2 * i + 2 < n ∧ kAt key a (2 * i + 2) < kAt key a (2 * i + 1) then 2 * i + 2 else 2 * i + 1
theorem childA_cases (a : Array α) (i n : Nat) : (childA key a i n = 2 * i + 1 ∧ (2 * i + 2 < n → kAt key a (2 * i + 1) ≤ kAt key a (2 * i + 2))) ∨ (childA key a i n = 2 * i + 2 ∧ 2 * i + 2 < n ∧ kAt key a (2 * i + 2) < kAt key a (2 * i + 1)) := by
  unfold childA
  split
  · rename_i h; exact .inr ⟨rfl, h⟩
  · rename_i h; exact .inl ⟨rfl, fun hn => by omega⟩
/-- from place i downwards, among the first n -/
def downA (a : Array α) (i n : Nat) : Array α :=
  if _h : 2 * i + 1 < n ∧ kAt key a (childA key a i n) < kAt key a i then downA (swapA a i (childA key a i n)) (childA key a i n) n else a
termination_by n - i
decreasing_by
  rcases childA_cases key a i n with ⟨e, _⟩ | ⟨e, _⟩ <;> omega
/-- heap.Init, from place i - 1 on down -/
def initA (a : Array α) : Nat → Array α
  | 0 => a
  | i + 1 => initA (downA key a i a.size) i
end

section
variable {α : Type} {key : α → Int}
theorem swapA_size (a : Array α) (i j : Nat) : (swapA a i j).size = a.size := by
  unfold swapA; split <;> simp
theorem swapA_perm (a : Array α) (i j : Nat) : (swapA a i j).Perm a := by
  unfold swapA
  split
  · exact Array.swap_perm _ _
  · exact Array.Perm.refl _
theorem swapA_get {a : Array α} {i j : Nat} (hi : i < a.size) (hj : j < a.size) (k : Nat) : (swapA a i j)[k]? = if k = i then a[j]? else if k = j then a[i]? else a[k]? := by
  unfold swapA
  rw [dif_pos ⟨hi, hj⟩]
  by_cases hk : k < a.size
  · rw [Array.getElem?_eq_getElem (by simpa using hk), Array.getElem_swap]
    by_cases h1 : k = i
    · subst h1; simp [Array.getElem?_eq_getElem hj]
    · by_cases h2 : k = j
      · subst h2; simp [h1, Array.getElem?_eq_getElem hi]
      · simp [h1, h2, Array.getElem?_eq_getElem hk]
  · have h1 : k ≠ i := by omega
    have h2 : k ≠ j := by omega
    rw [if_neg h1, if_neg h2]
    simp [show a.size ≤ k by omega]
theorem kAt_swap {a : Array α} {i j : Nat} (hi : i < a.size) (hj : j < a.size) (k : Nat) : kAt key (swapA a i j) k = if k = i then kAt key a j else if k = j then kAt key a i else kAt key a k := by
  unfold kAt
  rw [swapA_get hi hj]
  split
  · rfl
  · split <;> rfl

/-- a heap among the first n, for parents from lo on -/
def HeapN (key : α → Int) (a : Array α) (lo n : Nat) : Prop := ∀ k, 0 < k → k < n → lo ≤ (k - 1) / 2 → kAt key a ((k - 1) / 2) ≤ kAt key a k

theorem upA_size (a : Array α) (j : Nat) : (upA key a j).size = a.size := by
  induction a, j using upA.induct key with
  | case1 a j h ih => rw [upA, dif_pos h, ih, swapA_size]
  | case2 a j h => rw [upA, dif_neg h]
theorem upA_perm (a : Array α) (j : Nat) : (upA key a j).Perm a := by
  induction a, j using upA.induct key with
  | case1 a j h ih => rw [upA, dif_pos h]; exact ih.trans (swapA_perm _ _ _)
  | case2 a j h => rw [upA, dif_neg h]
theorem upA_heap (a : Array α) (j : Nat) (hj : j < a.size) (h1 : ∀ k, 0 < k → k < a.size → k ≠ j → kAt key a ((k - 1) / 2) ≤ kAt key a k)
    (h2 : 0 < j → ∀ k, 0 < k → k < a.size → (k - 1) / 2 = j → kAt key a ((j - 1) / 2) ≤ kAt key a k) : HeapN key (upA key a j) 0 a.size := by
  induction a, j using upA.induct key with
  | case1 a j h ih =>
    obtain ⟨hj0, hlt⟩ := h
    have hp : (j - 1) / 2 < a.size := by omega
    have hs := swapA_size a ((j - 1) / 2) j
    rw [upA, dif_pos ⟨hj0, hlt⟩]
    have := ih (by rw [hs]; exact hp) ?_ ?_
    · rw [hs] at this; exact this
    · intro k hk0 hk hkj
      rw [hs] at hk
      rw [kAt_swap hp hj, kAt_swap hp hj]
      by_cases e1 : k = j
      · subst e1
        rw [if_pos rfl, if_neg (by omega), if_pos rfl]; omega
      · by_cases e2 : (k - 1) / 2 = j
        · have e3 : ¬ j = (j - 1) / 2 := by omega
          rw [e2, if_neg e3, if_pos rfl, if_neg hkj, if_neg e1]
          exact h2 hj0 k hk0 hk e2
        · by_cases e3 : (k - 1) / 2 = (j - 1) / 2
          · rw [e3, if_pos rfl, if_neg hkj, if_neg e1]
            have := h1 k hk0 hk e1
            rw [e3] at this; omega
          · rw [if_neg e3, if_neg e2, if_neg hkj, if_neg e1]
            exact h1 k hk0 hk e1
    · intro hp0 k hk0 hk hkp
      rw [hs] at hk
      rw [kAt_swap hp hj, kAt_swap hp hj]
      have hpp := h1 ((j - 1) / 2) hp0 hp (by omega)
      rw [if_neg (by omega), if_neg (by omega)]
      by_cases e1 : k = j
      · subst e1
        rw [if_neg (by omega), if_pos rfl]; exact hpp
      · rw [if_neg (by omega), if_neg e1]
        have := h1 k hk0 hk e1
        rw [hkp] at this; omega
  | case2 a j h =>
    rw [upA, dif_neg h]
    intro k hk0 hk _
    by_cases e : k = j
    · subst e; omega
    · exact h1 k hk0 hk e

theorem downA_size (a : Array α) (i n : Nat) : (downA key a i n).size = a.size := by
  induction a, i using downA.induct key n with
  | case1 a i h ih => rw [downA, dif_pos h, ih, swapA_size]
  | case2 a i h => rw [downA, dif_neg h]
theorem downA_perm (a : Array α) (i n : Nat) : (downA key a i n).Perm a := by
  induction a, i using downA.induct key n with
  | case1 a i h ih => rw [downA, dif_pos h]; exact ih.trans (swapA_perm _ _ _)
  | case2 a i h => rw [downA, dif_neg h]
theorem downA_ge (a : Array α) (i n : Nat) (hn : n ≤ a.size) (k : Nat) (hk : n ≤ k) : (downA key a i n)[k]? = a[k]? := by
  induction a, i using downA.induct key n with
  | case1 a i h ih =>
    rw [downA, dif_pos h, ih (by rw [swapA_size]; exact hn)]
    rcases childA_cases key a i n with ⟨e, _⟩ | ⟨e, he, _⟩
    · rw [e, swapA_get (by omega) (by omega), if_neg (by omega), if_neg (by omega)]
    · rw [e, swapA_get (by omega) (by omega), if_neg (by omega), if_neg (by omega)]
  | case2 a i h => rw [downA, dif_neg h]

theorem downA_heap (a : Array α) (i n lo : Nat) (hn : n ≤ a.size) (hlo : lo ≤ i) (h1 : ∀ k, 0 < k → k < n → lo ≤ (k - 1) / 2 → (k - 1) / 2 ≠ i → kAt key a ((k - 1) / 2) ≤ kAt key a k)
    (h2 : 0 < i → lo ≤ (i - 1) / 2 → ∀ k, 0 < k → k < n → (k - 1) / 2 = i → kAt key a ((i - 1) / 2) ≤ kAt key a k) : HeapN key (downA key a i n) lo n := by
  induction a, i using downA.induct key n with
  | case1 a i h ih =>
    obtain ⟨hc, hlt⟩ := h
    rw [downA, dif_pos ⟨hc, hlt⟩]
    have hcc := childA_cases key a i n
    obtain ⟨c, hce⟩ : ∃ c, childA key a i n = c := ⟨_, rfl⟩
    rw [hce] at hlt ih hcc ⊢
    have hcn : c < n := by rcases hcc with ⟨e, _⟩ | ⟨e, h', _⟩ <;> omega
    have hci : (c - 1) / 2 = i := by rcases hcc with ⟨e, _⟩ | ⟨e, h', _⟩ <;> omega
    have hic : i < c := by omega
    have hmin : ∀ k, 0 < k → k < n → (k - 1) / 2 = i → kAt key a c ≤ kAt key a k := by
      intro k hk0 hk hki
      have : k = 2 * i + 1 ∨ k = 2 * i + 2 := by omega
      rcases hcc with ⟨e, hle⟩ | ⟨e, h', hlt'⟩
      · rcases this with rfl | rfl
        · rw [e]; exact Int.le_refl _
        · rw [e]; exact hle hk
      · rcases this with rfl | rfl
        · rw [e]; omega
        · rw [e]; exact Int.le_refl _
    have hsi : i < a.size := by omega
    have hsc : c < a.size := by omega
    refine ih (by rw [swapA_size]; exact hn) (by omega) ?_ ?_
    · intro k hk0 hk hkl hkc
      rw [kAt_swap hsi hsc, kAt_swap hsi hsc]
      by_cases e1 : (k - 1) / 2 = i
      · rw [if_pos e1, if_neg (by omega)]
        by_cases e2 : k = c
        · rw [if_pos e2]; omega
        · rw [if_neg e2]; exact hmin k hk0 hk e1
      · rw [if_neg e1, if_neg hkc]
        by_cases e2 : k = i
        · subst e2
          rw [if_pos rfl]
          exact h2 hk0 hkl c (by omega) hcn hci
        · rw [if_neg e2]
          by_cases e3 : k = c
          · subst e3; exact absurd hci e1
          · rw [if_neg e3]; exact h1 k hk0 hk hkl e1
    · intro hc0 hcl k hk0 hk hkc
      rw [kAt_swap hsi hsc, kAt_swap hsi hsc, hci, if_pos rfl, if_neg (by omega), if_neg (by omega)]
      have := h1 k hk0 hk (by omega) (by omega)
      rw [hkc] at this
      exact this
  | case2 a i h =>
    rw [downA, dif_neg h]
    intro k hk0 hk hkl
    by_cases e : (k - 1) / 2 = i
    · have hcc := childA_cases key a i n
      have hn1 : 2 * i + 1 < n := by omega
      have hle : kAt key a i ≤ kAt key a (childA key a i n) := by
        rcases Int.lt_or_le (kAt key a (childA key a i n)) (kAt key a i) with h' | h'
        · exact absurd ⟨hn1, h'⟩ h
        · exact h'
      have : k = 2 * i + 1 ∨ k = 2 * i + 2 := by omega
      rw [e]
      rcases hcc with ⟨e', hle'⟩ | ⟨e', h', hlt'⟩
      · rw [e'] at hle
        rcases this with rfl | rfl
        · exact hle
        · have := hle' hk; omega
      · rw [e'] at hle
        rcases this with rfl | rfl
        · omega
        · exact hle
    · exact h1 k hk0 hk hkl e

theorem initA_size : ∀ (i : Nat) (a : Array α), (initA key a i).size = a.size
  | 0, a => rfl
  | i + 1, a => by rw [initA, initA_size i, downA_size]
theorem initA_perm : ∀ (i : Nat) (a : Array α), (initA key a i).Perm a
  | 0, a => Array.Perm.refl _
  | i + 1, a => by rw [initA]; exact (initA_perm i _).trans (downA_perm _ _ _)
theorem initA_heap : ∀ (i : Nat) (a : Array α), HeapN key a i a.size → HeapN key (initA key a i) 0 a.size
  | 0, a, h => h
  | i + 1, a, h => by
    rw [initA]
    have h1 := downA_heap a i a.size i (Nat.le_refl _) (Nat.le_refl _) (fun k hk0 hk hkl hki => h k hk0 hk (by omega)) (fun h0 hl => by omega)
    have h2 := initA_heap i (downA key a i a.size)
    rw [downA_size] at h2
    exact h2 h1
/-- heap.Init -/
theorem init_heap (a : Array α) : HeapN key (initA key a (a.size / 2)) 0 a.size := initA_heap _ a (fun k hk0 hk hkl => by omega)

theorem heap_min {a : Array α} {n : Nat} (h : HeapN key a 0 n) : ∀ k, k < n → kAt key a 0 ≤ kAt key a k := by
  intro k
  induction k using Nat.strongRecOn with
  | ind k ih =>
    intro hk
    rcases Nat.eq_zero_or_pos k with rfl | h0
    · exact Int.le_refl _
    · have h1 := ih ((k - 1) / 2) (by omega) (by omega)
      have h2 := h k h0 hk (by omega)
      omega

/-- heap.Pop: what is left -/
def popA (key : α → Int) (a : Array α) : Array α := (downA key (swapA a 0 (a.size - 1)) 0 (a.size - 1)).pop
theorem popA_heap {a : Array α} (h0 : 0 < a.size) (h : HeapN key a 0 a.size) : HeapN key (popA key a) 0 (a.size - 1) := by
  have hs := swapA_size a 0 (a.size - 1)
  have h1 := downA_heap (key := key) (swapA a 0 (a.size - 1)) 0 (a.size - 1) 0 (by omega) (Nat.le_refl _) (fun k hk0 hk _ hkp => by
    rw [kAt_swap h0 (by omega), kAt_swap h0 (by omega), if_neg hkp, if_neg (by omega), if_neg (by omega), if_neg (by omega)]
    exact h k hk0 (by omega) (by omega)) (fun h => by omega)
  intro k hk0 hk hkl
  have h2 := h1 k hk0 hk hkl
  unfold popA kAt
  unfold kAt at h2
  rw [Array.getElem?_pop, Array.getElem?_pop, downA_size, swapA_size, if_pos (by omega), if_pos (by omega)]
  exact h2
theorem popA_size {a : Array α} : (popA key a).size = a.size - 1 := by simp [popA, downA_size, swapA_size]
theorem popA_perm {a : Array α} (h0 : 0 < a.size) : (a[0] :: (popA key a).toList).Perm a.toList := by
  have h1 : (downA key (swapA a 0 (a.size - 1)) 0 (a.size - 1)).Perm a := (downA_perm _ _ _).trans (swapA_perm _ _ _)
  have hs : (downA key (swapA a 0 (a.size - 1)) 0 (a.size - 1)).size = a.size := by rw [downA_size, swapA_size]
  have hlast : (downA key (swapA a 0 (a.size - 1)) 0 (a.size - 1))[a.size - 1]? = some a[0] := by
    rw [downA_ge _ _ _ (by rw [swapA_size]; omega) _ (Nat.le_refl _), swapA_get h0 (by omega)]
    by_cases e : a.size - 1 = 0
    · rw [if_pos e]; rw [e]; exact Array.getElem?_eq_getElem h0
    · rw [if_neg e, if_pos rfl]; exact Array.getElem?_eq_getElem h0
  obtain ⟨D, hD⟩ : ∃ D, downA key (swapA a 0 (a.size - 1)) 0 (a.size - 1) = D := ⟨_, rfl⟩
  have hp : popA key a = D.pop := by rw [popA, hD]
  rw [hD] at h1 hs hlast
  rw [hp]
  have hdl : D.toList = D.pop.toList ++ [a[0]] := by
    apply List.ext_getElem?
    intro k
    rw [List.getElem?_append]
    simp only [Array.getElem?_toList, Array.length_toList, Array.size_pop, hs]
    by_cases hk : k < a.size - 1
    · rw [if_pos hk, Array.getElem?_pop, hs, if_pos hk]
    · rw [if_neg hk]
      by_cases e : k = a.size - 1
      · subst e; rw [hlast]; simp
      · rw [Array.getElem?_eq_none (by omega), List.getElem?_eq_none (by simp; omega)]
  have h2 : D.toList.Perm a.toList := h1.toList
  rw [hdl] at h2
  exact (List.perm_append_comm.symm.trans (by simpa using h2))
end
end Go.Proofs.Ytmoignbaphddeaa
namespace Go.Proofs.Ytmoignbaphddeaa

section
variable {α : Type} (key : α → Int)
/-- what ends ahead of lo goes -/
def drainA (a : Array α) (lo : Int) : Array α :=
  if _h : 0 < a.size ∧ kAt key a 0 < lo then drainA (popA key a) lo else a
termination_by a.size
decreasing_by rw [popA_size]; omega
/-- heap.Fix behind a new last element -/
def pushA (a : Array α) (x : α) : Array α := upA key (a.push x) a.size
/-- what is passed on -/
def visitL (lo last : α → Int) (w o : Array α) : List (α × Array α) :=
  if h : 0 < w.size then (w[0], drainA last o (lo w[0])) :: visitL lo last (popA lo w) (pushA last (drainA last o (lo w[0])) w[0]) else []
termination_by w.size
decreasing_by rw [popA_size]; omega
end

section
variable {α : Type} {key : α → Int}
theorem kAt_zero {a : Array α} (h : 0 < a.size) : kAt key a 0 = key a[0] := by simp [kAt, Array.getElem?_eq_getElem h]
theorem heap_all {a : Array α} (h : HeapN key a 0 a.size) (h0 : 0 < a.size) : ∀ y ∈ a.toList, key a[0] ≤ key y := by
  intro y hy
  obtain ⟨k, hk, rfl⟩ := List.getElem_of_mem hy
  have hk' : k < a.size := by simpa using hk
  have := heap_min h k hk'
  rw [kAt_zero h0] at this
  simpa [kAt, Array.getElem?_eq_getElem hk'] using this

theorem drainA_spec (a : Array α) (lo : Int) (h : HeapN key a 0 a.size) : HeapN key (drainA key a lo) 0 (drainA key a lo).size ∧ (drainA key a lo).toList.Perm (a.toList.filter fun y => decide (lo ≤ key y)) := by
  induction a using drainA.induct key lo with
  | case1 a hc ih =>
    obtain ⟨h0, hlt⟩ := hc
    rw [drainA, dif_pos ⟨h0, hlt⟩]
    have h1 := popA_heap h0 h
    rw [← popA_size (key := key)] at h1
    obtain ⟨h2, h3⟩ := ih h1
    refine ⟨h2, h3.trans ?_⟩
    have h4 := (popA_perm (key := key) h0).filter fun y => decide (lo ≤ key y)
    rw [kAt_zero h0] at hlt
    rw [List.filter_cons, if_neg (by simp; omega)] at h4
    exact h4
  | case2 a hc =>
    rw [drainA, dif_neg hc]
    refine ⟨h, ?_⟩
    rw [List.filter_eq_self.2]
    intro y hy
    rcases Nat.eq_zero_or_pos a.size with h0 | h0
    · have : a = #[] := Array.eq_empty_of_size_eq_zero h0
      subst this; simp at hy
    · have h1 := heap_all h h0 y hy
      rw [decide_eq_true_eq]
      rcases Int.lt_or_le (kAt key a 0) lo with h2 | h2
      · exact absurd ⟨h0, h2⟩ hc
      · rw [kAt_zero h0] at h2; omega
theorem pushA_spec (a : Array α) (x : α) (h : HeapN key a 0 a.size) : HeapN key (pushA key a x) 0 (pushA key a x).size ∧ (pushA key a x).toList.Perm (x :: a.toList) := by
  have hs : (pushA key a x).size = a.size + 1 := by rw [pushA, upA_size, Array.size_push]
  constructor
  · rw [hs]
    have := upA_heap (key := key) (a.push x) a.size (by simp) (fun k hk0 hk hkn => by
      rw [Array.size_push] at hk
      have hk' : k < a.size := by omega
      have h1 := h k hk0 hk' (by omega)
      unfold kAt at h1 ⊢
      rw [Array.getElem?_push, Array.getElem?_push, if_neg (by omega), if_neg (by omega)]
      exact h1) (fun h0 k hk0 hk hkp => by rw [Array.size_push] at hk; omega)
    rw [Array.size_push] at this
    exact this
  · have h1 : (pushA key a x).toList.Perm (a.push x).toList := (upA_perm (key := key) (a.push x) a.size).toList
    rw [Array.toList_push] at h1
    exact h1.trans List.perm_append_comm

/-- what a trace of visits says -/
structure Visits (lo last : α → Int) (θ : Int) (D : List α) (W : List α) (tr : List (α × Array α)) : Prop where
  perm : (tr.map Prod.fst).Perm W
  asc : (tr.map Prod.fst).Pairwise fun x y => lo x ≤ lo y
  open_ : ∀ t (ht : t < tr.length), tr[t].2.toList.Perm ((((tr.take t).map Prod.fst).reverse ++ D).filter fun y => decide (lo tr[t].1 ≤ last y))

theorem visitL_spec (lo last : α → Int) (w o : Array α) : ∀ (θ : Int) (D : List α), HeapN lo w 0 w.size → HeapN last o 0 o.size → (∀ y ∈ w.toList, θ ≤ lo y ∧ lo y ≤ last y) → o.toList.Perm (D.filter fun y => decide (θ ≤ last y)) → Visits lo last θ D w.toList (visitL lo last w o) := by
  induction w, o using visitL.induct lo last with
  | case1 w o h0 ih =>
    intro θ D hw ho hθ hD
    rw [visitL, dif_pos h0]
    have hx := (hθ w[0] (by simp)).1
    have hxl := (hθ w[0] (by simp)).2
    have hmin := heap_all hw h0
    have hw1 := popA_heap h0 hw
    rw [← popA_size (key := lo)] at hw1
    have hp := popA_perm (key := lo) h0
    obtain ⟨d1, d2⟩ := drainA_spec (key := last) o (lo w[0]) ho
    obtain ⟨p1, p2⟩ := pushA_spec (key := last) (drainA last o (lo w[0])) w[0] d1
    have hdrain : (drainA last o (lo w[0])).toList.Perm (D.filter fun y => decide (lo w[0] ≤ last y)) := by
      refine d2.trans ((hD.filter _).trans ?_)
      rw [List.filter_filter]
      have : (fun y => decide (lo w[0] ≤ last y) && decide (θ ≤ last y)) = fun y => decide (lo w[0] ≤ last y) := by
        funext y
        by_cases hy : lo w[0] ≤ last y
        · simp [hy]; omega
        · simp [hy]
      rw [this]
    obtain ⟨xx, hxx⟩ : ∃ xx, w[0] = xx := ⟨_, rfl⟩
    rw [hxx] at hx hxl hmin hp d1 d2 p1 p2 hdrain ih ⊢
    have hsub : ∀ y ∈ (popA lo w).toList, y ∈ w.toList := fun y hy => hp.mem_iff.1 (List.mem_cons_of_mem _ hy)
    obtain ⟨t1, t2, t3⟩ := ih (lo xx) (xx :: D) hw1 p1 (fun y hy => ⟨hmin y (hsub y hy), (hθ y (hsub y hy)).2⟩) (by
      rw [List.filter_cons, if_pos (by simpa using hxl)]
      exact p2.trans (hdrain.cons _))
    refine ⟨?_, ?_, ?_⟩
    · rw [List.map_cons]
      exact (t1.cons _).trans hp
    · rw [List.map_cons, List.pairwise_cons]
      refine ⟨fun y hy => hmin y (hsub y (t1.mem_iff.1 hy)), t2⟩
    · intro t ht
      cases t with
      | zero => simpa using hdrain
      | succ t =>
        have := t3 t (by simpa using ht)
        simp only [List.getElem_cons_succ, List.take_succ_cons, List.map_cons, List.reverse_cons, List.append_assoc, List.singleton_append]
        exact this
  | case2 w o h0 =>
    intro θ D hw ho hθ hD
    rw [visitL, dif_neg h0]
    have : w = #[] := Array.eq_empty_of_size_eq_zero (by omega)
    subst this
    exact ⟨List.Perm.refl _, List.Pairwise.nil, fun t ht => by simp at ht⟩

/-- the pairs that are noted -/
def pairsOf (idx : α → Nat) (tr : List (α × Array α)) : List (Nat × Nat) := tr.flatMap fun e => e.2.toList.map fun y => (min (idx e.1) (idx y), max (idx e.1) (idx y))

theorem pairs_mem {lo last : α → Int} {θ : Int} {W : List α} {tr : List (α × Array α)} (h : Visits lo last θ [] W tr) (hv : ∀ y ∈ W, lo y ≤ last y) {idx : α → Nat} (hd : (W.map idx).Nodup) (p : Nat × Nat) :
    p ∈ pairsOf idx tr ↔ ∃ x ∈ W, ∃ y ∈ W, idx x < idx y ∧ lo x ≤ last y ∧ lo y ≤ last x ∧ p = (idx x, idx y) := by
  have hnd : ((tr.map Prod.fst).map idx).Nodup := (h.perm.map idx).nodup_iff.2 hd
  have hmem : ∀ t (ht : t < tr.length), tr[t].1 ∈ W := fun t ht => h.perm.mem_iff.1 (List.mem_map.2 ⟨tr[t], List.getElem_mem ht, rfl⟩)
  have hasc : ∀ s t (hs : s < tr.length) (ht : t < tr.length), s < t → lo tr[s].1 ≤ lo tr[t].1 := by
    intro s t hs ht hst
    have := List.pairwise_iff_getElem.1 h.asc s t (by simpa using hs) (by simpa using ht) hst
    simpa using this
  have hne : ∀ s t (hs : s < tr.length) (ht : t < tr.length), s ≠ t → idx tr[s].1 ≠ idx tr[t].1 := by
    intro s t hs ht hst he
    have h1 := hnd
    rw [List.nodup_iff_pairwise_ne, List.pairwise_iff_getElem] at h1
    rcases Nat.lt_or_gt_of_ne hst with h2 | h2
    · exact h1 s t (by simpa using hs) (by simpa using ht) h2 (by simpa using he)
    · exact h1 t s (by simpa using ht) (by simpa using hs) h2 (by simpa using he.symm)
  have hopen : ∀ t (ht : t < tr.length) y, y ∈ tr[t].2.toList ↔ (∃ s, ∃ hs : s < tr.length, s < t ∧ y = tr[s].1) ∧ lo tr[t].1 ≤ last y := by
    intro t ht y
    rw [(h.open_ t ht).mem_iff, List.append_nil, List.mem_filter, List.mem_reverse, decide_eq_true_eq]
    refine and_congr_left fun _ => ?_
    constructor
    · intro hy
      obtain ⟨e, he, rfl⟩ := List.mem_map.1 hy
      obtain ⟨s, hs, rfl⟩ := List.getElem_of_mem he
      rw [List.length_take] at hs
      exact ⟨s, by omega, by omega, by simp⟩
    · rintro ⟨s, hs, hst, rfl⟩
      exact List.mem_map.2 ⟨tr[s], List.mem_of_getElem (i := s) (h := by rw [List.length_take]; omega) (by simp), rfl⟩
  constructor
  · intro hp
    obtain ⟨e, he, hp⟩ := List.mem_flatMap.1 hp
    obtain ⟨t, ht, rfl⟩ := List.getElem_of_mem he
    obtain ⟨y, hy, rfl⟩ := List.mem_map.1 hp
    obtain ⟨⟨s, hs, hst, rfl⟩, hl⟩ := (hopen t ht y).1 hy
    have h1 := hasc s t hs ht hst
    have h2 := hv _ (hmem t ht)
    have h3 := hne s t hs ht (by omega)
    rcases Nat.lt_or_gt_of_ne h3 with h4 | h4
    · exact ⟨tr[s].1, hmem s hs, tr[t].1, hmem t ht, h4, by omega, hl, by rw [Nat.min_eq_right (by omega), Nat.max_eq_left (by omega)]⟩
    · exact ⟨tr[t].1, hmem t ht, tr[s].1, hmem s hs, h4, hl, by omega, by rw [Nat.min_eq_left (by omega), Nat.max_eq_right (by omega)]⟩
  · rintro ⟨x, hx, y, hy, hxy, h1, h2, rfl⟩
    obtain ⟨e, he, rfl⟩ := List.mem_map.1 (h.perm.mem_iff.2 hx)
    obtain ⟨s, hs, rfl⟩ := List.getElem_of_mem he
    obtain ⟨e, he, rfl⟩ := List.mem_map.1 (h.perm.mem_iff.2 hy)
    obtain ⟨t, ht, rfl⟩ := List.getElem_of_mem he
    have hst : s ≠ t := by rintro rfl; omega
    rcases Nat.lt_or_gt_of_ne hst with h3 | h3
    · refine List.mem_flatMap.2 ⟨tr[t], List.getElem_mem ht, List.mem_map.2 ⟨tr[s].1, (hopen t ht _).2 ⟨⟨s, hs, h3, rfl⟩, h2⟩, ?_⟩⟩
      rw [Nat.min_eq_right (by omega), Nat.max_eq_left (by omega)]
    · refine List.mem_flatMap.2 ⟨tr[s], List.getElem_mem hs, List.mem_map.2 ⟨tr[t].1, (hopen s hs _).2 ⟨⟨t, ht, h3, rfl⟩, h1⟩, ?_⟩⟩
      rw [Nat.min_eq_left (by omega), Nat.max_eq_right (by omega)]
end
end Go.Proofs.Ytmoignbaphddeaa
namespace Go.Proofs.Ytmoignbaphddeaa
open Go.RowKit

/-- an item: a span with its index -/
structure Itm where
  lo : Int
  len : Int
  idx : Int
def encItm (x : Itm) : List Value := [.int .u64 x.lo, .int .u64 x.len, .int .i64 x.idx]
def Itm.last (x : Itm) : Int := x.lo + x.len - 1
def Itm.ok (x : Itm) : Prop := 0 ≤ x.lo ∧ 0 < x.len ∧ x.lo + x.len ≤ 18446744073709551616 ∧ x.len ≤ 18446744073709551615

theorem spanLast_c (w : World) (x : Itm) (h : x.ok) :
    Calls Try.prog 52 #[.agg #[.int .u64 x.lo, .int .u64 x.len]] w fun e w' => e = .returned (.int .u64 x.last) ∧ Below w.heap.size w w' := by
  obtain ⟨h0, h1, h2, h3⟩ := h
  unfold Itm.last
  by_cases he : x.lo + x.len = 18446744073709551616
  · have hwr : IntKind.u64.wrap (x.lo + x.len) = 0 := by rw [he]; rfl
    have hw2 : IntKind.u64.wrap (0 - 1) = 18446744073709551615 := by rfl
    have hw3 : x.lo + x.len - 1 = 18446744073709551615 := by omega
    rw [hw3]
    clear he hw3 h2
    go_enter Try.func52, Try.ntmps52
    go_wp2
    go_ret
    exact ⟨rfl, below_new _ _⟩
  have h2 : x.lo + x.len ≤ 18446744073709551615 := by omega
  clear he
  go_enter Try.func52, Try.ntmps52
  go_wp2
  go_ret
  exact ⟨rfl, below_new _ _⟩

/-- what a less function is to do -/
def LessBy (P : Program) (f : FuncId) (key : Itm → Int) : Prop :=
  ∀ (W : World) (x y : Itm), x.ok → y.ok → Calls P f #[.agg #[.int .u64 x.lo, .int .u64 x.len, .int .i64 x.idx], .agg #[.int .u64 y.lo, .int .u64 y.len, .int .i64 y.idx]] W fun e w' => e = .returned (.bool (decide (key x < key y))) ∧ Below W.heap.size W w'

theorem byLo_less : LessBy Try.prog 62 Itm.lo := by
  intro w x y hx hy
  go_enter Try.func62, Try.ntmps62
  go_wp2
  go_ret
  exact ⟨rfl, (below_new _ _).alloc (by simp) _⟩
theorem byLast_less : LessBy Try.prog 63 Itm.last := by
  intro w x y hx hy
  have Hx := hid hx
  have Hy := hid hy
  clear hx hy
  go_enter Try.func63, Try.ntmps63
  go_wp2_with fail
  refine wp_name (fun W => Below w.heap.size w W ∧ W.heap[w.heap.size]? = some (.cells #[.int .u64 x.lo, .int .u64 x.len, .int .i64 x.idx] 110 (0, 0)) ∧ W.heap[w.heap.size + 1]? = some (.cells #[.int .u64 y.lo, .int .u64 y.len, .int .i64 y.idx] 110 (0, 0)))
    ⟨(below_new _ _).alloc (by simp) _, by repeat (first | (refine heap_at ?_; simp; done) | refine heap_alloc' ?_ _), by repeat (first | (refine heap_at ?_; simp; done) | refine heap_alloc' ?_ _)⟩ ?_
  rintro w5 ⟨hb5, h1, h2⟩
  have y0 := cells_later h1 0 rfl
  have y1 := cells_later h1 1 rfl
  have z0 := cells_later h2 0 rfl
  have z1 := cells_later h2 1 rfl
  clear h1 h2
  go_region_held3 (fun W => Below w5.heap.size w5 W) (first | assumption | exact (Below.refl _ _).drew) (first
    | (go_at_call 52; (with_reducible refine (spanLast_c _ x Hx.out).mono ?_); rintro e w6 ⟨rfl, hb6⟩; have hS := bthen (w := w5) (by assumption) hb6)
    | (go_at_call 52; (with_reducible refine (spanLast_c _ y Hy.out).mono ?_); rintro e w6 ⟨rfl, hb6⟩; have hS := bthen (w := w5) (by assumption) hb6))
  have hbf := bthen hb5 hS
  clear y0 y1 z0 z1 hS hb6
  go_wp2
  go_ret
  exact ⟨rfl, hbf⟩
end Go.Proofs.Ytmoignbaphddeaa
namespace Go.Proofs.Ytmoignbaphddeaa
open Go.RowKit

theorem oneI : ∀ x, ∀ v ∈ encItm x, v.oneCell' = true := by intro x v hv; simp only [encItm, List.mem_cons, List.not_mem_nil, or_false] at hv; rcases hv with rfl | rfl | rfl <;> rfl
theorem RowAt.itm {w : World} {a : Option Addr} {l : List Itm} (h : RowAt 3 encItm w a l) {k : Nat} (hk : k < l.length) : ∃ b o, a = some ⟨b, o, none⟩ ∧ b < w.heap.size ∧
    w.cell? ⟨b, o + k * 3, none⟩ = some (.int .u64 l[k].lo) ∧ w.cell? ⟨b, o + k * 3 + 1, none⟩ = some (.int .u64 l[k].len) ∧ w.cell? ⟨b, o + k * 3 + 2, none⟩ = some (.int .i64 l[k].idx) := by
  obtain ⟨b, o, ha, hc⟩ := h k l[k] (List.getElem?_eq_getElem hk)
  exact ⟨b, o, ha, hc.lt (by simp [encItm]), hc 0 _ rfl, hc 1 _ rfl, hc 2 _ rfl⟩

/-- a queue in memory -/
structure QAt (W : World) (base qb : Nat) (f : FuncId) (a : Array Itm) : Prop where
  box : ∃ s, W.heap[qb]? = some (.cells #[s, .func (.func f) #[] #[]] 129 (0, 0)) ∧ W.ownsRow base 110 3 s a.size (a.toList.flatMap encItm)
  ok : ∀ x ∈ a.toList, x.ok
  len : a.size * 24 ≤ 140737488351232
theorem QAt.below {W W' : World} {base qb : Nat} {f : FuncId} {a : Array Itm} (h : QAt W base qb f a) (hb : Below W.heap.size W W') : QAt W' base qb f a := by
  obtain ⟨s, h1, h2⟩ := h.box
  exact ⟨⟨s, heap_keep h1 hb, h2.kept (gbelow hb none) (by cases s.ownBlock <;> simp)⟩, h.ok, h.len⟩

theorem qLen_c (w : World) (base qb : Nat) (f : FuncId) (a : Array Itm) (h : QAt w base qb f a) :
    Calls Try.prog 66 #[.pointer (some ⟨qb, 0, none⟩)] w fun e w' => e = .returned (.int .i64 a.size) ∧ w' = w := by
  obtain ⟨s, h1, h2⟩ := h.box
  obtain ⟨ad, cap, rfl, _⟩ := own_slice h2
  have q0 : w.cell? ⟨qb, 0, none⟩ = some (.slice ad a.size cap) := cell_of_heap h1 rfl
  clear h1 h2 h
  go_enter Try.func66, Try.ntmps66
  go_wp2
  go_ret
  exact ⟨rfl, rfl⟩

/-- the two orders -/
def Order2 (f : FuncId) (key : Itm → Int) : Prop := (f = 62 ∧ key = Itm.lo) ∨ (f = 63 ∧ key = Itm.last)

set_option maxHeartbeats 2000000 in
theorem qLess_c (w : World) (base qb : Nat) (f : FuncId) (key : Itm → Int) (hf : Order2 f key) (a : Array Itm) (h : QAt w base qb f a) (i j : Nat) (hi : i < a.size) (hj : j < a.size) :
    Calls Try.prog 111 #[.pointer (some ⟨qb, 0, none⟩), .int .i64 i, .int .i64 j] w fun e w' => e = .returned (.bool (decide (key a[i] < key a[j]))) ∧ Below w.heap.size w w' := by
  have hlen := h.len
  obtain ⟨s, h1, h2⟩ := h.box
  obtain ⟨ad, cap, rfl, _⟩ := own_slice h2
  have hrow : RowAt 3 encItm w ad a.toList := own_row h2 (fun _ _ => rfl) (by simp)
  obtain ⟨b, o, rfl, hb0, g0, g1, g2⟩ := hrow.itm (k := i) (by simpa using hi)
  obtain ⟨b', o', hbo, hb0', k0, k1, k2⟩ := hrow.itm (k := j) (by simpa using hj)
  simp only [Option.some.injEq, Addr.mk.injEq, and_true] at hbo
  obtain ⟨rfl, rfl⟩ := hbo
  simp only [Array.getElem_toList] at g0 g1 g2 k0 k1 k2
  have okx := hid (h.ok a[i] (by simp))
  have oky := hid (h.ok a[j] (by simp))
  obtain ⟨x, hx⟩ : ∃ x, a[i] = x := ⟨_, rfl⟩
  obtain ⟨y, hy⟩ : ∃ y, a[j] = y := ⟨_, rfl⟩
  rw [hx] at g0 g1 g2 okx
  rw [hy] at k0 k1 k2 oky
  rw [hx, hy]
  have q0 : ∀ W, Below w.heap.size w W → W.cell? ⟨qb, 0, none⟩ = some (.slice (some ⟨b, o, none⟩) a.size cap) := cells_later h1 0 rfl
  have q1 : ∀ W, Below w.heap.size w W → W.cell? ⟨qb, 1, none⟩ = some (.func (.func f) #[] #[]) := cells_later h1 1 rfl
  have m0 : ∀ W, Below w.heap.size w W → W.cell? ⟨b, o + i * 3, none⟩ = some (.int .u64 x.lo) := fun W hW => cell_below hW g0
  have m1 : ∀ W, Below w.heap.size w W → W.cell? ⟨b, o + i * 3 + 1, none⟩ = some (.int .u64 x.len) := fun W hW => cell_below hW g1
  have m2 : ∀ W, Below w.heap.size w W → W.cell? ⟨b, o + i * 3 + 2, none⟩ = some (.int .i64 x.idx) := fun W hW => cell_below hW g2
  have n0 : ∀ W, Below w.heap.size w W → W.cell? ⟨b, o + j * 3, none⟩ = some (.int .u64 y.lo) := fun W hW => cell_below hW k0
  have n1 : ∀ W, Below w.heap.size w W → W.cell? ⟨b, o + j * 3 + 1, none⟩ = some (.int .u64 y.len) := fun W hW => cell_below hW k1
  have n2 : ∀ W, Below w.heap.size w W → W.cell? ⟨b, o + j * 3 + 2, none⟩ = some (.int .i64 y.idx) := fun W hW => cell_below hW k2
  have Q := hid (And.intro q0 (And.intro q1 (And.intro m0 (And.intro m1 (And.intro m2 (And.intro n0 (And.intro n1 n2)))))))
  clear h h1 h2 hrow g0 g1 g2 k0 k1 k2 hx hy q0 q1 m0 m1 m2 n0 n1 n2
  rcases hf with ⟨rfl, rfl⟩ | ⟨rfl, rfl⟩
  · go_enter Try.func111, Try.ntmps111
    go_wp2_with fail
    obtain ⟨q0, q1, m0, m1, m2, n0, n1, n2⟩ := Q.out
    go_region_held3 (fun W => Below w.heap.size w W) (first | assumption | exact (Below.refl _ _).drew) (first
      | (go_at_call 62; refine (byLo_less _ x y okx.out oky.out).mono ?_; rintro e w6 ⟨rfl, hb6⟩; have hS := bthen (w := w) (by assumption) hb6))
    clear q0 q1 m0 m1 m2 n0 n1 n2 hb6
    go_wp2
    go_ret
    exact ⟨rfl, hS⟩
  · go_enter Try.func111, Try.ntmps111
    go_wp2_with fail
    obtain ⟨q0, q1, m0, m1, m2, n0, n1, n2⟩ := Q.out
    go_region_held3 (fun W => Below w.heap.size w W) (first | assumption | exact (Below.refl _ _).drew) (first
      | (go_at_call 63; refine (byLast_less _ x y okx.out oky.out).mono ?_; rintro e w6 ⟨rfl, hb6⟩; have hS := bthen (w := w) (by assumption) hb6))
    clear q0 q1 m0 m1 m2 n0 n1 n2 hb6
    go_wp2
    go_ret
    exact ⟨rfl, hS⟩
end Go.Proofs.Ytmoignbaphddeaa
namespace Go.Proofs.Ytmoignbaphddeaa
open Go.RowKit

theorem flat_setI : ∀ (l : List Itm) (i : Nat) (x : Itm), i < l.length → (l.set i x).flatMap encItm = (((l.flatMap encItm).set (i * 3) (.int .u64 x.lo)).set (i * 3 + 1) (.int .u64 x.len)).set (i * 3 + 2) (.int .i64 x.idx)
  | [], i, x, h => by simp at h
  | y :: l, 0, x, _ => by simp [encItm]
  | y :: l, i + 1, x, h => by
    have ih := flat_setI l i x (by simpa using h)
    have e : (i + 1) * 3 = i * 3 + 3 := by omega
    rw [List.set_cons_succ, List.flatMap_cons, List.flatMap_cons, ih, e]
    simp only [encItm, List.cons_append, List.nil_append]
    rfl

/-- a row of items, one item set -/
theorem own_setI {w : World} {base g cap n : Nat} {l : List Itm} (h : w.ownsRow base 110 3 (.slice (some ⟨g, 0, none⟩) n cap) n (l.flatMap encItm)) {i : Nat} (hi : i < l.length) (x : Itm) :
    (((w.setCell ⟨g, i * 3, none⟩ (.int .u64 x.lo)).setCell ⟨g, i * 3 + 1, none⟩ (.int .u64 x.len)).setCell ⟨g, i * 3 + 2, none⟩ (.int .i64 x.idx)).ownsRow base 110 3 (.slice (some ⟨g, 0, none⟩) n cap) n ((l.set i x).flatMap encItm) ∧
    w.grownBy (((w.setCell ⟨g, i * 3, none⟩ (.int .u64 x.lo)).setCell ⟨g, i * 3 + 1, none⟩ (.int .u64 x.len)).setCell ⟨g, i * 3 + 2, none⟩ (.int .i64 x.idx)) (some g) := by
  obtain ⟨o1, g1⟩ := h.stored (i * 3) (.int .u64 x.lo)
  obtain ⟨o2, g2⟩ := o1.stored (i * 3 + 1) (.int .u64 x.len)
  obtain ⟨o3, g3⟩ := o2.stored (i * 3 + 2) (.int .i64 x.idx)
  rw [← flat_setI l i x hi] at o3
  exact ⟨o3, gtrans (gtrans g1 g2) g3⟩
theorem swapA_list {a : Array Itm} {i j : Nat} (hi : i < a.size) (hj : j < a.size) : (swapA a i j).toList = (a.toList.set i a[j]).set j a[i] := by
  unfold swapA
  rw [dif_pos ⟨hi, hj⟩, Array.swap_def]
  simp

set_option maxHeartbeats 2000000 in
set_option maxRecDepth 100000 in
theorem qSwap_c (w : World) (qb g cap : Nat) (f : FuncId) (base : Nat) (a : Array Itm) (hbox : w.heap[qb]? = some (.cells #[.slice (some ⟨g, 0, none⟩) a.size cap, .func (.func f) #[] #[]] 129 (0, 0)))
    (hown : w.ownsRow base 110 3 (.slice (some ⟨g, 0, none⟩) a.size cap) a.size (a.toList.flatMap encItm)) (_hqg : qb ≠ g) (_hlen : a.size * 24 ≤ 140737488351232) (i j : Nat) (hi : i < a.size) (hj : j < a.size) :
    Calls Try.prog 113 #[.pointer (some ⟨qb, 0, none⟩), .int .i64 i, .int .i64 j] w fun e w' => (∃ v, e = .returned v) ∧
      w'.ownsRow base 110 3 (.slice (some ⟨g, 0, none⟩) a.size cap) a.size ((swapA a i j).toList.flatMap encItm) ∧ w.grownBy w' (some g) := by
  have hrow : RowAt 3 encItm w (some ⟨g, 0, none⟩) a.toList := own_row hown (fun _ _ => rfl) (by simp)
  obtain ⟨b, o, hb', hb0, g0, g1, g2⟩ := hrow.itm (k := i) (by simpa using hi)
  simp only [Option.some.injEq, Addr.mk.injEq, and_true] at hb'
  obtain ⟨rfl, rfl⟩ := hb'
  obtain ⟨b', o', hbo, hb0', k0, k1, k2⟩ := hrow.itm (k := j) (by simpa using hj)
  simp only [Option.some.injEq, Addr.mk.injEq, and_true] at hbo
  obtain ⟨rfl, rfl⟩ := hbo
  simp only [Array.getElem_toList, Nat.zero_add] at g0 g1 g2 k0 k1 k2
  have hfin : ∀ (W : World), W.ownsRow base 110 3 (.slice (some ⟨g, 0, none⟩) a.size cap) a.size (a.toList.flatMap encItm) → _ := fun W hW => own_setI hW (i := i) (by simpa using hi) a[j]
  have hsw := swapA_list hi hj
  obtain ⟨x, hx⟩ : ∃ x, a[i] = x := ⟨_, rfl⟩
  obtain ⟨y, hy⟩ : ∃ y, a[j] = y := ⟨_, rfl⟩
  have Hxy := hid (show i = j → y = x from by rintro rfl; rw [← hx, ← hy])
  rw [hx] at g0 g1 g2
  rw [hy] at k0 k1 k2
  rw [hx, hy] at hsw
  have Hsw := hid hsw
  have fz : ∀ t, w.frozen? ⟨g, t, none⟩ = false := fun t => hown.frozenAt t
  have q0 : w.cell? ⟨qb, 0, none⟩ = some (.slice (some ⟨g, 0, none⟩) a.size cap) := cell_of_heap hbox rfl
  have Hown := hid hown
  clear hbox hown hrow hx hy hsw hfin
  by_cases hij : i = j
  · subst hij
    obtain rfl := Hxy.out rfl
    clear k0 k1 k2
    go_enter Try.func113, Try.ntmps113
    go_wp2_with fail
    go_region
    have F1 := own_setI Hown.out (i := i) (by simpa using hi) y
    have F2 := own_setI F1.1 (i := i) (by simpa using hi) y
    go_end0
    refine ⟨⟨_, rfl⟩, ?_, ?_⟩
    · rw [Hsw.out]; exact F2.1.drew
    · exact gtrans (gtrans F1.2 F2.2) (gbelow (Below.refl _ _).drew _)
  · have d0 : ¬ i * 3 = j * 3 := by omega
    have d1 : ¬ j * 3 = i * 3 := by omega
    go_enter Try.func113, Try.ntmps113
    go_wp2_with fail
    go_region
    have F1 := own_setI Hown.out (i := i) (by simpa using hi) y
    have F2 := own_setI F1.1 (i := j) (by simpa using hj) x
    go_end0
    refine ⟨⟨_, rfl⟩, ?_, ?_⟩
    · rw [Hsw.out]; exact F2.1.drew
    · exact gtrans (gtrans F1.2 F2.2) (gbelow (Below.refl _ _).drew _)
end Go.Proofs.Ytmoignbaphddeaa
namespace Go.Proofs.Ytmoignbaphddeaa
open Go.RowKit

/-- a queue in memory: its row lies in block g -/
structure QG (W : World) (base qb g cap : Nat) (f : FuncId) (a : Array Itm) : Prop where
  box : W.heap[qb]? = some (.cells #[.slice (some ⟨g, 0, none⟩) a.size cap, .func (.func f) #[] #[]] 129 (0, 0))
  own : W.ownsRow base 110 3 (.slice (some ⟨g, 0, none⟩) a.size cap) a.size (a.toList.flatMap encItm)
  ne : qb ≠ g
  ok : ∀ x ∈ a.toList, x.ok
  len : a.size * 24 ≤ 140737488351232
theorem QG.at {W : World} {base qb g cap : Nat} {f : FuncId} {a : Array Itm} (h : QG W base qb g cap f a) : QAt W base qb f a := ⟨⟨_, h.box, h.own⟩, h.ok, h.len⟩
theorem QG.below {W W' : World} {base qb g cap : Nat} {f : FuncId} {a : Array Itm} (h : QG W base qb g cap f a) (hb : Below W.heap.size W W') : QG W' base qb g cap f a :=
  ⟨heap_keep h.box hb, h.own.kept (gbelow hb none) (.inr (by simp [Value.ownBlock])), h.ne, h.ok, h.len⟩
theorem qSwapG_c (w : World) (base qb g cap : Nat) (f : FuncId) (a : Array Itm) (h : QG w base qb g cap f a) (i j : Nat) (hi : i < a.size) (hj : j < a.size) :
    Calls Try.prog 113 #[.pointer (some ⟨qb, 0, none⟩), .int .i64 i, .int .i64 j] w fun e w' => (∃ v, e = .returned v) ∧ QG w' base qb g cap f (swapA a i j) ∧ w.grownBy w' (some g) := by
  refine (qSwap_c w qb g cap f base a h.box h.own h.ne h.len i j hi hj).mono ?_
  rintro e w' ⟨hv, ho, hg⟩
  have hs := swapA_size a i j
  refine ⟨hv, ⟨?_, by rw [hs]; exact ho, h.ne, ?_, by rw [hs]; exact h.len⟩, hg⟩
  · rw [hs]; exact heap_grown hg h.box h.ne
  · intro x hx
    exact h.ok x ((swapA_perm a i j).toList.mem_iff.1 hx)

theorem kAt_get {a : Array Itm} {key : Itm → Int} {i : Nat} (h : i < a.size) : kAt key a i = key a[i] := by simp [kAt, Array.getElem?_eq_getElem h]
theorem qLessG_c (w : World) (base qb g cap : Nat) (f : FuncId) (key : Itm → Int) (hf : Order2 f key) (a : Array Itm) (h : QG w base qb g cap f a) (i j : Nat) (hi : i < a.size) (hj : j < a.size) :
    Calls Try.prog 111 #[.pointer (some ⟨qb, 0, none⟩), .int .i64 i, .int .i64 j] w fun e w' => e = .returned (.bool (decide (kAt key a i < kAt key a j))) ∧ Below w.heap.size w w' := by
  rw [kAt_get hi, kAt_get hj]
  exact qLess_c w base qb f key hf a h.at i j hi hj

set_option maxHeartbeats 2000000 in
theorem hUp_c (w : World) (base qb g cap : Nat) (f : FuncId) (key : Itm → Int) (hf : Order2 f key) (a : Array Itm) (h : QG w base qb g cap f a) (j : Nat) (hj : j < a.size) :
    Calls Try.prog 74 #[.iface 125 (.pointer (some ⟨qb, 0, none⟩)), .int .i64 j] w fun e w' => (∃ v, e = .returned v) ∧ QG w' base qb g cap f (upA key a j) ∧ w.grownBy w' (some g) := by
  have hlen := h.len
  have hls := hid (fun W (b : Array Itm) (hb : QG W base qb g cap f b) i j hi hj => qLessG_c W base qb g cap f key hf b hb i j hi hj)
  have hsw := hid (fun W (b : Array Itm) (hb : QG W base qb g cap f b) i j hi hj => qSwapG_c W base qb g cap f b hb i j hi hj)
  obtain ⟨R, hR⟩ : ∃ R, upA key a j = R := ⟨_, rfl⟩
  rw [hR]
  have HR := hid hR
  have H := hid h
  clear h hR
  go_enter Try.func74, Try.ntmps74
  go_wp2_with fail
  go_loopw [1] (fun v wr => ∃ (j' : Nat) (b : Array Itm), v = .int .i64 j' ∧ j' < b.size ∧ b.size = a.size ∧ Hid (upA key b j' = R ∧ QG wr base qb g cap f b ∧ w.grownBy wr (some g))) (fun v _ => (intOf v).toNat)
  case atStart => exact ⟨j, a, rfl, hj, rfl, HR.out, H.out, grefl _ _⟩
  case round =>
    obtain ⟨j', b, rfl, hjb, hbs, hI⟩ := hrel
    by_cases h0 : j' = 0
    · subst h0
      have hfin : Hid (b = R) := by
        have := hI.out.1
        unfold upA at this
        rw [dif_neg (by omega)] at this
        exact this
      go_wp2_with fail
      go_end0
      exact ⟨⟨_, rfl⟩, by rw [← hfin.out]; exact hI.out.2.1, hI.out.2.2⟩
    · obtain ⟨p, hp⟩ : ∃ p, (j' - 1) / 2 = p := ⟨_, rfl⟩
      have hq : ((j' : Int) - 1) / 2 = (p : Int) := by omega
      have hpj : p < j' := by omega
      have hne : ((p : Int) == (j' : Int)) = false := by rw [beq_eq_false_iff_ne]; omega
      have HP := hid hp
      clear hp
      go_wp2_with fail
      refine (hls.out wr b hI.out.2.1 j' p hjb (by omega)).mono ?_
      rintro e w2 ⟨rfl, hb2⟩
      have hq2 := hid (hI.out.2.1.below hb2)
      have hg2 := hid (gtrans hI.out.2.2 (gbelow hb2 (some g)))
      have hup := hI.out.1
      unfold upA at hup
      rw [HP.out] at hup
      by_cases hlt : kAt key b j' < kAt key b p
      · rw [dif_pos ⟨by omega, hlt⟩] at hup
        have Hup := hid hup
        have hd : decide (kAt key b j' < kAt key b p) = true := by simpa using hlt
        rw [hd]
        clear hup hd hlt hb2
        go_wp2_with fail
        refine (hsw.out w2 b hq2.out p j' (by omega) hjb).mono ?_
        rintro e w3 ⟨⟨v, rfl⟩, hq3, hg3⟩
        have Hq3 := hid hq3
        have Hg3 := hid (gtrans hg2.out hg3)
        have hbs2 := swapA_size b p j'
        clear hq3 hg3
        go_wp2
        refine ⟨⟨p, swapA b p j', rfl, by omega, by omega, Hup.out, Hq3.out, Hg3.out⟩, by simp [intOf]; omega⟩
      · rw [dif_neg (fun h => hlt h.2)] at hup
        have Hup := hid hup
        have hd : decide (kAt key b j' < kAt key b p) = false := by simpa using hlt
        rw [hd]
        clear hup hd hlt hb2
        go_wp2_with fail
        go_end0
        exact ⟨⟨_, rfl⟩, by rw [← Hup.out]; exact hq2.out, hg2.out⟩

set_option maxHeartbeats 4000000 in
theorem hDown_c (w : World) (base qb g cap : Nat) (f : FuncId) (key : Itm → Int) (hf : Order2 f key) (a : Array Itm) (h : QG w base qb g cap f a) (i n : Nat) (hn : n ≤ a.size) (hi : i ≤ a.size) :
    Calls Try.prog 73 #[.iface 125 (.pointer (some ⟨qb, 0, none⟩)), .int .i64 i, .int .i64 n] w fun e w' => (∃ r : Bool, e = .returned (.bool r) ∧ (n ≤ 2 * i + 1 → r = false)) ∧ QG w' base qb g cap f (downA key a i n) ∧ w.grownBy w' (some g) := by
  have hlen := h.len
  have hls := hid (fun W (b : Array Itm) (hb : QG W base qb g cap f b) i j hi hj => qLessG_c W base qb g cap f key hf b hb i j hi hj)
  have hsw := hid (fun W (b : Array Itm) (hb : QG W base qb g cap f b) i j hi hj => qSwapG_c W base qb g cap f b hb i j hi hj)
  obtain ⟨R, hR⟩ : ∃ R, downA key a i n = R := ⟨_, rfl⟩
  rw [hR]
  have HR := hid hR
  have H := hid h
  clear h hR
  go_enter Try.func73, Try.ntmps73
  go_wp2_with fail
  go_loopw [7] (fun v wr => ∃ (j : Nat) (b : Array Itm), v = .int .i64 j ∧ i ≤ j ∧ j ≤ a.size ∧ b.size = a.size ∧ Hid ((n ≤ 2 * i + 1 → j = i) ∧ downA key b j n = R ∧ QG wr base qb g cap f b ∧ w.grownBy wr (some g))) (fun v _ => a.size - (intOf v).toNat)
  case atStart => exact ⟨i, a, rfl, Nat.le_refl _, hi, rfl, fun _ => rfl, HR.out, H.out, grefl _ _⟩
  case round =>
    obtain ⟨j, b, rfl, hij, hja, hbs, hI⟩ := hrel
    obtain ⟨hz, hdn, hqg, hgr⟩ := hI.out
    have Hz := hid hz
    have Hqg := hid hqg
    have Hgr := hid hgr
    have Hdn := hid hdn
    clear hz hdn hqg hgr hI
    by_cases hc : 2 * j + 1 < n
    · obtain ⟨p1, hp1⟩ : ∃ p1, 2 * j + 1 = p1 := ⟨_, rfl⟩
      obtain ⟨p2, hp2⟩ : ∃ p2, 2 * j + 2 = p2 := ⟨_, rfl⟩
      have hq1 : 2 * (j : Int) + 1 = (p1 : Int) := by omega
      have hq2 : (p1 : Int) + 1 = (p2 : Int) := by omega
      have hpn : (p1 : Int) < (n : Int) := by omega
      have hle1 : p1 ≤ p2 := by omega
      have hle2 : p2 ≤ p1 + 1 := by omega
      have hle3 : j < p1 := by omega
      have hle4 : p1 < b.size := by omega
      have hch0 := childA_cases key b j n
      rw [hp1, hp2] at hch0
      have Hch0 := hid hch0
      have hcx := hid (show 2 * i + 1 < n ∨ j = i ∨ True from .inr (.inr trivial))
      clear hp1 hp2 hch0
      by_cases h2 : p2 < n
      · go_wp2_with fail
        refine (hls.out wr b Hqg.out p2 p1 (by omega) hle4).mono ?_
        rintro e w2 ⟨rfl, hb2⟩
        have hqq := hid (Hqg.out.below hb2)
        have hgg := hid (gtrans Hgr.out (gbelow hb2 (some g)))
        by_cases hlt1 : kAt key b p2 < kAt key b p1
        · have hd1 : decide (kAt key b p2 < kAt key b p1) = true := by simpa using hlt1
          have hcc : childA key b j n = p2 := by
            rcases Hch0.out with ⟨e, he⟩ | ⟨e, _⟩
            · have := he h2; omega
            · exact e
          rw [hd1]
          clear hd1 hb2 Hch0 hcx hlt1
          have hch : Hid (childA key b j n = p2) := hcc
          have hcj : p2 < b.size := by omega
          go_wp2_with fail
          refine (hls.out w2 b hqq.out p2 j hcj (by omega)).mono ?_
          rintro e w5 ⟨rfl, hb5⟩
          have hq5 := hid (hqq.out.below hb5)
          have hg5 := hid (gtrans hgg.out (gbelow hb5 (some g)))
          have hdn := Hdn.out
          unfold downA at hdn
          rw [hch.out] at hdn
          by_cases hlt : kAt key b p2 < kAt key b j
          · rw [dif_pos ⟨hc, hlt⟩] at hdn
            have Hdn2 := hid hdn
            have hd : decide (kAt key b p2 < kAt key b j) = true := by simpa using hlt
            rw [hd]
            clear hdn hd hlt hb5
            go_wp2_with fail
            refine (hsw.out w5 b hq5.out j p2 (by omega) hcj).mono ?_
            rintro e w6 ⟨⟨v, rfl⟩, hq6, hg6⟩
            have Hq6 := hid hq6
            have Hg6 := hid (gtrans hg5.out hg6)
            have hbs2 := swapA_size b j p2
            have HzN : Hid (n ≤ 2 * i + 1 → p2 = i) := fun h => by have := Hz.out h; omega
            clear hq6 hg6
            go_wp2
            refine ⟨⟨p2, swapA b j p2, rfl, by omega, by omega, by omega, HzN.out, Hdn2.out, Hq6.out, Hg6.out⟩, by simp [intOf]; omega⟩
          · rw [dif_neg (fun h => hlt h.2)] at hdn
            have Hdn2 := hid hdn
            have hd : decide (kAt key b p2 < kAt key b j) = false := by simpa using hlt
            rw [hd]
            clear hdn hd hlt hb5
            go_wp2_with fail
            go_ret
            refine ⟨⟨_, rfl, fun h => ?_⟩, by rw [← Hdn2.out]; exact hq5.out, hg5.out⟩
            have := Hz.out h
            simp; omega
        · have hd1 : decide (kAt key b p2 < kAt key b p1) = false := by simpa using hlt1
          have hcc : childA key b j n = p1 := by
            rcases Hch0.out with ⟨e, _⟩ | ⟨e, _, h⟩
            · exact e
            · exact absurd h hlt1
          rw [hd1]
          clear hd1 hb2 Hch0 hcx hlt1
          have hch : Hid (childA key b j n = p1) := hcc
          have hcj : p1 < b.size := by omega
          go_wp2_with fail
          refine (hls.out w2 b hqq.out p1 j hcj (by omega)).mono ?_
          rintro e w5 ⟨rfl, hb5⟩
          have hq5 := hid (hqq.out.below hb5)
          have hg5 := hid (gtrans hgg.out (gbelow hb5 (some g)))
          have hdn := Hdn.out
          unfold downA at hdn
          rw [hch.out] at hdn
          by_cases hlt : kAt key b p1 < kAt key b j
          · rw [dif_pos ⟨hc, hlt⟩] at hdn
            have Hdn2 := hid hdn
            have hd : decide (kAt key b p1 < kAt key b j) = true := by simpa using hlt
            rw [hd]
            clear hdn hd hlt hb5
            go_wp2_with fail
            refine (hsw.out w5 b hq5.out j p1 (by omega) hcj).mono ?_
            rintro e w6 ⟨⟨v, rfl⟩, hq6, hg6⟩
            have Hq6 := hid hq6
            have Hg6 := hid (gtrans hg5.out hg6)
            have hbs2 := swapA_size b j p1
            have HzN : Hid (n ≤ 2 * i + 1 → p1 = i) := fun h => by have := Hz.out h; omega
            clear hq6 hg6
            go_wp2
            refine ⟨⟨p1, swapA b j p1, rfl, by omega, by omega, by omega, HzN.out, Hdn2.out, Hq6.out, Hg6.out⟩, by simp [intOf]; omega⟩
          · rw [dif_neg (fun h => hlt h.2)] at hdn
            have Hdn2 := hid hdn
            have hd : decide (kAt key b p1 < kAt key b j) = false := by simpa using hlt
            rw [hd]
            clear hdn hd hlt hb5
            go_wp2_with fail
            go_ret
            refine ⟨⟨_, rfl, fun h => ?_⟩, by rw [← Hdn2.out]; exact hq5.out, hg5.out⟩
            have := Hz.out h
            simp; omega
      · have hcc : childA key b j n = p1 := by
          rcases Hch0.out with ⟨e, _⟩ | ⟨e, h, _⟩
          · exact e
          · exact absurd h h2
        clear Hch0 hcx
        have hch : Hid (childA key b j n = p1) := hcc
        have hcj : p1 < b.size := by omega
        go_wp2_with fail
        refine (hls.out wr b Hqg.out p1 j hcj (by omega)).mono ?_
        rintro e w5 ⟨rfl, hb5⟩
        have hq5 := hid (Hqg.out.below hb5)
        have hg5 := hid (gtrans Hgr.out (gbelow hb5 (some g)))
        have hdn := Hdn.out
        unfold downA at hdn
        rw [hch.out] at hdn
        by_cases hlt : kAt key b p1 < kAt key b j
        · rw [dif_pos ⟨hc, hlt⟩] at hdn
          have Hdn2 := hid hdn
          have hd : decide (kAt key b p1 < kAt key b j) = true := by simpa using hlt
          rw [hd]
          clear hdn hd hlt hb5
          go_wp2_with fail
          refine (hsw.out w5 b hq5.out j p1 (by omega) hcj).mono ?_
          rintro e w6 ⟨⟨v, rfl⟩, hq6, hg6⟩
          have Hq6 := hid hq6
          have Hg6 := hid (gtrans hg5.out hg6)
          have hbs2 := swapA_size b j p1
          have HzN : Hid (n ≤ 2 * i + 1 → p1 = i) := fun h => by have := Hz.out h; omega
          clear hq6 hg6
          go_wp2
          refine ⟨⟨p1, swapA b j p1, rfl, by omega, by omega, by omega, HzN.out, Hdn2.out, Hq6.out, Hg6.out⟩, by simp [intOf]; omega⟩
        · rw [dif_neg (fun h => hlt h.2)] at hdn
          have Hdn2 := hid hdn
          have hd : decide (kAt key b p1 < kAt key b j) = false := by simpa using hlt
          rw [hd]
          clear hdn hd hlt hb5
          go_wp2_with fail
          go_ret
          refine ⟨⟨_, rfl, fun h => ?_⟩, by rw [← Hdn2.out]; exact hq5.out, hg5.out⟩
          have := Hz.out h
          simp; omega
    · have hfin : Hid (b = R) := by
        have := Hdn.out
        unfold downA at this
        rw [dif_neg (fun h => hc h.1)] at this
        exact this
      have hcb : (n : Int) ≤ 2 * (j : Int) + 1 := by omega
      go_wp2_with fail
      go_ret
      refine ⟨⟨_, rfl, fun h => ?_⟩, by rw [← hfin.out]; exact Hqg.out, Hgr.out⟩
      have := Hz.out h
      simp; omega
end Go.Proofs.Ytmoignbaphddeaa
namespace Go.Proofs.Ytmoignbaphddeaa
open Go.RowKit

theorem downA_ok {key : Itm → Int} {a : Array Itm} {i n : Nat} : (downA key a i n).size = a.size := downA_size a i n

set_option maxHeartbeats 2000000 in
theorem hInit_c (w : World) (base qb g cap : Nat) (f : FuncId) (key : Itm → Int) (hf : Order2 f key) (a : Array Itm) (h : QG w base qb g cap f a) :
    Calls Try.prog 64 #[.iface 125 (.pointer (some ⟨qb, 0, none⟩))] w fun e w' => (∃ v, e = .returned v) ∧ QG w' base qb g cap f (initA key a (a.size / 2)) ∧ w.grownBy w' (some g) := by
  have hlen := h.len
  have hdn := hid (fun W (b : Array Itm) (hb : QG W base qb g cap f b) i n hn hi => hDown_c W base qb g cap f key hf b hb i n hn hi)
  have hln := hid (qLen_c w base qb f a h.at)
  obtain ⟨R, hR⟩ : ∃ R, initA key a (a.size / 2) = R := ⟨_, rfl⟩
  rw [hR]
  have HR := hid hR
  have H := hid h
  obtain ⟨k0, hk0⟩ : ∃ k0, a.size / 2 = k0 := ⟨_, rfl⟩
  rw [hk0] at HR
  have hq : (a.size : Int) / 2 = (k0 : Int) := by omega
  have hka : k0 ≤ a.size := by omega
  clear h hR hk0
  go_enter Try.func64, Try.ntmps64
  go_wp2_with fail
  refine hln.out.mono ?_
  rintro e w' ⟨rfl, rfl⟩
  go_wp2_with fail
  go_loopw [3] (fun v wr => ∃ (k : Nat) (b : Array Itm), v = .int .i64 ((k : Int) - 1) ∧ k ≤ a.size ∧ b.size = a.size ∧ Hid (initA key b k = R ∧ QG wr base qb g cap f b ∧ w'.grownBy wr (some g))) (fun v _ => (intOf v + 1).toNat)
  case atStart => exact ⟨k0, a, rfl, hka, rfl, HR.out, H.out, grefl _ _⟩
  case round =>
    obtain ⟨k, b, rfl, hk, hbs, hI⟩ := hrel
    cases k with
    | zero =>
      have hfin : Hid (b = R) := hI.out.1
      go_wp2_with fail
      go_end0
      exact ⟨⟨_, rfl⟩, by rw [← hfin.out]; exact hI.out.2.1, hI.out.2.2⟩
    | succ k =>
      have hkk : ((k + 1 : Nat) : Int) - 1 = (k : Int) := by omega
      rw [hkk]
      have hI2 : Hid (initA key (downA key b k b.size) k = R) := hI.out.1
      rw [hbs] at hI2
      clear hkk
      go_wp2_with fail
      refine (hdn.out wr b hI.out.2.1 k a.size (by omega) (by omega)).mono ?_
      rintro e w2 ⟨⟨r, rfl, -⟩, hq2, hg2⟩
      have Hq2 := hid hq2
      have Hg2 := hid (gtrans hI.out.2.2 hg2)
      have hbs2 := downA_size (key := key) b k a.size
      clear hq2 hg2
      go_wp2
      refine ⟨⟨k, downA key b k a.size, rfl, by omega, by omega, hI2.out, Hq2.out, Hg2.out⟩, by simp [intOf]⟩

set_option maxHeartbeats 2000000 in
theorem hFix_c (w : World) (base qb g cap : Nat) (f : FuncId) (key : Itm → Int) (hf : Order2 f key) (a : Array Itm) (h : QG w base qb g cap f a) (i : Nat) (hi : i + 1 = a.size) :
    Calls Try.prog 68 #[.iface 125 (.pointer (some ⟨qb, 0, none⟩)), .int .i64 i] w fun e w' => (∃ v, e = .returned v) ∧ QG w' base qb g cap f (upA key a i) ∧ w.grownBy w' (some g) := by
  have hdn := hid (hDown_c w base qb g cap f key hf a h i a.size (Nat.le_refl _) (by omega))
  have hln := hid (qLen_c w base qb f a h.at)
  have hsame : downA key a i a.size = a := by unfold downA; rw [dif_neg (fun h => by omega)]
  rw [hsame] at hdn
  have hup := hid (fun W (hb : QG W base qb g cap f a) => hUp_c W base qb g cap f key hf a hb i (by omega))
  clear h hsame
  go_enter Try.func68, Try.ntmps68
  go_wp2_with fail
  refine hln.out.mono ?_
  rintro e w' ⟨rfl, rfl⟩
  go_wp2_with fail
  refine hdn.out.mono ?_
  rintro e w2 ⟨⟨r, rfl, hr⟩, hq2, hg2⟩
  have hrf := hr (by omega)
  subst hrf
  have Hq2 := hid hq2
  have Hg2 := hid hg2
  clear hq2 hg2 hr
  go_wp2_with fail
  refine (hup.out w2 Hq2.out).mono ?_
  rintro e w3 ⟨⟨v, rfl⟩, hq3, hg3⟩
  have Hq3 := hid hq3
  have Hg3 := hid (gtrans Hg2.out hg3)
  clear hq3 hg3
  go_wp2_with fail
  go_end0
  exact ⟨⟨_, rfl⟩, Hq3.out, Hg3.out⟩
end Go.Proofs.Ytmoignbaphddeaa
namespace Go.Proofs.Ytmoignbaphddeaa
open Go.RowKit

/-- all but some blocks are kept -/
structure GrS (S : Nat → Prop) (w w' : World) : Prop where
  os : w'.os = w.os
  tape : w'.tape = w.tape
  output : w'.output = w.output
  size : w.heap.size ≤ w'.heap.size
  block : ∀ k, k < w.heap.size → ¬ S k → w'.heap[k]? = w.heap[k]?
theorem GrS.refl (S : Nat → Prop) (w : World) : GrS S w w := ⟨rfl, rfl, rfl, Nat.le_refl _, fun _ _ _ => rfl⟩
theorem GrS.trans {S : Nat → Prop} {w w1 w2 : World} (h : GrS S w w1) (k : GrS S w1 w2) : GrS S w w2 :=
  ⟨k.os.trans h.os, k.tape.trans h.tape, k.output.trans h.output, Nat.le_trans h.size k.size, fun i hi hn => (k.block i (Nat.lt_of_lt_of_le hi h.size) hn).trans (h.block i hi hn)⟩
theorem GrS.mono {S T : Nat → Prop} {w w' : World} (h : GrS S w w') (hs : ∀ k, S k → T k) : GrS T w w' :=
  ⟨h.os, h.tape, h.output, h.size, fun k hk hn => h.block k hk fun hk => hn (hs k hk)⟩
theorem GrS.grown {S : Nat → Prop} {w w' : World} {r : Option Nat} (h : w.grownBy w' r) (hr : ∀ k, r = some k → S k) : GrS S w w' :=
  ⟨h.os, h.tape, h.output, h.size, fun k hk hn => h.block k hk fun e => hn (hr k e.symm)⟩
theorem GrS.below {w w' : World} (h : Below w.heap.size w w') (S : Nat → Prop) : GrS S w w' :=
  ⟨h.os, h.tape, h.output, h.size, fun k hk _ => h.block k hk⟩
theorem GrS.set {S : Nat → Prop} (w : World) (b i : Nat) (v : Value) (h : S b) : GrS S w (w.setCell ⟨b, i, none⟩ v) :=
  ⟨rfl, rfl, rfl, by simp, fun k _ hn => heap_setCell_other w ⟨b, i, none⟩ k v (fun e => hn (by rw [e]; exact h))⟩
theorem GrS.row {S : Nat → Prop} {w w' : World} {base : Nat} {e : TypeId} {size n : Nat} {v : Value} {xs : List Value} (hg : GrS S w w') (h : w.ownsRow base e size v n xs) (hn : ∀ k, v.ownBlock = some k → ¬ S k) : w'.ownsRow base e size v n xs := by
  refine ⟨h.1, ?_⟩
  rcases h.2 with hv | ⟨g, cap, cur, rfl, hb, hgg, rest⟩
  · exact .inl hv
  · exact .inr ⟨g, cap, cur, rfl, hb, (hg.block g (lt_of_block hgg) (hn g rfl)).trans hgg, rest⟩
theorem GrS.heap {S : Nat → Prop} {w w' : World} {b : Nat} {o : Obj} (hg : GrS S w w') (h : w.heap[b]? = some o) (hn : ¬ S b) : w'.heap[b]? = some o := (hg.block b (lt_of_block h) hn).trans h
theorem GrS.toBelow {S : Nat → Prop} {w w' : World} {B : Nat} (hg : GrS S w w') (hS : ∀ k, S k → B ≤ k) (hB : B ≤ w.heap.size) : Below B w w' :=
  ⟨hg.os, hg.tape, hg.output, hg.size, fun k hk => hg.block k (by omega) (fun hs => by have := hS k hs; omega)⟩

def itV (x : Itm) : Value := .agg #[.int .u64 x.lo, .int .u64 x.len, .int .i64 x.idx]

theorem flat_pop {a : Array Itm} {n : Nat} (hn : a.size = n + 1) : (a.toList.flatMap encItm).take (n * 3) = a.pop.toList.flatMap encItm := by
  have h1 : a.toList = a.pop.toList ++ [a[n]] := by
    apply List.ext_getElem?
    intro k
    rw [List.getElem?_append]
    simp only [Array.getElem?_toList, Array.length_toList, Array.size_pop, hn]
    by_cases hk : k < n
    · rw [if_pos (by omega), Array.getElem?_pop, hn, if_pos (by omega)]
    · rw [if_neg (by omega)]
      by_cases e : k = n
      · subst e; simp [Array.getElem?_eq_getElem (show k < a.size by omega)]
      · rw [Array.getElem?_eq_none (by omega), List.getElem?_eq_none (by simp; omega)]
  rw [h1, List.flatMap_append]
  have h2 : (a.pop.toList.flatMap encItm).length = n * 3 := by
    have : ∀ l : List Itm, (l.flatMap encItm).length = l.length * 3 := by
      intro l
      induction l with
      | nil => rfl
      | cons x l ih => rw [List.flatMap_cons, List.length_append, ih]; simp [encItm]; omega
    rw [this]; simp [hn]
  rw [← h2]
  exact List.take_left
theorem own_prefix {w : World} {base : Nat} {e : TypeId} {size n cap g : Nat} {xs : List Value} (h : w.ownsRow base e size (.slice (some ⟨g, 0, none⟩) n cap) n xs) {i : Nat} (hi : i ≤ n) : w.ownsRow base e size (.slice (some ⟨g, 0, none⟩) i cap) i (xs.take (i * size)) := by
  have hle : i * size ≤ n * size := Nat.mul_le_mul_right size hi
  rcases h.2 with ⟨h', _⟩ | ⟨g', cap', cur, h', hb, hg, hc, hcm, hsz, htake⟩
  · cases h'
  · simp only [Value.slice.injEq, Option.some.injEq, Addr.mk.injEq, and_true, true_and] at h'
    obtain ⟨rfl, rfl⟩ := h'
    refine ⟨by rw [List.length_take, h.1]; omega, .inr ⟨g, cap, cur, rfl, hb, hg, by omega, hcm, hsz, ?_⟩⟩
    rw [← htake, List.take_take, Nat.min_eq_left hle]
theorem own_cap {w : World} {base : Nat} {e : TypeId} {size n cap : Nat} {a : Addr} {xs : List Value} (h : w.ownsRow base e size (.slice (some a) n cap) n xs) : n ≤ cap ∧ cap ≤ maxLen := by
  rcases h.2 with ⟨h', _⟩ | ⟨g', cap', cur, h', hb, hg, hc, hcm, hsz, htake⟩
  · cases h'
  · simp only [Value.slice.injEq, Option.some.injEq, true_and] at h'
    obtain ⟨rfl, rfl⟩ := h'
    exact ⟨hc, hcm⟩

set_option maxHeartbeats 2000000 in
theorem qPop_c (w : World) (base qb g cap : Nat) (f : FuncId) (a : Array Itm) (h : QG w base qb g cap f a) (n : Nat) (hn : a.size = n + 1) :
    Calls Try.prog 112 #[.pointer (some ⟨qb, 0, none⟩)] w fun e w' => e = .returned (.iface 110 (itV (a[n]'(by omega)))) ∧ QG w' base qb g cap f a.pop ∧ GrS (fun k => k = g ∨ k = qb) w w' := by
  have hrow : RowAt 3 encItm w (some ⟨g, 0, none⟩) a.toList := own_row h.own (fun _ _ => rfl) (by simp)
  obtain ⟨b, o, hb', hb0, g0, g1, g2⟩ := hrow.itm (k := n) (by simp; omega)
  simp only [Option.some.injEq, Addr.mk.injEq, and_true] at hb'
  obtain ⟨rfl, rfl⟩ := hb'
  simp only [Array.getElem_toList, Nat.zero_add] at g0 g1 g2
  have hq0 : w.cell? ⟨qb, 0, none⟩ = some (.slice (some ⟨g, 0, none⟩) a.size cap) := cell_of_heap h.box rfl
  have hq1 : ∀ i, w.frozen? ⟨qb, i, none⟩ = false := fun i => free_of_heap h.box
  have hqs : qb < w.heap.size := lt_of_block h.box
  have hcap := own_cap h.own
  have hmx : maxLen = 9223372036854775807 := rfl
  have hfin : Hid (∀ W, Below w.heap.size w W → QG (W.setCell ⟨qb, 0, none⟩ (.slice (some ⟨g, 0, none⟩) n cap)) base qb g cap f a.pop ∧ GrS (fun k => k = g ∨ k = qb) w (W.setCell ⟨qb, 0, none⟩ (.slice (some ⟨g, 0, none⟩) n cap))) := by
    intro W hW
    have hw := h
    have h := h.below hW
    refine (fun (hx : _ ∧ GrS _ W _) => ⟨hx.1, (GrS.below hW _).trans hx.2⟩) ?_
    clear hW hw hrow g0 g1 g2 hq0 hq1 hqs hcap hb0
    revert h; revert W; intro w h
    have hg := GrS.set (S := fun k => k = g ∨ k = qb) w qb 0 (.slice (some ⟨g, 0, none⟩) n cap) (.inr rfl)
    refine ⟨⟨?_, ?_, h.ne, ?_, ?_⟩, hg⟩
    · have := heap_setCell_same w qb 0 _ 129 (.slice (some ⟨g, 0, none⟩) n cap) h.box
      simpa [hn] using this
    · have h1 := own_prefix h.own (i := n) (by omega)
      rw [flat_pop hn] at h1
      have h2 := (GrS.set (S := fun k => k = qb) w qb 0 (.slice (some ⟨g, 0, none⟩) n cap) rfl).row h1 (fun k hk => by simp [Value.ownBlock] at hk; subst hk; exact fun e => h.ne e.symm)
      simpa [hn] using h2
    · intro x hx
      exact h.ok x (List.dropLast_subset _ (show x ∈ a.toList.dropLast by simpa using hx))
    · have := h.len; simp; omega
  have hlen := h.len
  obtain ⟨x, hx⟩ : ∃ x, a[n]'(by omega) = x := ⟨_, rfl⟩
  rw [hx] at g0 g1 g2
  rw [hx]
  have hn2 : (a.size : Int) - 1 = (n : Int) := by omega
  have hna : n < a.size := by omega
  unfold itV
  clear h hrow hx hn
  go_enter Try.func112, Try.ntmps112
  go_wp2_with fail
  go_ret
  have hF := hfin.out w (Below.refl _ _)
  exact ⟨rfl, hF.1.below (below_new _ _), hF.2.trans (GrS.below (below_new _ _) _)⟩

/-- heap.Pop: the first of what was swapped and sifted -/
theorem popA_last {key : Itm → Int} {a : Array Itm} {n : Nat} (hn : a.size = n + 1) : ((downA key (swapA a 0 n) 0 n)[n]'(by rw [downA_size, swapA_size]; omega)) = a[0]'(by omega) := by
  have h : (downA key (swapA a 0 n) 0 n)[n]? = some (a[0]'(by omega)) := by
    rw [downA_ge _ _ _ (by rw [swapA_size]; omega) _ (Nat.le_refl _), swapA_get (by omega) (by omega)]
    by_cases e : n = 0
    · rw [if_pos e]; subst e; exact Array.getElem?_eq_getElem (by omega)
    · rw [if_neg e, if_pos rfl]; exact Array.getElem?_eq_getElem (by omega)
  rw [Array.getElem?_eq_getElem (by rw [downA_size, swapA_size]; omega)] at h
  exact Option.some.inj h

set_option maxHeartbeats 2000000 in
theorem hPop_c (w : World) (base qb g cap : Nat) (f : FuncId) (key : Itm → Int) (hf : Order2 f key) (a : Array Itm) (h : QG w base qb g cap f a) (h0 : 0 < a.size) :
    Calls Try.prog 67 #[.iface 125 (.pointer (some ⟨qb, 0, none⟩))] w fun e w' => e = .returned (.iface 110 (itV a[0])) ∧ QG w' base qb g cap f (popA key a) ∧ GrS (fun k => k = g ∨ k = qb) w w' := by
  obtain ⟨n, hn⟩ : ∃ n, a.size = n + 1 := ⟨a.size - 1, by omega⟩
  have hlen := h.len
  have hln := hid (qLen_c w base qb f a h.at)
  have hsw := hid (qSwapG_c w base qb g cap f a h 0 n h0 (by omega))
  have hdn := hid (fun W hb => hDown_c W base qb g cap f key hf (swapA a 0 n) hb 0 n (by rw [swapA_size]; omega) (by omega))
  have hpp : Hid (∀ W, QG W base qb g cap f (downA key (swapA a 0 n) 0 n) → Calls Try.prog 112 #[.pointer (some ⟨qb, 0, none⟩)] W fun e w' => e = .returned (.iface 110 (itV a[0])) ∧ QG w' base qb g cap f (downA key (swapA a 0 n) 0 n).pop ∧ GrS (fun k => k = g ∨ k = qb) W w') := by
    intro W hb
    have := qPop_c W base qb g cap f (downA key (swapA a 0 n) 0 n) hb n (by rw [downA_size, swapA_size]; exact hn)
    rw [popA_last hn] at this
    exact this
  have hpa : Hid (popA key a = (downA key (swapA a 0 n) 0 n).pop) := by
    show popA key a = _
    unfold popA; rw [hn]; rfl
  obtain ⟨x, hx⟩ : ∃ x, a[0] = x := ⟨_, rfl⟩
  rw [hx] at hpp ⊢
  have hn2 : (a.size : Int) - 1 = (n : Int) := by omega
  clear h hx hn
  go_enter Try.func67, Try.ntmps67
  go_wp2_with fail
  refine hln.out.mono ?_
  rintro e w' ⟨rfl, rfl⟩
  go_wp2_with fail
  refine hsw.out.mono ?_
  rintro e w2 ⟨⟨v, rfl⟩, hq2, hg2⟩
  have Hq2 := hid hq2
  have Hg2 := hid hg2
  clear hq2 hg2
  go_wp2_with fail
  refine (hdn.out w2 Hq2.out).mono ?_
  rintro e w3 ⟨⟨r, rfl, -⟩, hq3, hg3⟩
  have Hq3 := hid hq3
  have Hg3 := hid (gtrans Hg2.out hg3)
  clear hq3 hg3
  go_wp2_with fail
  refine (hpp.out w3 Hq3.out).mono ?_
  rintro e w4 ⟨rfl, hq4, hg4⟩
  have Hf : Hid (QG w4 base qb g cap f (popA key a) ∧ GrS (fun k => k = g ∨ k = qb) w' w4) := by
    refine ⟨by rw [hpa.out]; exact hq4, (GrS.grown Hg3.out (fun k hk => ?_)).trans hg4⟩
    simp only [Option.some.injEq] at hk
    exact .inl hk.symm
  clear hq4 hg4
  go_wp2_with fail
  go_ret
  exact ⟨rfl, Hf.out⟩
end Go.Proofs.Ytmoignbaphddeaa
