/- the example of chapter 16; the guards of its laws -/
import Derived.Test.YtlccbejhamkdoaaRef16D
namespace Go.Proofs.Ytlccbejhamkdoaa
open Go.RowKit

def aByte : ByteArray := { data := #[97] }
def part16 : Part := { id := 1, name := aByte, period := 50, dur := 8 }
def cfg16 : Cfg := { frame := 100, parts := [part16], wins := [{ start := 50, len := 5, part := 1 }, { start := 0, len := 10, part := 1 }], regs := [], ports := [], chans := [] }
def adr16 (b1 b2 : Nat) : Adr := ⟨some ⟨b1, 0, none⟩, 1, some ⟨b2, 0, none⟩, 2, none, 0, none, 0, none, 0⟩

theorem cfg16_ok : cfg16.ok where
  frame := by simp [cfg16, U64]
  parts := by
    intro p hp
    simp only [cfg16, List.mem_singleton] at hp
    subst hp
    refine ⟨by simp [part16, U16], ?_, by simp [part16, U64], by simp [part16, U64]⟩
    show 1 ≤ _
    omega
  wins := by
    intro p hp
    simp only [cfg16, List.mem_cons, List.not_mem_nil, or_false] at hp
    rcases hp with rfl | rfl <;> exact ⟨by simp [U64], by simp [U64], by simp [U16]⟩
  regs := by simp [cfg16]
  ports := by simp [cfg16]
  chans := by simp [cfg16]
  nparts := by simp [cfg16]
  nwins := by simp [cfg16]
  nregs := by simp [cfg16]
  nports := by simp [cfg16]
  nchans := by simp [cfg16]
theorem cfg16_at {w : World} {b1 b2 : Nat} {t1 t2 : TypeId} (h1 : w.heap[b1]? = some (.cells #[.int .u16 1, .string aByte, .int .u64 50, .int .u64 8] t1 (0, 0)))
    (h2 : w.heap[b2]? = some (.cells #[.int .u64 50, .int .u64 5, .int .u16 1, .int .u64 0, .int .u64 10, .int .u16 1] t2 (0, 0))) : CfgAt w cfg16 (adr16 b1 b2) where
  ok := cfg16_ok
  parts := by
    intro k x hx
    match k, hx with
    | 0, hx =>
      simp only [cfg16, List.getElem?_cons_zero, Option.some.injEq] at hx
      subst hx
      exact ⟨b1, 0, rfl, fun j u hj => cell_of_heap h1 (by simpa [encPart, part16] using hj)⟩
    | k + 1, hx => simp [cfg16] at hx
  wins := by
    intro k x hx
    match k, hx with
    | 0, hx =>
      simp only [cfg16, List.getElem?_cons_zero, Option.some.injEq] at hx
      subst hx
      refine ⟨b2, 0, rfl, fun j u hj => cell_of_heap h2 ?_⟩
      match j, hj with
      | 0, hj => simpa [encWin] using hj
      | 1, hj => simpa [encWin] using hj
      | 2, hj => simpa [encWin] using hj
      | j + 3, hj => simp [encWin] at hj
    | 1, hx =>
      simp only [cfg16, List.getElem?_cons_succ, List.getElem?_cons_zero, Option.some.injEq] at hx
      subst hx
      refine ⟨b2, 0, rfl, fun j u hj => cell_of_heap h2 ?_⟩
      match j, hj with
      | 0, hj => simpa [encWin] using hj
      | 1, hj => simpa [encWin] using hj
      | 2, hj => simpa [encWin] using hj
      | j + 3, hj => simp [encWin] at hj
    | k + 2, hx => simp [cfg16] at hx
  regs := RowAt.nil _ _ _ _
  ports := RowAt.nil _ _ _ _
  chans := by
    intro k x hx
    simp [cfg16] at hx
  k1 := by simp [cfg16, adr16]
  k2 := by simp [cfg16, adr16]
  k3 := by simp [cfg16, adr16]
  k4 := by simp [cfg16, adr16]
  k5 := by simp [cfg16, adr16]
theorem cfg16_right : RightW cfg16 where
  pos := by simp [cfg16]
  apart := by
    refine ⟨?_, ?_⟩
    · intro p hp
      simp only [cfg16, List.mem_cons, List.not_mem_nil, or_false] at hp
      rcases hp with rfl | rfl <;> simp [cfg16]
    · simp [cfg16, Free]
theorem cfg16_short : firstShort 8 (allOf (inC cfg16 part16) 2) = (1, true) := by decide +kernel
theorem cfg16_least : leastOf 50 ((periodsOf 2).map (inC cfg16 part16)) = 5 := by decide +kernel
theorem cfg16_chk : dchk cfg16 = (23, 1, 0) := by decide +kernel

set_option maxHeartbeats 2000000 in
theorem alive16_c (w : World) : Calls Try.prog 21 #[] w fun e w' => e = .returned (.bool true) ∧ Below w.heap.size w w' := by
  have hS := fun (W : World) (b1 b2 : Nat) (h : CfgAt W cfg16 (adr16 b1 b2)) => demShort_c W cfg16 (adr16 b1 b2) h cfg16_right 0 (by simp [cfg16]) (by show (0 : Int) < 50; omega) 2 (by show (100 : Int) = 2 * 50; omega)
  have hL := fun (W : World) (b1 b2 : Nat) (h : CfgAt W cfg16 (adr16 b1 b2)) => demLeast_c W cfg16 (adr16 b1 b2) h cfg16_right 0 (by simp [cfg16]) (by show (0 : Int) < 50; omega) 2 (by show (100 : Int) = 2 * 50; omega)
  have hC := fun (W : World) (b1 b2 : Nat) (h : CfgAt W cfg16 (adr16 b1 b2)) => demCheck_c W cfg16 (adr16 b1 b2) h cfg16_right
  have e1 : firstShort cfg16.parts[0].dur (allOf (inC cfg16 cfg16.parts[0]) 2) = (1, true) := cfg16_short
  have e2 : leastOf cfg16.parts[0].period ((periodsOf 2).map (inC cfg16 cfg16.parts[0])) = 5 := cfg16_least
  simp only [e1] at hS
  simp only [e2] at hL
  simp only [cfg16_chk] at hC
  have HS := hid hS
  have HL := hid hL
  have HC := hid hC
  clear hS hL hC e1 e2
  go_enter Try.func21, Try.ntmps21
  go_wp2_with fail
  refine calls_name (fun W => Below w.heap.size w W ∧ W.heap.size = w.heap.size + 3 ∧ CfgAt W cfg16 (adr16 w.heap.size (w.heap.size + 1)) ∧ W.heap[w.heap.size + 1 + 1]? = some (.cells (cfgCells cfg16 (adr16 w.heap.size (w.heap.size + 1))) 29 (0, 0)))
    ⟨((below_new _ _).alloc (by simp) _).alloc (by simp; omega) _, by simp, cfg16_at (t1 := 36) (t2 := 91) (by repeat (first | (refine heap_at ?_; simp; done) | refine heap_alloc' ?_ _)) (by repeat (first | (refine heap_at ?_; simp; done) | refine heap_alloc' ?_ _)), by repeat (first | (refine heap_at ?_; simp; done) | refine heap_alloc' ?_ _)⟩ ?_
  rintro w1 ⟨hb1, hs1, hc1, hbox1⟩
  refine (HS.out w1 _ _ hc1).mono ?_
  rintro e w2 ⟨rfl, hb2⟩
  have hbox2 := heap_keep hbox1 hb2
  have hc2 := hid (hc1.below hb2)
  have hb02 := bthen hb1 hb2
  obtain ⟨z0, z1, z2, z3, z4, z5⟩ := box_cfg hbox2
  simp only [adr16] at z0 z1 z2 z3 z4 z5
  clear hb1 hb2 hc1 hbox1
  go_wp2_with fail
  refine (HL.out w2 _ _ hc2.out).mono ?_
  rintro e w3 ⟨rfl, hb3⟩
  have hbox3 := heap_keep hbox2 hb3
  have hc3 := hid (hc2.out.below hb3)
  have hb03 := bthen hb02 hb3
  clear z0 z1 z2 z3 z4 z5
  obtain ⟨z0, z1, z2, z3, z4, z5⟩ := box_cfg hbox3
  simp only [adr16] at z0 z1 z2 z3 z4 z5
  clear hb3 hb02 hc2 hbox2
  go_wp2_with fail
  refine (HC.out w3 _ _ hc3.out).mono ?_
  rintro e w4 ⟨rfl, hb4⟩
  have hb04 := bthen hb03 hb4
  clear hb4 hb03 hc3 hbox3 z0 z1 z2 z3 z4 z5
  go_wp2
  go_ret
  exact ⟨rfl, hb04⟩

theorem fits_c (w : World) (c : Cfg) (A : Adr) (hc : CfgAt w c A) :
    Calls Try.prog 20 #[cfgVal c A] w fun e w' => ∃ r : Bool, e = .returned (.bool r) ∧ (r = true → RightW c ∧ Diff (c.parts.map (·.id)) c.parts.length) ∧ Below w.heap.size w w' := by
  have h1 := hid (fun W (h : CfgAt W c A) => Few_c W c A h)
  have h2 := hid (fun W (h : CfgAt W c A) => refFew16_c W c A h)
  have h3 := hid (fun W (h : CfgAt W c A) => refRight_c W c A h)
  have hbox := heap_new w (.cells (cfgCells c A) 29)
  have hc1 := hid (hc.below (below_new w (.cells (cfgCells c A) 29)))
  obtain ⟨a1, k1, a2, k2, a3, k3, a4, k4, a5, k5⟩ := A
  obtain ⟨f, hf⟩ : ∃ f, few c = f := ⟨_, rfl⟩
  rw [hf] at h1
  simp only [cfgVal, cfgCells] at h1 h2 h3 ⊢
  have Hbox := hid hbox
  clear hc hf hbox
  go_enter Try.func20, Try.ntmps20
  go_wp2_with fail
  refine (h1.out _ hc1.out).mono ?_
  rintro e w2 ⟨rfl, hb2⟩
  have hb02 := bthen (below_new w _) hb2
  have hc2 := hid (hc1.out.below hb2)
  have Hbox2 := hid (heap_keep Hbox.out hb2)
  clear hb2 hc1 Hbox
  cases f
  · go_wp2
    go_ret
    exact ⟨false, rfl, fun h => (by cases h), hb02⟩
  · obtain ⟨z0, z1, z2, z3, z4, z5⟩ := box_cfg Hbox2.out
    simp only at z0 z1 z2 z3 z4 z5
    go_wp2_with fail
    refine (h2.out _ hc2.out).mono ?_
    rintro e w3 ⟨r2, rfl, hr2, hb3⟩
    have hb03 := bthen hb02 hb3
    have hc3 := hid (hc2.out.below hb3)
    have Hbox3 := hid (heap_keep Hbox2.out hb3)
    have Hr2 := hid hr2
    clear hb3 hc2 Hbox2 hb02 hr2 z0 z1 z2 z3 z4 z5
    cases r2
    · go_wp2
      go_ret
      exact ⟨false, rfl, fun h => (by cases h), hb03⟩
    · obtain ⟨z0, z1, z2, z3, z4, z5⟩ := box_cfg Hbox3.out
      simp only at z0 z1 z2 z3 z4 z5
      go_wp2_with fail
      refine (h3.out _ hc3.out).mono ?_
      rintro e w4 ⟨r3, rfl, hr3, hb4⟩
      have hb04 := bthen hb03 hb4
      have Hr3 := hid hr3
      clear hb4 hc3 Hbox3 hb03 hr3 z0 z1 z2 z3 z4 z5
      go_wp2
      go_ret
      exact ⟨r3, rfl, fun h => ⟨Hr3.out h, Hr2.out (by trivial)⟩, hb04⟩
end Go.Proofs.Ytlccbejhamkdoaa
