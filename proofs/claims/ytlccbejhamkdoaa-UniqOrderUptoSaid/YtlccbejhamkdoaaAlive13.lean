/- the example of chapter 13 -/
import Derived.Test.YtlccbejhamkdoaaUniqF
import Derived.Test.YtlccbejhamkdoaaFew
namespace Go.Proofs.Ytlccbejhamkdoaa
open Go.RowKit

def aBytes : ByteArray := { data := #[97] }
def port13 : Prt := { id := 5, part := 1, name := aBytes, output := false, queuing := false, size := 0 }
def cfg13 : Cfg := { frame := 0, parts := [], wins := [], regs := [], ports := [port13], chans := [] }
def adr13 (b : Nat) : Adr := ⟨none, 0, none, 0, none, 0, some ⟨b, 0, none⟩, 1, none, 0⟩

theorem cfg13_at (w : World) (t : TypeId) : CfgAt (w.alloc (.cells #[.int .u16 5, .int .u16 1, .string aBytes, .bool false, .bool false, .int .u32 0] t)) cfg13 (adr13 w.heap.size) where
  ok := by
    refine ⟨by simp [cfg13, U64], by simp [cfg13], by simp [cfg13], by simp [cfg13], ?_, by simp [cfg13], by simp [cfg13], by simp [cfg13], by simp [cfg13], by simp [cfg13], by simp [cfg13]⟩
    intro p hp
    simp only [cfg13, List.mem_singleton] at hp
    subst hp
    refine ⟨by simp [port13, U16], by simp [port13, U16], ?_, by simp [port13, U32]⟩
    show 1 ≤ _
    omega
  parts := RowAt.nil _ _ _ _
  wins := RowAt.nil _ _ _ _
  regs := RowAt.nil _ _ _ _
  ports := by
    intro k x hx
    cases k with
    | succ k => simp [cfg13] at hx
    | zero =>
      simp only [cfg13, List.getElem?_cons_zero, Option.some.injEq] at hx
      subst hx
      refine ⟨w.heap.size, 0, rfl, fun j u hj => ?_⟩
      refine cell_of_heap (heap_new w _) ?_
      simpa [encPrt, port13] using hj
  chans := by
    intro k x hx
    simp [cfg13] at hx
  k1 := by simp [cfg13, adr13]
  k2 := by simp [cfg13, adr13]
  k3 := by simp [cfg13, adr13]
  k4 := by simp [cfg13, adr13]
  k5 := by simp [cfg13, adr13]

set_option maxHeartbeats 1000000 in
theorem alive13_c (w : World) : Calls Try.prog 9 #[] w fun e w' => e = .returned (.bool true) ∧ Below w.heap.size w w' := by
  go_enter Try.func9, Try.ntmps9
  go_wp2_with fail
  refine (New_c _ cfg13 (adr13 w.heap.size) (cfg13_at w _)).mono ?_
  rintro e w2 ⟨x, r1, r2, r3, r4, rfl, hx, hb2⟩
  go_wp2_with fail
  have hcall := Repeated_c (w2.alloc (.cells #[.int .u16 5, .int .u16 7, .int .u16 7, .int .u16 5] 34)) (some ⟨w2.heap.size, 0, none⟩) 4 [5, 7, 7, 5] (row_new w2 (Value.int .u16) [5, 7, 7, 5] 34) (by simp)
  rw [show fd ([5, 7, 7, 5] : List Int) ([5, 7, 7, 5] : List Int).length = 2 from by decide] at hcall
  refine hcall.mono ?_
  rintro e w3 ⟨rfl, hb3⟩
  have hbx3 := bthen (below_new w2 _) hb3
  have hb23 := bthen (bthen (below_new w _) hb2) hbx3
  clear hcall hb2 hb3
  go_wp2_with fail
  have hcall := Repeated_c w3 none 0 [] (RowAt.nil _ _ _ _) (by simp)
  rw [show fd ([] : List Int) ([] : List Int).length = -1 from rfl] at hcall
  refine hcall.mono ?_
  rintro e w4 ⟨rfl, hb4⟩
  have hbx4 := bthen hbx3 hb4
  have hb24 := bthen hb23 hb4
  clear hcall hb4 hb23 hbx3
  have hx4 := hx.below hbx4
  go_wp2_with fail
  have hcall := xPort_c w4 x cfg13 r1 r2 r3 r4 hx4 5
  rw [show ixOf (cfg13.ports.map (·.id)) 5 = 0 from rfl] at hcall
  refine hcall.mono ?_
  rintro e w5 ⟨rfl, hb5⟩
  have hx5 := hx4.below hb5
  have hb25 := bthen hb24 hb5
  clear hcall hb5 hb24 hbx4 hx hx4
  go_wp2_with fail
  have hcall := xNamed_c w5 x cfg13 r1 r2 r3 r4 hx5 1 aBytes
  rw [show ixOf (cfg13.ports.map (fun p => (p.part, p.name))) (1, aBytes) = 0 from by decide] at hcall
  refine hcall.mono ?_
  rintro e w6 ⟨rfl, hb6⟩
  have hx6 := hx5.below hb6
  have hb26 := bthen hb25 hb6
  clear hcall hb6 hb25 hx5
  go_wp2_with fail
  have hcall := xNamed_c w6 x cfg13 r1 r2 r3 r4 hx6 2 aBytes
  rw [show ixOf (cfg13.ports.map (fun p => (p.part, p.name))) (2, aBytes) = -1 from by decide] at hcall
  refine hcall.mono ?_
  rintro e w7 ⟨rfl, hb7⟩
  have hb27 := bthen hb26 hb7
  clear hcall hb7 hb26 hx6
  go_wp2
  go_ret
  exact ⟨rfl, hb27⟩
end Go.Proofs.Ytlccbejhamkdoaa
