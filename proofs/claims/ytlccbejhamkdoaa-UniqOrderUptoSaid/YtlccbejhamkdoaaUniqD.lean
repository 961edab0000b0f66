/- the methods of an index; the checks of uniq -/
import Derived.Test.YtlccbejhamkdoaaUniqC
import Derived.Test.YtlccbejhamkdoaaRefC
namespace Go.Proofs.Ytlccbejhamkdoaa
open Go.RowKit



theorem xPort_c (w : World) (x : Nat) (c : Cfg) (r1 r2 r3 r4 : Nat) (hx : IdxAt w x c r1 r2 r3 r4) (id : Int) :
    Calls Try.prog 37 #[.pointer (some ⟨x, 0, none⟩), .int .u16 id] w fun e w' => e = .returned (.int .i64 (ixOf (c.ports.map (·.id)) id)) ∧ Below w.heap.size w w' := by
  have hcell := cell_of_heap (i := 1) hx.cells rfl
  have hfind := find16_c w r2 _ hx.ports id
  rw [look_fm _ _ (by simp)] at hfind
  have Hf := hid hfind
  clear hx hfind
  go_enter Try.func37, Try.ntmps37
  go_wp2_with fail
  refine Hf.out.mono ?_
  rintro e w' ⟨rfl, hb⟩
  go_wp2
  go_ret
  exact ⟨rfl, hb⟩





theorem nPort_c (w : World) (id : Int) : Calls Try.prog 37 #[.pointer none, .int .u16 id] w fun e w' => e = .returned (.int .i64 (-1)) ∧ Below w.heap.size w w' := by
  go_enter Try.func37, Try.ntmps37
  go_wp2
  go_ret
  exact ⟨rfl, Below.refl _ _⟩



theorem nNamed_c (w : World) (part : Int) (name : ByteArray) : Calls Try.prog 38 #[.pointer none, .int .u16 part, .string name] w fun e w' => e = .returned (.int .i64 (-1)) ∧ Below w.heap.size w w' := by
  go_enter Try.func38, Try.ntmps38
  go_wp2
  go_ret
  exact ⟨rfl, (below_new _ _)⟩

theorem xNamed_c (w : World) (x : Nat) (c : Cfg) (r1 r2 r3 r4 : Nat) (hx : IdxAt w x c r1 r2 r3 r4) (part : Int) (name : ByteArray) :
    Calls Try.prog 38 #[.pointer (some ⟨x, 0, none⟩), .int .u16 part, .string name] w fun e w' => e = .returned (.int .i64 (ixOf (c.ports.map (fun p => (p.part, p.name))) (part, name))) ∧ Below w.heap.size w w' := by
  have hcell := cell_of_heap (i := 3) hx.cells rfl
  have hm := hx.names
  have hxl : x < w.heap.size := lt_of_block hx.cells
  have hml := hm.lt
  obtain ⟨ks, hks⟩ : ∃ ks, fm (c.ports.map (fun p => (p.part, p.name))) c.ports.length = ks := ⟨_, rfl⟩
  have hlook : Hid ((look (part, name) ks).getD (-1) = ixOf (c.ports.map (fun p => (p.part, p.name))) (part, name)) := by rw [← hks]; exact look_fm _ _ (by simp)
  rw [hks] at hm
  clear hks hx
  have hm1 : MapNm (w.alloc (.cells #[.int .u16 part, .string name] 82)) r4 ks := hm.below (below_new _ _)
  have hlen := hm1.len (P := Try.prog) Try.underlying86 3
  clear hm
  by_cases h0 : part = 0
  · subst h0
    by_cases h1 : name = ByteArray.empty
    · subst h1
      by_cases hl : ks = []
      · subst hl
        have hfin : Hid (ixOf (c.ports.map (fun p => (p.part, p.name))) (0, ByteArray.empty) = -1) := hlook.out.symm
        clear hm1
        simp only [List.length_nil] at hlen
        go_enter Try.func38, Try.ntmps38
        go_wp2
        go_ret
        exact ⟨ret_int hfin.out.symm, below_new _ _⟩
      · have hl1 : (((ks.length : Nat) : Int) == 0) = false := by simpa using hl
        have hfd := findNm_c (w.alloc (.cells #[.int .u16 0, .string ByteArray.empty] 82)).drew r4 ks (hm1.below (Below.refl _ _).drew) (0, ByteArray.empty)
        rw [hlook.out] at hfd
        have Hfd := hid hfd
        clear hfd hm1
        go_enter Try.func38, Try.ntmps38
        go_wp2_with fail
        clear hlen
        go_region_held3 (fun W => W.cell? ⟨x, 3, none⟩ = some (.map (some r4)) ∧ W.cell? ⟨w.heap.size, 0, none⟩ = some (.int .u16 0) ∧ W.cell? ⟨w.heap.size, 1, none⟩ = some (.string ByteArray.empty)) (go_keep) (first | (go_at_call 76; refine Hfd.out.mono ?_; rintro e w4 ⟨rfl, hb5'⟩; have hb5 := bundrew hb5'; clear hb5'; have y0 : w4.cell? ⟨x, 3, none⟩ = some (.map (some r4)) := cell_below hb5 (cell_below (below_new _ _) hcell); have y1 : w4.cell? ⟨w.heap.size, 0, none⟩ = some (.int .u16 0) := cell_below hb5 (cell_of_heap (heap_new w _) rfl); have y2 : w4.cell? ⟨w.heap.size, 1, none⟩ = some (.string ByteArray.empty) := cell_below hb5 (cell_of_heap (heap_new w _) rfl)))
        have Hb5 := hid (bthen (below_new _ _) hb5)
        clear hb5 y0 y1 y2
        go_wp2
        go_ret
        exact ⟨rfl, Hb5.out⟩
    · have hne : name.toList.isEmpty = false := by
        cases hne : name.toList.isEmpty with
        | false => rfl
        | true =>
          refine absurd (bytes_eq_of_beq ?_) h1
          rw [beq_toListBytes, List.isEmpty_iff.1 hne, ByteArray.toList_eq]
          rfl
      clear h1
      have hfd := findNm_c (w.alloc (.cells #[.int .u16 0, .string name] 82)).drew r4 ks (hm1.below (Below.refl _ _).drew) (0, name)
      rw [hlook.out] at hfd
      have Hfd := hid hfd
      clear hfd hm1
      go_enter Try.func38, Try.ntmps38
      go_wp2_with fail
      clear hlen
      go_region_held3 (fun W => W.cell? ⟨x, 3, none⟩ = some (.map (some r4)) ∧ W.cell? ⟨w.heap.size, 0, none⟩ = some (.int .u16 0) ∧ W.cell? ⟨w.heap.size, 1, none⟩ = some (.string name)) (go_keep) (first | (go_at_call 76; refine Hfd.out.mono ?_; rintro e w4 ⟨rfl, hb5'⟩; have hb5 := bundrew hb5'; clear hb5'; have y0 : w4.cell? ⟨x, 3, none⟩ = some (.map (some r4)) := cell_below hb5 (cell_below (below_new _ _) hcell); have y1 : w4.cell? ⟨w.heap.size, 0, none⟩ = some (.int .u16 0) := cell_below hb5 (cell_of_heap (heap_new w _) rfl); have y2 : w4.cell? ⟨w.heap.size, 1, none⟩ = some (.string name) := cell_below hb5 (cell_of_heap (heap_new w _) rfl)))
      have Hb5 := hid (bthen (below_new _ _) hb5)
      clear hb5 y0 y1 y2
      go_wp2
      go_ret
      exact ⟨rfl, Hb5.out⟩
  · have hne : (part == 0) = false := by simpa using h0
    clear h0
    have hfd := findNm_c (w.alloc (.cells #[.int .u16 part, .string name] 82)).drew r4 ks (hm1.below (Below.refl _ _).drew) (part, name)
    rw [hlook.out] at hfd
    have Hfd := hid hfd
    clear hfd hm1
    go_enter Try.func38, Try.ntmps38
    go_wp2_with fail
    clear hlen
    go_region_held3 (fun W => W.cell? ⟨x, 3, none⟩ = some (.map (some r4)) ∧ W.cell? ⟨w.heap.size, 0, none⟩ = some (.int .u16 part) ∧ W.cell? ⟨w.heap.size, 1, none⟩ = some (.string name)) (go_keep) (first | (go_at_call 76; refine Hfd.out.mono ?_; rintro e w4 ⟨rfl, hb5'⟩; have hb5 := bundrew hb5'; clear hb5'; have y0 : w4.cell? ⟨x, 3, none⟩ = some (.map (some r4)) := cell_below hb5 (cell_below (below_new _ _) hcell); have y1 : w4.cell? ⟨w.heap.size, 0, none⟩ = some (.int .u16 part) := cell_below hb5 (cell_of_heap (heap_new w _) rfl); have y2 : w4.cell? ⟨w.heap.size, 1, none⟩ = some (.string name) := cell_below hb5 (cell_of_heap (heap_new w _) rfl)))
    have Hb5 := hid (bthen (below_new _ _) hb5)
    clear hb5 y0 y1 y2
    go_wp2
    go_ret
    exact ⟨rfl, Hb5.out⟩
end Go.Proofs.Ytlccbejhamkdoaa
