/- slices.DeleteFunc at the windows of a configuration: the other partitions' windows go -/
import Derived.Test.YtlccbejhamkdoaaWins16A
namespace Go.Proofs.Ytlccbejhamkdoaa
open Go.RowKit

theorem flat_set3 : ∀ (l : List Win) (i : Nat) (x : Win), i < l.length → (l.set i x).flatMap encWin = (((l.flatMap encWin).set (i * 3) (.int .u64 x.start)).set (i * 3 + 1) (.int .u64 x.len)).set (i * 3 + 2) (.int .u16 x.part)
  | [], i, x, h => by simp at h
  | y :: l, 0, x, _ => by simp [encWin]
  | y :: l, i + 1, x, h => by
    have ih := flat_set3 l i x (by simpa using h)
    have e : (i + 1) * 3 = i * 3 + 3 := by omega
    rw [List.set_cons_succ, List.flatMap_cons, List.flatMap_cons, ih, e]
    simp only [encWin, List.cons_append, List.nil_append]
    rfl

theorem own_later {w w' : World} {base : Nat} {e : TypeId} {size n : Nat} {v : Value} {xs : List Value} (h : w.ownsRow base e size v n xs) (hb : Below w.heap.size w w') : w'.ownsRow base e size v n xs :=
  h.kept (gbelow hb none) (by cases v.ownBlock <;> simp)

section
variable {w : World} {base : Nat} {e : TypeId} {size n cap g : Nat} {xs : List Value}
theorem own_cut (h : w.ownsRow base e size (.slice (some ⟨g, 0, none⟩) n cap) n xs) {i : Nat} (hi : i ≤ n) : w.ownsRow base e size (.slice (some ⟨g, 0, none⟩) i cap) i (xs.take (i * size)) := by
  have hle : i * size ≤ n * size := Nat.mul_le_mul_right size hi
  rcases h.2 with ⟨h', _⟩ | ⟨g', cap', cur, h', hb, hg, hc, hcm, hsz, htake⟩
  · cases h'
  · simp only [Value.slice.injEq, Option.some.injEq, Addr.mk.injEq, and_true, true_and] at h'
    obtain ⟨rfl, rfl⟩ := h'
    refine ⟨by rw [List.length_take, h.1]; omega, .inr ⟨g, cap, cur, rfl, hb, hg, by omega, hcm, hsz, ?_⟩⟩
    rw [← htake, List.take_take, Nat.min_eq_left hle]
theorem own_behind : ∀ (vs : List Value) (o : Nat) (w : World), w.ownsRow base e size (.slice (some ⟨g, 0, none⟩) n cap) n xs → n * size ≤ o →
    (w.setCells g o vs).ownsRow base e size (.slice (some ⟨g, 0, none⟩) n cap) n xs ∧ w.grownBy (w.setCells g o vs) (some g)
  | [], o, w, h, _ => ⟨h, grefl _ _⟩
  | v :: r, o, w, h, ho => by
    obtain ⟨h1, h2⟩ := h.stored o v
    rw [List.set_eq_of_length_le (by rw [h.1]; exact ho)] at h1
    obtain ⟨h3, h4⟩ := own_behind r (o + 1) _ h1 (by omega)
    exact ⟨h3, gtrans h2 h4⟩
/-- clear at the last elements of a row of the call's own -/
theorem run_clear_own {P : Program} {t : TypeId} {z : Value} (ht : P.underlying t = some (.slice e)) (hv : ∀ w, (zeroValue e).run P w = .ok z w) (hz : z.cells.size = size) (h1 : ∀ v ∈ z.cells, v.oneCell' = true) (hsz : 0 < size)
    (h : w.ownsRow base e size (.slice (some ⟨g, 0, none⟩) n cap) n xs) {i c : Nat} (hi : i < n) :
    ∃ vs, ∀ ty, (Builtin.clear_ #[t] ty #[.slice (some ⟨g, i * size, none⟩) (n - i) c]).run P w = .ok (.tuple #[]) (w.setCells g (i * size) vs) := by
  refine ⟨(Builtin.zeroCells z.cells (n - i)).toList, fun ty => ?_⟩
  have hlen : (Builtin.zeroCells z.cells (n - i)).toList.length = (n - i) * size := by simp [Builtin.zeroCells, hz]
  have hle : i * size + (n - i) * size = n * size := by rw [← Nat.add_mul]; congr 1; omega
  have hst := run_storeCells_cells (P := P) g (i * size) (Builtin.zeroCells z.cells (n - i)).toList 0 w
    (fun j hj => by
      rw [hlen] at hj
      rw [h.cellAt (i * size + 0 + j) (by omega), List.getElem?_eq_getElem (by rw [h.1]; omega)]; rfl)
    (fun j hj => h.frozenAt _)
    (fun v hv' => by
      simp only [Builtin.zeroCells, Array.toList_map, List.mem_map] at hv'
      obtain ⟨j, _, rfl⟩ := hv'
      have hj : j % z.cells.size < z.cells.size := Nat.mod_lt _ (by omega)
      rw [getElem!_pos z.cells _ hj]
      exact h1 _ (Array.getElem_mem hj))
  simp only [Nat.add_zero] at hst
  obtain ⟨m, hm⟩ : ∃ m, n - i = m + 1 := ⟨n - i - 1, by omega⟩
  rw [hm] at hst ⊢
  simp [Builtin.clear_, run_underlying ht, hv, hst]
end

theorem flat_take : ∀ (l : List Win) (i : Nat), (l.take i).flatMap encWin = (l.flatMap encWin).take (i * 3)
  | [], i => by simp
  | y :: l, 0 => by simp
  | y :: l, i + 1 => by
    rw [List.take_succ_cons, List.flatMap_cons, List.flatMap_cons, flat_take l i, show (i + 1) * 3 = i * 3 + 3 by omega]
    simp only [encWin, List.cons_append, List.nil_append]
    rfl

/-- the windows of a partition -/
def ofPart (l : List Win) (id : Int) : List Win := l.filter fun x => decide (x.part = id)
theorem ofPart_all {l : List Win} {id : Int} (h : ∀ j (hj : j < l.length), l[j].part = id) : ofPart l id = l := by
  unfold ofPart
  rw [List.filter_eq_self]
  intro x hx
  obtain ⟨j, hj, rfl⟩ := List.getElem_of_mem hx
  simpa using h j hj
theorem firstOther_cases (l : List Win) (id : Int) : (firstOther l id = -1 ∧ ofPart l id = l) ∨ ∃ i : Nat, firstOther l id = i ∧ ∃ h : i < l.length, l[i].part ≠ id ∧ ofPart (l.take i) id = l.take i := by
  cases hf : l.findIdx? (fun x => !decide (x.part = id)) with
  | none =>
    refine .inl ⟨by simp [firstOther, hf], ofPart_all fun j hj => ?_⟩
    rw [List.findIdx?_eq_none_iff] at hf
    simpa using hf l[j] (List.getElem_mem hj)
  | some i =>
    rw [List.findIdx?_eq_some_iff_getElem] at hf
    obtain ⟨hi, h1, h2⟩ := hf
    refine .inr ⟨i, ?_, hi, by simpa using h1, ofPart_all fun j hj => ?_⟩
    · have : l.findIdx? (fun x => !decide (x.part = id)) = some i := by
        rw [List.findIdx?_eq_some_iff_getElem]; exact ⟨hi, h1, h2⟩
      simp [firstOther, this]
    · have := h2 j (by simp at hj; omega)
      simpa using this

set_option maxHeartbeats 2000000 in
theorem deleteW_c (w : World) (base : Nat) (s : Value) (l : List Win) (hown : w.ownsRow base 91 3 s l.length (l.flatMap encWin)) (hlen : l.length ≤ 4611686018427387903) (pb : Nat) (id : Int) (hpb : pb < base) (_hbase : base ≤ w.heap.size) (h : w.cell? ⟨pb, 0, none⟩ = some (.int .u16 id)) :
    Calls Try.prog 79 #[s, .func (.func 81) #[] #[.pointer (some ⟨pb, 0, none⟩)]] w fun e w' => ∃ s', e = .returned s' ∧
      w'.ownsRow base 91 3 s' (ofPart l id).length ((ofPart l id).flatMap encWin) ∧ w.grownBy w' s.ownBlock := by
  obtain ⟨a, cap, rfl, hcap⟩ := own_slice hown
  have hrow : RowAt 3 encWin w a l := own_row hown (fun _ _ => rfl) rfl
  have hidx := indexW_c w a cap l hrow (by omega) pb id h
  have Hown := hid hown
  have Hcell := hid h
  have Hidx := hid hidx
  clear hown h hrow hidx
  rcases firstOther_cases l id with ⟨hf, hall⟩ | ⟨i0, hf, hi0, hpart, hpre⟩
  · rw [hf] at Hidx
    go_enter Try.func79, Try.ntmps79
    go_wp2_with fail
    refine Hidx.out.mono ?_
    rintro e w2 ⟨rfl, hb2⟩
    have Hb2 := hid hb2
    have Hf := hid hall
    clear hb2 hall hf
    go_wp2
    go_ret
    refine ⟨_, rfl, ?_, gbelow Hb2.out _⟩
    rw [Hf.out]
    exact own_later Hown.out Hb2.out
  · rw [hf] at Hidx
    obtain ⟨g, rfl⟩ : ∃ g, a = some ⟨g, 0, none⟩ := by
      rcases Hown.out.2 with ⟨h', h2⟩ | ⟨g, cap', cur, h', _⟩
      · omega
      · simp only [Value.slice.injEq] at h'; exact ⟨g, h'.1⟩
    have hpbg : pb ≠ g := by have := (Hown.out.lt g rfl).1; omega
    have hm1 : ((i0 : Int) == -1) = false := by rw [beq_eq_false_iff_ne]; omega
    have Hpart := hid hpart
    have Hpre := hid hpre
    clear hf hpart hpre
    go_enter Try.func79, Try.ntmps79
    go_wp2_with fail
    refine Hidx.out.mono ?_
    rintro e w2 ⟨rfl, hb2⟩
    have Hg2 := hid (gbelow hb2 (some g))
    have Hown2 := hid (own_later Hown.out hb2)
    clear hb2
    go_wp2
    go_loopw [5, 6] (fun i j wr => ∃ (i' j' : Nat) (L : List Win), i = .int .i64 i' ∧ j = .int .i64 j' ∧ i' < j' ∧ j' ≤ l.length ∧ Hid (L.length = l.length ∧ wr.ownsRow base 91 3 (.slice (some ⟨g, 0, none⟩) l.length cap) l.length (L.flatMap encWin) ∧
      L.take i' = ofPart (l.take j') id ∧ L.drop j' = l.drop j' ∧ w.grownBy wr (some g))) (fun _ j _ => l.length - (intOf j).toNat)
    case atStart =>
      refine ⟨i0, i0 + 1, l, rfl, by go_num, by omega, by omega, rfl, Hown2.out, ?_, rfl, Hg2.out⟩
      have := Hpre.out
      unfold ofPart at this
      rw [List.take_add_one, List.getElem?_eq_getElem hi0, ofPart, List.filter_append, Option.toList_some, this]
      simp [Hpart.out]
    case round =>
      obtain ⟨i, j, L, rfl, rfl, hij, hjn, hL⟩ := hrel
      by_cases hlt : j < l.length
      · obtain ⟨hLn, hown3, hpre, hdrop, hg3⟩ := hL.out
        have hrow3 : RowAt 3 encWin wr (some ⟨g, 0, none⟩) L := own_row hown3 (fun _ _ => rfl) hLn
        obtain ⟨b, o, hbo, hb0, h0, h1, h2⟩ := hrow3.win (k := j) (by omega)
        simp only [Option.some.injEq, Addr.mk.injEq, and_true] at hbo
        obtain ⟨rfl, rfl⟩ := hbo
        have hjL : j < L.length := by omega
        have hx : L[j] = l[j] := by
          have e1 : (L.drop j)[0]? = (l.drop j)[0]? := by rw [hdrop]
          rw [List.getElem?_drop, List.getElem?_drop, Nat.add_zero, List.getElem?_eq_getElem (by omega), List.getElem?_eq_getElem hlt] at e1
          simpa using e1
        rw [hx] at h0 h1 h2
        simp only [Nat.zero_add] at h0 h1 h2
        obtain ⟨x, hxx⟩ : ∃ x, l[j] = x := ⟨_, rfl⟩
        rw [hxx] at h0 h1 h2 hx
        have hcellr := hid ((World.cell?_of_block (hg3.block pb (World.block_lt_of_cell? w _ Hcell.out) (by simp; omega))).trans Hcell.out : wr.cell? ⟨pb, 0, none⟩ = some (.int .u16 id))
        clear hown3 hpre hdrop hg3 hrow3 hLn hx
        go_wp2_with fail
        refine (of1_c _ x pb id (cell_below (below_new _ _) hcellr.out)).mono ?_
        rintro e w3 ⟨rfl, hb3⟩
        have hb03 := hid (bthen (below_new wr _) hb3)
        have hbox := heap_keep (heap_new wr (.cells #[.int .u64 x.start, .int .u64 x.len, .int .u16 x.part] 91)) hb3
        have y0 := cell_of_heap (i := 0) hbox rfl
        have y1 := cell_of_heap (i := 1) hbox rfl
        have y2 := cell_of_heap (i := 2) hbox rfl
        clear hbox hb3 h0 h1 h2
        by_cases he : x.part = id
        · have hd : decide (x.part = id) = true := by simpa using he
          have hx2 : Hid (l[j] = x) := hxx
          have He := hid he
          have hown4 := own_later hL.out.2.1 hb03.out
          have hil : i * 3 + 2 < l.length * 3 := by omega
          have z0 : (w3.cell? ⟨g, i * 3, none⟩).isSome = true := by rw [hown4.cellAt _ (by omega), List.getElem?_eq_getElem (by rw [hown4.1]; omega)]; rfl
          have z1 : (w3.cell? ⟨g, i * 3 + 1, none⟩).isSome = true := by rw [hown4.cellAt _ (by omega), List.getElem?_eq_getElem (by rw [hown4.1]; omega)]; rfl
          have z2 : (w3.cell? ⟨g, i * 3 + 2, none⟩).isSome = true := by rw [hown4.cellAt _ (by omega), List.getElem?_eq_getElem (by rw [hown4.1]; omega)]; rfl
          obtain ⟨v0, z0⟩ := Option.isSome_iff_exists.1 z0
          obtain ⟨v1, z1⟩ := Option.isSome_iff_exists.1 z1
          obtain ⟨v2, z2⟩ := Option.isSome_iff_exists.1 z2
          have fz : ∀ t, w3.frozen? ⟨g, t, none⟩ = false := fun t => hown4.frozenAt t
          have Hown4 := hid hown4
          clear he hown4 hil
          go_wp2
          refine ⟨⟨i + 1, j + 1, L.set i x, by go_num, by go_num, by omega, by omega, ?_⟩, by simp [intOf]; omega⟩
          obtain ⟨hLn, hown3, hpre, hdrop, hg3⟩ := hL.out
          obtain ⟨o1, g1⟩ := Hown4.out.stored (i * 3) (.int .u64 x.start)
          obtain ⟨o2, g2⟩ := o1.stored (i * 3 + 1) (.int .u64 x.len)
          obtain ⟨o3, g3⟩ := o2.stored (i * 3 + 2) (.int .u16 x.part)
          rw [← flat_set3 L i x (by omega)] at o3
          refine ⟨by rw [List.length_set, hLn], o3, ?_, ?_, gtrans (gtrans (gtrans (gtrans hg3 (gbelow hb03.out _)) g1) g2) g3⟩
          · rw [List.take_add_one (l := l), List.getElem?_eq_getElem hlt, hx2.out, ofPart, List.filter_append, List.take_add_one, List.getElem?_set_self (by omega), List.take_set_of_le (Nat.le_refl _), hpre]
            simp [ofPart, He.out]
          · rw [List.drop_set_of_lt (by omega), ← List.drop_drop, hdrop, List.drop_drop]
        · have hd : decide (x.part = id) = false := by simpa using he
          have hnext : Hid (L.length = l.length ∧ w3.ownsRow base 91 3 (.slice (some ⟨g, 0, none⟩) l.length cap) l.length (L.flatMap encWin) ∧ L.take i = ofPart (l.take (j + 1)) id ∧ L.drop (j + 1) = l.drop (j + 1) ∧ w.grownBy w3 (some g)) := by
            obtain ⟨hLn, hown3, hpre, hdrop, hg3⟩ := hL.out
            refine ⟨hLn, own_later hown3 hb03.out, ?_, ?_, gtrans hg3 (gbelow hb03.out _)⟩
            · rw [hpre, List.take_add_one, List.getElem?_eq_getElem hlt, hxx]
              simp [ofPart, he]
            · rw [← List.drop_drop, hdrop, List.drop_drop]
          clear he hxx
          go_wp2
          go_roundw
          case rel => exact ⟨i, j + 1, L, rfl, by go_num, by omega, by omega, hnext⟩
          case measure => simp [intOf]; omega
      · have hke : j = l.length := by omega
        subst hke
        obtain ⟨vs, hcl⟩ := run_clear_own (P := Try.prog) (size := 3) (t := 24) (z := .agg #[.int .u64 0, .int .u64 0, .int .u16 0]) (c := cap - i) Try.underlying24 Try.zeroValue91 rfl (by intro v hv; simp [Value.cells] at hv; rcases hv with rfl | rfl | rfl <;> rfl) (by decide) hL.out.2.1 hij
        have hfin : Hid (∃ own' : (wr.setCells g (i * 3) vs).ownsRow base 91 3 (.slice (some ⟨g, 0, none⟩) i cap) i ((ofPart l id).flatMap encWin), i = (ofPart l id).length ∧ w.grownBy (wr.setCells g (i * 3) vs) (some g)) := by
          obtain ⟨hLn, hown3, hpre, hdrop, hg3⟩ := hL.out
          rw [List.take_length] at hpre
          have hc := own_cut hown3 (i := i) (by omega)
          rw [← flat_take L i, hpre] at hc
          obtain ⟨o1, g1⟩ := own_behind vs (i * 3) wr hc (Nat.le_refl _)
          exact ⟨o1, by rw [← hpre, List.length_take]; omega, gtrans hg3 g1⟩
        obtain ⟨W, hW⟩ : ∃ W, wr.setCells g (i * 3) vs = W := ⟨_, rfl⟩
        rw [hW] at hcl hfin
        have hic : i ≤ cap := by omega
        clear hL hW
        go_wp2
        go_ret
        obtain ⟨o1, e1, g1⟩ := hfin.out
        exact ⟨_, rfl, by rw [← e1]; exact o1, g1⟩
end Go.Proofs.Ytlccbejhamkdoaa
