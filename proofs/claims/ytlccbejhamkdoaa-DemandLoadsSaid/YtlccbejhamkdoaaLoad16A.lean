/- sums and products, as the program and the reference reckon them -/
import Derived.Test.YtlccbejhamkdoaaSlack16
import Derived.Laws.Externs
namespace Go.Proofs.Ytlccbejhamkdoaa
open Go.RowKit

def addF : Int → List Int → Int × Bool
  | n, [] => (n, true)
  | n, x :: l => if n + x ≤ 18446744073709551615 then addF (n + x) l else (0, false)

theorem top_c (w : World) : Calls Try.prog 92 #[] w fun e w' => e = .returned (.int .u64 18446744073709551615) ∧ Below w.heap.size w w' := by
  go_enter Try.func92, Try.ntmps92
  go_wp2
  go_ret
  exact ⟨rfl, Below.refl _ _⟩

theorem plus_c (w : World) (x y : Int) (hx : U64 x) (hy : U64 y) :
    Calls Try.prog 91 #[.int .u64 x, .int .u64 y] w fun e w' => (x + y ≤ 18446744073709551615 → e = .returned (.tuple #[.int .u64 (x + y), .bool true])) ∧ (¬ x + y ≤ 18446744073709551615 → ∃ n : Int, e = .returned (.tuple #[.int .u64 n, .bool false])) ∧ w' = w := by
  unfold U64 at hx hy
  have hadd : ∀ W : World, (callFunc 105 #[.int .u64 x, .int .u64 y, .int .u64 0]).run Try.prog W = .ok (.value (.tuple #[.int .u64 ((x + y + 0) % 18446744073709551616), .int .u64 ((x + y + 0) / 18446744073709551616)])) W := fun W => by
    rw [run_callFunc_extern Try.func105 (by kernel_rfl) (by kernel_rfl) (by kernel_rfl) (e := add64Entry) (by kernel_rfl), run_add64 x y 0 (by omega) (by omega) (by omega) (by omega)]
    rfl
  obtain ⟨lo, hlo⟩ : ∃ lo, (x + y + 0) % 18446744073709551616 = lo := ⟨_, rfl⟩
  obtain ⟨hi, hhi⟩ : ∃ hi, (x + y + 0) / 18446744073709551616 = hi := ⟨_, rfl⟩
  rw [hlo, hhi] at hadd
  by_cases hs : x + y ≤ 18446744073709551615
  · have h1 : hi = 0 := by omega
    have h2 : lo = x + y := by omega
    subst h1
    have H2 := hid h2
    have Hs := hid hs
    clear hhi hlo h2 hs
    go_enter Try.func91, Try.ntmps91
    go_wp2
    go_ret2
    exact ⟨fun _ => by rw [← H2.out]; rfl, fun h => False.elim (by have := Hs.out; omega), rfl⟩
  · have h1 : (hi == 0) = false := by rw [beq_eq_false_iff_ne]; omega
    have Hs := hid hs
    clear hhi hlo hs
    go_enter Try.func91, Try.ntmps91
    go_wp2
    go_ret2
    exact ⟨fun h => False.elim (by have := Hs.out; omega), fun _ => ⟨_, rfl⟩, rfl⟩

set_option maxHeartbeats 1000000 in
theorem foldAdd_c (w : World) (a : Option Addr) (cap : Nat) (l : List Int) (hrow : RowAt 1 (fun n => [.int .u64 n]) w a l) (hlen : l.length ≤ 9223372036854775807) (hl : ∀ x ∈ l, U64 x) :
    Calls Try.prog 90 #[.int .u64 0, .func (.func 91) #[] #[], .slice a l.length cap] w fun e w' => e = .returned (.tuple #[.int .u64 (addF 0 l).1, .bool (addF 0 l).2]) ∧ Below w.heap.size w w' := by
  obtain ⟨e0, e1, hm⟩ : ∃ e0 e1, addF 0 l = (e0, e1) := ⟨_, _, rfl⟩
  rw [hm]
  have Hm := hid hm
  have Hl := hid hl
  clear hm hl
  go_enter Try.func90, Try.ntmps90
  go_wp2
  go_loopw [8, 9, 15] (fun n ok i wr => ∃ (k : Nat) (q : Int), k ≤ l.length ∧ i = .int .i64 k ∧ n = .int .u64 q ∧ ok = .bool true ∧ 0 ≤ q ∧ q ≤ 18446744073709551615 ∧ Hid (addF q (l.drop k) = (e0, e1)) ∧ Below w.heap.size w wr) (fun _ _ i _ => l.length - (intOf i).toNat)
  case atStart => exact ⟨0, 0, Nat.zero_le _, rfl, rfl, rfl, by omega, by omega, Hm.out, Below.refl _ _⟩
  case round =>
    obtain ⟨k, q, hkn, rfl, rfl, rfl, hq0, hq1, Hk, hbr⟩ := hrel
    by_cases hlt : k < l.length
    · obtain ⟨b, o, rfl, hb0, h0⟩ := (hrow.below hbr).one hlt
      have hux := Hl.out _ (List.getElem_mem hlt)
      have hk := Hk.out
      rw [List.drop_eq_getElem_cons hlt] at hk
      obtain ⟨x, hx⟩ : ∃ x, l[k] = x := ⟨_, rfl⟩
      rw [hx] at h0 hk hux
      unfold addF at hk
      have Hk2 := hid hk
      have Hrow := hid hrow
      have Hux := hid hux
      clear hx hk hrow Hk hux
      go_wp2_with fail
      refine (plus_c wr q x ⟨hq0, hq1⟩ Hux.out).mono ?_
      rintro e w2 ⟨hy, hn, rfl⟩
      by_cases hs : q + x ≤ 18446744073709551615
      · have he := hy hs
        subst he
        have Hs : Hid (addF (q + x) (l.drop (k + 1)) = (e0, e1)) := by show _ = _; rw [← Hk2.out, if_pos hs]
        have hp0 : 0 ≤ q + x := by have := Hux.out.1; omega
        obtain ⟨q', hq'⟩ : ∃ q', q + x = q' := ⟨_, rfl⟩
        rw [hq'] at Hs hs hp0 ⊢
        clear hy hn hq'
        go_wp2
        go_roundw
        case rel => exact ⟨k + 1, q', by omega, by go_num, rfl, rfl, hp0, hs, Hs, hbr⟩
        case measure => simp [intOf]; omega
      · obtain ⟨n, he⟩ := hn hs
        subst he
        have Hs : Hid (((0 : Int), false) = (e0, e1)) := by show _ = _; rw [← Hk2.out, if_neg hs]
        clear hy hn hs
        go_wp2
        go_ret2
        have hf := Hs.out
        simp only [Prod.mk.injEq] at hf
        obtain ⟨rfl, rfl⟩ := hf
        exact ⟨rfl, hbr⟩
    · have hke : k = l.length := by omega
      subst hke
      have hk := Hk.out
      rw [List.drop_length] at hk
      unfold addF at hk
      have Hs := hid hk
      clear hk
      go_wp2
      go_ret2
      have hf := Hs.out
      simp only [Prod.mk.injEq] at hf
      obtain ⟨rfl, rfl⟩ := hf
      exact ⟨rfl, hbr⟩
theorem addNum_c (w : World) (a : Option Addr) (cap : Nat) (l : List Int) (hrow : RowAt 1 (fun n => [.int .u64 n]) w a l) (hlen : l.length ≤ 9223372036854775807) (hl : ∀ x ∈ l, U64 x) :
    Calls Try.prog 70 #[.slice a l.length cap] w fun e w' => e = .returned (.tuple #[.int .u64 (addF 0 l).1, .bool (addF 0 l).2]) ∧ Below w.heap.size w w' := by
  obtain ⟨e0, e1, hm⟩ : ∃ e0 e1, addF 0 l = (e0, e1) := ⟨_, _, rfl⟩
  have hfold := hid (foldAdd_c w a cap l hrow hlen hl)
  rw [hm] at hfold ⊢
  clear hrow hl hm
  go_enter Try.func70, Try.ntmps70
  go_wp2_with fail
  refine hfold.out.mono ?_
  rintro e w3 ⟨rfl, hb3⟩
  go_wp2
  go_ret2
  exact ⟨rfl, hb3⟩

set_option maxHeartbeats 2000000 in
theorem refAdd_c (w : World) (a : Option Addr) (cap : Nat) (l : List Int) (hrow : RowAt 1 (fun n => [.int .u64 n]) w a l) (hlen : l.length ≤ 9223372036854775807) (hl : ∀ x ∈ l, U64 x) :
    Calls Try.prog 72 #[.slice a l.length cap] w fun e w' => e = .returned (.tuple #[.int .u64 (addF 0 l).1, .bool (addF 0 l).2]) ∧ Below w.heap.size w w' := by
  obtain ⟨e0, e1, hm⟩ : ∃ e0 e1, addF 0 l = (e0, e1) := ⟨_, _, rfl⟩
  rw [hm]
  have Hm := hid hm
  have Hl := hid hl
  clear hm hl
  go_enter Try.func72, Try.ntmps72
  go_wp2
  go_loopw [4, 5] (fun n i wr => ∃ (k : Nat) (q : Int), k ≤ l.length ∧ i = .int .i64 k ∧ n = .int .u64 q ∧ 0 ≤ q ∧ q ≤ 18446744073709551615 ∧ Hid (addF q (l.drop k) = (e0, e1)) ∧ Below w.heap.size w wr) (fun _ i _ => l.length - (intOf i).toNat)
  case atStart => exact ⟨0, 0, Nat.zero_le _, rfl, rfl, by omega, by omega, Hm.out, Below.refl _ _⟩
  case round =>
    obtain ⟨k, q, hkn, rfl, rfl, hq0, hq1, Hk, hbr⟩ := hrel
    by_cases hlt : k < l.length
    · obtain ⟨b, o, rfl, hb0, h0⟩ := (hrow.below hbr).one hlt
      have hux := Hl.out _ (List.getElem_mem hlt)
      have hk := Hk.out
      rw [List.drop_eq_getElem_cons hlt] at hk
      obtain ⟨x, hx⟩ : ∃ x, l[k] = x := ⟨_, rfl⟩
      rw [hx] at h0 hk hux
      unfold addF at hk
      unfold U64 at hux
      have Hk2 := hid hk
      have Hrow := hid hrow
      have y0 : ∀ W, Below wr.heap.size wr W → W.cell? ⟨b, o + k, none⟩ = some (.int .u64 x) := fun W hW => cell_below hW h0
      have Y0 := hid y0
      clear hx hk hrow Hk y0
      go_wp2_with fail
      clear h0
      have y0 := Y0.out
      go_region_held3 (fun W => Below wr.heap.size wr W) (first | assumption | exact (Below.refl _ _).drew) (first
        | (go_at_call 92; refine (top_c _).mono ?_; rintro e w6 ⟨rfl, hb6⟩; have hS := bthen (w := wr) (by assumption) hb6))
      have hbf := bthen hbr hS
      have h0 := y0 _ hS
      clear y0 hS hb6
      rw [wrap_id (x := 18446744073709551615 - q) (by omega) (by omega)]
      by_cases hs : q + x ≤ 18446744073709551615
      · have hd : decide (18446744073709551615 - q < x) = false := by rw [decide_eq_false_iff_not]; omega
        have Hs : Hid (addF (q + x) (l.drop (k + 1)) = (e0, e1)) := by show _ = _; rw [← Hk2.out, if_pos hs]
        go_wp2
        refine ⟨⟨k + 1, q + x, by omega, by go_num, rfl, by omega, hs, Hs, hbf⟩, by simp [intOf]; omega⟩
      · have hd : decide (18446744073709551615 - q < x) = true := by rw [decide_eq_true_eq]; omega
        have Hs : Hid (((0 : Int), false) = (e0, e1)) := by show _ = _; rw [← Hk2.out, if_neg hs]
        go_wp2
        go_ret2
        have hf := Hs.out
        simp only [Prod.mk.injEq] at hf
        obtain ⟨rfl, rfl⟩ := hf
        exact ⟨rfl, hbf⟩
    · have hke : k = l.length := by omega
      subst hke
      have hk := Hk.out
      rw [List.drop_length] at hk
      unfold addF at hk
      have Hs := hid hk
      clear hk
      go_wp2
      go_ret2
      have hf := Hs.out
      simp only [Prod.mk.injEq] at hf
      obtain ⟨rfl, rfl⟩ := hf
      exact ⟨rfl, hbr⟩

set_option maxHeartbeats 2000000 in
theorem refMul_c (w : World) (a : Option Addr) (cap : Nat) (l : List Int) (hrow : RowAt 1 (fun n => [.int .u64 n]) w a l) (hlen : l.length ≤ 9223372036854775807) (hl : ∀ x ∈ l, U64 x) :
    Calls Try.prog 71 #[.slice a l.length cap] w fun e w' => e = .returned (.tuple #[.int .u64 (mulN l).1, .bool (mulN l).2]) ∧ Below w.heap.size w w' := by
  obtain ⟨e0, e1, hm⟩ : ∃ e0 e1, mulN l = (e0, e1) := ⟨_, _, rfl⟩
  rw [hm]
  unfold mulN at hm
  have Hm := hid hm
  have Hl := hid hl
  clear hm hl
  go_enter Try.func71, Try.ntmps71
  go_wp2
  go_loopw [4] (fun i wr => ∃ (k : Nat), k ≤ l.length ∧ i = .int .i64 k ∧ Hid (∀ j, j < k → l[j]? ≠ some 0) ∧ Below w.heap.size w wr) (fun i _ => l.length - (intOf i).toNat)
  case atStart => exact ⟨0, Nat.zero_le _, rfl, fun j hj => by omega, Below.refl _ _⟩
  case round =>
    obtain ⟨k, hkn, rfl, Hk, hbr⟩ := hrel
    by_cases hlt : k < l.length
    · obtain ⟨b, o, rfl, hb0, h0⟩ := (hrow.below hbr).one hlt
      have hkk : l[k]? = some l[k] := List.getElem?_eq_getElem hlt
      obtain ⟨x, hx⟩ : ∃ x, l[k] = x := ⟨_, rfl⟩
      rw [hx] at h0 hkk
      have Hkk := hid hkk
      have Hrow := hid hrow
      clear hx hkk hrow
      by_cases he : x = 0
      · have hbe : (x == 0) = true := by simpa using he
        have hin : Hid (((0 : Int), true) = (e0, e1)) := by
          show _ = _
          rw [← Hm.out, if_pos (List.mem_of_getElem? (by rw [Hkk.out, he]))]
        clear he
        go_wp2
        go_ret2
        have hf := hin.out
        simp only [Prod.mk.injEq] at hf
        obtain ⟨rfl, rfl⟩ := hf
        exact ⟨rfl, hbr⟩
      · have hbe : (x == 0) = false := by simpa using he
        have hnext : Hid (∀ j, j < k + 1 → l[j]? ≠ some 0) := by
          intro j hj
          rcases Nat.lt_succ_iff_lt_or_eq.1 hj with h | rfl
          · exact Hk.out j h
          · rw [Hkk.out]; intro h; exact he (by simpa using h)
        clear he
        go_wp2
        go_roundw
        case rel => exact ⟨k + 1, by omega, by go_num, hnext, hbr⟩
        case measure => simp [intOf]; omega
    · have hno : (0 : Int) ∉ l := by
        intro hm
        obtain ⟨j, hj, he⟩ := List.getElem_of_mem hm
        exact Hk.out j (by omega) (by rw [List.getElem?_eq_getElem hj, he])
      have hm := Hm.out
      rw [if_neg hno] at hm
      have Hm2 := hid hm
      have Hno := hid hno
      clear hm hno Hm Hk
      go_wp2
      obtain ⟨wt, rfl⟩ : ∃ wt : World, wt = wr := ⟨_, rfl⟩
      go_loopw [5, 6] (fun n i wr => ∃ (k : Nat) (q : Int), k ≤ l.length ∧ i = .int .i64 k ∧ n = .int .u64 q ∧ 0 ≤ q ∧ q ≤ 18446744073709551615 ∧ Hid (mulF q (l.drop k) = (e0, e1)) ∧ Below w.heap.size w wr) (fun _ i _ => l.length - (intOf i).toNat)
      case atStart => exact ⟨0, 1, Nat.zero_le _, rfl, rfl, by omega, by omega, Hm2.out, hbr⟩
      case round =>
        obtain ⟨k, q, hkn, rfl, rfl, hq0, hq1, Hk, hbr⟩ := hrel
        by_cases hlt : k < l.length
        · obtain ⟨b, o, rfl, hb0, h0⟩ := (hrow.below hbr).one hlt
          have hux := Hl.out _ (List.getElem_mem hlt)
          have hk := Hk.out
          rw [List.drop_eq_getElem_cons hlt] at hk
          have hne0 : l[k] ≠ 0 := fun h => Hno.out (by rw [← h]; exact List.getElem_mem hlt)
          obtain ⟨x, hx⟩ : ∃ x, l[k] = x := ⟨_, rfl⟩
          rw [hx] at h0 hk hux hne0
          unfold mulF at hk
          unfold U64 at hux
          have hx0 : 0 < x := by omega
          have hne : ¬ x = 0 := by omega
          have Hk2 := hid hk
          have Hrow := hid hrow
          have hle : Hid (q ≤ 18446744073709551615 / x ↔ q * x ≤ 18446744073709551615) := Int.le_ediv_iff_mul_le hx0
          have hq : U64 (18446744073709551615 / x) := quo_u64 (by unfold U64; omega) hx0
          unfold U64 at hq
          have Hq := hid hq
          have hqx := hid (Int.mul_nonneg hq0 (Int.le_of_lt hx0))
          have Y0 := hid (fun W (hW : Below wr.heap.size wr W) => cell_below hW h0)
          clear hx hk hrow Hk hq hne0
          go_wp2_with fail
          clear h0
          have y0 := Y0.out
          go_region_held3 (fun W => Below wr.heap.size wr W) (first | assumption | exact (Below.refl _ _).drew) (first
            | (go_at_call 92; refine (top_c _).mono ?_; rintro e w6 ⟨rfl, hb6⟩; have hS := bthen (w := wr) (by assumption) hb6))
          have hbf := bthen hbr hS
          have h0 := y0 _ hS
          clear y0 hS hb6
          rw [Int.tdiv_eq_ediv_of_nonneg (by omega), wrap_id (x := 18446744073709551615 / x) Hq.out.1 Hq.out.2]
          obtain ⟨D, hD⟩ : ∃ D, 18446744073709551615 / x = D := ⟨_, rfl⟩
          rw [hD] at hle ⊢
          obtain ⟨M, hM⟩ : ∃ M, q * x = M := ⟨_, rfl⟩
          rw [hM] at hle Hk2 hqx
          have hqx2 := hqx.out
          clear hD
          by_cases hs : M ≤ 18446744073709551615
          · have hqd : q ≤ D := hle.out.2 hs
            have Hs : Hid (mulF M (l.drop (k + 1)) = (e0, e1)) := by show _ = _; rw [← Hk2.out, if_pos hs]
            go_wp2
            refine ⟨⟨k + 1, M, by omega, by go_num, rfl, by omega, hs, Hs, hbf⟩, by simp [intOf]; omega⟩
          · have hqd : D < q := by
              rcases Int.lt_or_le D q with h | h
              · exact h
              · exact absurd (hle.out.1 h) hs
            have Hs : Hid (((0 : Int), false) = (e0, e1)) := by show _ = _; rw [← Hk2.out, if_neg hs]
            go_wp2
            go_ret2
            have hf := Hs.out
            simp only [Prod.mk.injEq] at hf
            obtain ⟨rfl, rfl⟩ := hf
            exact ⟨rfl, hbf⟩
        · have hke : k = l.length := by omega
          subst hke
          have hk := Hk.out
          rw [List.drop_length] at hk
          unfold mulF at hk
          have Hs := hid hk
          clear hk
          go_wp2
          go_ret2
          have hf := Hs.out
          simp only [Prod.mk.injEq] at hf
          obtain ⟨rfl, rfl⟩ := hf
          exact ⟨rfl, hbr⟩
end Go.Proofs.Ytlccbejhamkdoaa
