/- num.Mul at two numbers; the ticks that a partition demands; the ticks that it does not demand -/
import Derived.Test.YtlccbejhamkdoaaBusy16
import Derived.Test.YtlccbejhamkdoaaShelfMul
import Derived.Test.YtlccbejhamkdoaaAlive16
namespace Go.Proofs.Ytlccbejhamkdoaa
open Go.RowKit

theorem wrap_id {x : Int} (h0 : 0 ≤ x) (h1 : x ≤ 18446744073709551615) : IntKind.u64.wrap x = x := by
  simp [IntKind.wrap, IntKind.bits, IntKind.signed]; omega
theorem sumW_exact : ∀ (ys : List (Int × Int)) (s : Int), 0 ≤ s → (∀ y ∈ ys, 0 ≤ y.2 - y.1) → s + (ys.map fun y => y.2 - y.1).sum ≤ 18446744073709551615 →
    ys.foldl (fun s y => IntKind.u64.wrap (s + IntKind.u64.wrap (y.2 - y.1))) s = s + (ys.map fun y => y.2 - y.1).sum
  | [], s, _, _, _ => by simp
  | y :: ys, s, h0, h1, h2 => by
    have hy := h1 y (by simp)
    have hrest : 0 ≤ (ys.map fun y => y.2 - y.1).sum := by
      have : ∀ l : List (Int × Int), (∀ y ∈ l, 0 ≤ y.2 - y.1) → 0 ≤ (l.map fun y => y.2 - y.1).sum := by
        intro l
        induction l with
        | nil => intro _; simp
        | cons z l ih => intro h; rw [List.map_cons, List.sum_cons]; have := h z (by simp); have := ih (fun y hy => h y (List.mem_cons_of_mem _ hy)); omega
      exact this ys (fun z hz => h1 z (List.mem_cons_of_mem _ hz))
    rw [List.map_cons, List.sum_cons] at h2 ⊢
    rw [List.foldl_cons, wrap_id hy (by omega), wrap_id (x := s + (y.2 - y.1)) (by omega) (by omega), sumW_exact ys _ (by omega) (fun z hz => h1 z (List.mem_cons_of_mem _ hz)) (by omega)]
    omega
theorem spans_sum {F : Int} {id : Int} : ∀ {l : List Win}, (∀ x ∈ l, 0 ≤ x.start ∧ 0 < x.len ∧ x.start + x.len ≤ F) → ((spansOf l id).map fun y => y.2 - y.1).sum = usedP l id 0 F
  | [], _ => rfl
  | x :: l, h => by
    have hx := h x (by simp)
    have ih := spans_sum (F := F) (id := id) (l := l) (fun z hz => h z (List.mem_cons_of_mem _ hz))
    rw [usedP_cons, ← ih]
    unfold term
    by_cases hp : x.part = id
    · rw [spansOf_yes hp, if_pos hp, List.map_cons, List.sum_cons]
      unfold ovl
      split <;> simp only <;> omega
    · rw [spansOf_no hp, if_neg hp]; omega
theorem RightW.busy {c : Cfg} (h : RightW c) (hok : U64 c.frame) (id : Int) : sumW (spansOf c.wins id) = usedP c.wins id 0 c.frame := by
  have h1 := spans_sum (id := id) h.apart.each
  have h2 := h.apart.used_le id (Int.le_refl 0) (Int.le_of_lt h.pos)
  unfold U64 at hok
  unfold sumW
  rw [sumW_exact _ 0 (Int.le_refl _) ?_ (by rw [h1]; omega), h1]
  · omega
  · intro y hy
    obtain ⟨x, hx, rfl⟩ := List.mem_map.1 hy
    have := h.apart.each x (List.mem_filter.1 hx).1
    simp only
    omega

theorem busy_c (w : World) (c : Cfg) (A : Adr) (hc : CfgAt w c A) (hR : RightW c) (id : Int) :
    Calls Try.prog 31 #[cfgVal c A, .int .u16 id] w fun e w' => e = .returned (.int .u64 (usedP c.wins id 0 c.frame)) ∧ Below w.heap.size w w' := by
  have hok := hc.ok.frame
  have := busyW_c w c A hc id (fun x hx => by have := hR.apart.each x hx; unfold U64 at hok; omega)
  rwa [hR.busy hok id] at this
theorem refBusy_c (w : World) (c : Cfg) (A : Adr) (hc : CfgAt w c A) (hR : RightW c) (id : Int) (hid' : U16 id) :
    Calls Try.prog 30 #[cfgVal c A, .int .u16 id] w fun e w' => e = .returned (.int .u64 (usedP c.wins id 0 c.frame)) ∧ Below w.heap.size w w' := by
  have hok := hc.ok.frame
  unfold U64 at hok
  have hcall := hid (refUsed_c (w.alloc (.cells (cfgCells c A) 29)) c A (hc.below (below_new _ _)) hR.apart id 0 c.frame hid' (Int.le_refl _) (Int.le_of_lt hR.pos) hok.2)
  obtain ⟨a1, k1, a2, k2, a3, k3, a4, k4, a5, k5⟩ := A
  simp only [cfgVal, cfgCells] at hcall ⊢
  clear hc
  go_enter Try.func30, Try.ntmps30
  go_wp2_with fail
  refine hcall.out.mono ?_
  rintro e w2 ⟨rfl, hb2⟩
  have hbf := bthen (below_new w _) hb2
  clear hb2 hcall
  go_wp2
  go_ret
  exact ⟨rfl, hbf⟩

/-! ### num.Mul -/
theorem times_c (w : World) (x y : Int) (hx : U64 x) (hy : U64 y) :
    Calls Try.prog 104 #[.int .u64 x, .int .u64 y] w fun e w' => (x * y ≤ 18446744073709551615 → e = .returned (.tuple #[.int .u64 (x * y), .bool true])) ∧ (¬ x * y ≤ 18446744073709551615 → ∃ n : Int, e = .returned (.tuple #[.int .u64 n, .bool false])) ∧ w' = w := by
  unfold U64 at hx hy
  obtain ⟨a, rfl⟩ : ∃ a : Nat, x = a := ⟨x.toNat, by omega⟩
  obtain ⟨b, rfl⟩ : ∃ b : Nat, y = b := ⟨y.toNat, by omega⟩
  have hcall := hid (fun w => Try.bits_Mul64 a b (by omega) (by omega) w)
  have hmul : (a : Int) * (b : Int) = ((a * b : Nat) : Int) := by simp
  rw [hmul]
  obtain ⟨M, hM⟩ : ∃ M, a * b = M := ⟨_, rfl⟩
  rw [hM] at hcall ⊢
  clear hM hmul
  go_enter Try.func104, Try.ntmps104
  go_wp2_with fail
  refine (hcall.out _).mono ?_
  rintro e w2 ⟨rfl, rfl⟩
  obtain ⟨hi, hhi⟩ : ∃ hi, M / 18446744073709551616 = hi := ⟨_, rfl⟩
  obtain ⟨lo, hlo⟩ : ∃ lo, M % 18446744073709551616 = lo := ⟨_, rfl⟩
  rw [hhi, hlo]
  by_cases hs : M ≤ 18446744073709551615
  · have h1 : hi = 0 := by omega
    have h2 : lo = M := by omega
    subst h1 h2
    clear hhi hlo hcall
    go_wp2
    go_ret2
    exact ⟨fun _ => rfl, fun h => False.elim (by omega), rfl⟩
  · have h1 : ((hi : Int) == 0) = false := by rw [beq_eq_false_iff_ne]; omega
    have Hs := hid hs
    clear hhi hcall hs
    go_wp2
    go_ret2
    exact ⟨fun h => absurd (by omega) Hs.out, fun _ => ⟨_, rfl⟩, rfl⟩

def mulF : Int → List Int → Int × Bool
  | n, [] => (n, true)
  | n, x :: l => if n * x ≤ 18446744073709551615 then mulF (n * x) l else (0, false)

theorem index64_c (w : World) (a : Option Addr) (cap : Nat) (l : List Int) (v : Int) (hrow : RowAt 1 (fun n => [.int .u64 n]) w a l) (hlen : l.length ≤ 9223372036854775807) :
    Calls Try.prog 117 #[.slice a l.length cap, .int .u64 v] w fun e w' => (∃ r : Int, e = .returned (.int .i64 r) ∧ decide (0 ≤ r) = decide (v ∈ l)) ∧ Below w.heap.size w w' := by
  go_enter Try.func117, Try.ntmps117
  go_wp2
  go_loopw [8] (fun i wr => ∃ k : Nat, k ≤ l.length ∧ i = .int .i64 k ∧ Hid (∀ j, j < k → l[j]? ≠ some v) ∧ Below w.heap.size w wr) (fun i _ => l.length - (intOf i).toNat)
  case atStart => exact ⟨0, Nat.zero_le _, rfl, fun j hj => by omega, Below.refl _ _⟩
  case round =>
    obtain ⟨k, hkn, rfl, Hk, hbr⟩ := hrel
    by_cases hlt : k < l.length
    · obtain ⟨b, o, rfl, hb0, h0⟩ := (hrow.below hbr).one hlt
      have hkk : l[k]? = some l[k] := List.getElem?_eq_getElem hlt
      obtain ⟨x, hx⟩ : ∃ x, l[k] = x := ⟨_, rfl⟩
      rw [hx] at h0 hkk
      have Hkk := hid hkk
      have Hrow := hid hrow
      clear hx hkk hrow
      by_cases he : v = x
      · have hbe : (v == x) = true := by simpa using he
        have hin : Hid (v ∈ l) := by rw [he]; exact List.mem_of_getElem? Hkk.out
        clear he
        go_wp2
        go_ret
        exact ⟨⟨_, rfl, by rw [decide_eq_true hin.out]; simp⟩, hbr⟩
      · have hbe : (v == x) = false := by simpa using he
        have hnext : Hid (∀ j, j < k + 1 → l[j]? ≠ some v) := by
          intro j hj
          rcases Nat.lt_succ_iff_lt_or_eq.1 hj with h | rfl
          · exact Hk.out j h
          · rw [Hkk.out]; intro h; exact he (by simpa using h.symm)
        clear he
        go_wp2
        go_roundw
        case rel => exact ⟨k + 1, by omega, by go_num, hnext, hbr⟩
        case measure => simp [intOf]; omega
    · have hno : Hid (v ∉ l) := by
        intro hm
        obtain ⟨j, hj, he⟩ := List.getElem_of_mem hm
        exact Hk.out j (by omega) (by rw [List.getElem?_eq_getElem hj, he])
      go_wp2
      go_ret
      exact ⟨⟨_, rfl, by rw [decide_eq_false hno.out]; rfl⟩, hbr⟩

theorem contains64_c (w : World) (a : Option Addr) (cap : Nat) (l : List Int) (v : Int) (hrow : RowAt 1 (fun n => [.int .u64 n]) w a l) (hlen : l.length ≤ 9223372036854775807) :
    Calls Try.prog 103 #[.slice a l.length cap, .int .u64 v] w fun e w' => e = .returned (.bool (decide (v ∈ l))) ∧ Below w.heap.size w w' := by
  obtain ⟨r0, hr0⟩ : ∃ r0, decide (v ∈ l) = r0 := ⟨_, rfl⟩
  have hcall := hid (index64_c w a cap l v hrow hlen)
  rw [hr0] at hcall ⊢
  clear hrow hr0
  go_enter Try.func103, Try.ntmps103
  go_wp2_with fail
  refine hcall.out.mono ?_
  rintro e w2 ⟨⟨r, rfl, hr⟩, hb2⟩
  have Hr := hid hr
  clear hr hcall
  go_wp2
  go_ret
  exact ⟨ret_bool Hr.out, hb2⟩

set_option maxHeartbeats 1000000 in
theorem foldMul_c (w : World) (a : Option Addr) (cap : Nat) (l : List Int) (hrow : RowAt 1 (fun n => [.int .u64 n]) w a l) (hlen : l.length ≤ 9223372036854775807) (hl : ∀ x ∈ l, U64 x) :
    Calls Try.prog 90 #[.int .u64 1, .func (.func 104) #[] #[], .slice a l.length cap] w fun e w' => e = .returned (.tuple #[.int .u64 (mulF 1 l).1, .bool (mulF 1 l).2]) ∧ Below w.heap.size w w' := by
  obtain ⟨e0, e1, hm⟩ : ∃ e0 e1, mulF 1 l = (e0, e1) := ⟨_, _, rfl⟩
  rw [hm]
  have Hm := hid hm
  have Hl := hid hl
  clear hm hl
  go_enter Try.func90, Try.ntmps90
  go_wp2
  go_loopw [8, 9, 15] (fun n ok i wr => ∃ (k : Nat) (q : Int), k ≤ l.length ∧ i = .int .i64 k ∧ n = .int .u64 q ∧ ok = .bool true ∧ 0 ≤ q ∧ q ≤ 18446744073709551615 ∧ Hid (mulF q (l.drop k) = (e0, e1)) ∧ Below w.heap.size w wr) (fun _ _ i _ => l.length - (intOf i).toNat)
  case atStart => exact ⟨0, 1, Nat.zero_le _, rfl, rfl, rfl, by omega, by omega, Hm.out, Below.refl _ _⟩
  case round =>
    obtain ⟨k, q, hkn, rfl, rfl, rfl, hq0, hq1, Hk, hbr⟩ := hrel
    by_cases hlt : k < l.length
    · obtain ⟨b, o, rfl, hb0, h0⟩ := (hrow.below hbr).one hlt
      have hux := Hl.out _ (List.getElem_mem hlt)
      have hk := Hk.out
      rw [List.drop_eq_getElem_cons hlt] at hk
      obtain ⟨x, hx⟩ : ∃ x, l[k] = x := ⟨_, rfl⟩
      rw [hx] at h0 hk hux
      unfold mulF at hk
      have Hk2 := hid hk
      have Hrow := hid hrow
      have Hux := hid hux
      clear hx hk hrow Hk hux
      go_wp2_with fail
      refine (times_c wr q x ⟨hq0, hq1⟩ Hux.out).mono ?_
      rintro e w2 ⟨hy, hn, rfl⟩
      by_cases hs : q * x ≤ 18446744073709551615
      · have he := hy hs
        subst he
        have Hs : Hid (mulF (q * x) (l.drop (k + 1)) = (e0, e1)) := by show _ = _; rw [← Hk2.out, if_pos hs]
        have hp0 : 0 ≤ q * x := Int.mul_nonneg hq0 Hux.out.1
        obtain ⟨q', hq'⟩ : ∃ q', q * x = q' := ⟨_, rfl⟩
        rw [hq'] at Hs hs hp0 ⊢
        clear hy hn hq'
        go_wp2
        go_roundw
        case rel => exact ⟨k + 1, q', by omega, by go_num, rfl, rfl, hp0, hs, Hs, hbr⟩
        case measure => simp [intOf]; omega
      · obtain ⟨n, he⟩ := hn hs
        subst he
        have Hs : Hid (((0 : Int), false) = (e0, e1)) := by show _ = _; rw [← Hk2.out, if_neg hs]
        clear hy hn hs
        go_wp2
        go_ret2
        have hf := Hs.out
        simp only [Prod.mk.injEq] at hf
        obtain ⟨rfl, rfl⟩ := hf
        exact ⟨rfl, hbr⟩
    · have hke : k = l.length := by omega
      subst hke
      have hk := Hk.out
      rw [List.drop_length] at hk
      unfold mulF at hk
      have Hs := hid hk
      clear hk
      go_wp2
      go_ret2
      have hf := Hs.out
      simp only [Prod.mk.injEq] at hf
      obtain ⟨rfl, rfl⟩ := hf
      exact ⟨rfl, hbr⟩

/-- what num.Mul returns -/
def mulN (l : List Int) : Int × Bool := if 0 ∈ l then (0, true) else mulF 1 l
theorem mulNum_c (w : World) (a : Option Addr) (cap : Nat) (l : List Int) (hrow : RowAt 1 (fun n => [.int .u64 n]) w a l) (hlen : l.length ≤ 9223372036854775807) (hl : ∀ x ∈ l, U64 x) :
    Calls Try.prog 88 #[.slice a l.length cap] w fun e w' => e = .returned (.tuple #[.int .u64 (mulN l).1, .bool (mulN l).2]) ∧ Below w.heap.size w w' := by
  obtain ⟨e0, e1, hm⟩ : ∃ e0 e1, mulN l = (e0, e1) := ⟨_, _, rfl⟩
  rw [hm]
  unfold mulN at hm
  have hcall := hid (contains64_c w a cap l 0 hrow hlen)
  have hfold := hid (fun W (hb : Below w.heap.size w W) => foldMul_c W a cap l (hrow.below hb) hlen hl)
  clear hrow hl
  by_cases h0 : (0 : Int) ∈ l
  · rw [if_pos h0] at hm
    rw [decide_eq_true h0] at hcall
    have Hm := hid hm
    clear hm h0
    go_enter Try.func88, Try.ntmps88
    go_wp2_with fail
    refine hcall.out.mono ?_
    rintro e w2 ⟨rfl, hb2⟩
    go_wp2
    go_ret2
    have hf := Hm.out
    simp only [Prod.mk.injEq] at hf
    obtain ⟨rfl, rfl⟩ := hf
    exact ⟨rfl, hb2⟩
  · rw [if_neg h0] at hm
    rw [decide_eq_false h0] at hcall
    rw [hm] at hfold
    clear hm h0
    go_enter Try.func88, Try.ntmps88
    go_wp2_with fail
    refine hcall.out.mono ?_
    rintro e w2 ⟨rfl, hb2⟩
    go_wp2_with fail
    refine (hfold.out w2 hb2).mono ?_
    rintro e w3 ⟨rfl, hb3⟩
    have hbf := bthen hb2 hb3
    clear hb2 hb3 hfold hcall
    go_wp2
    go_ret2
    exact ⟨rfl, hbf⟩
end Go.Proofs.Ytlccbejhamkdoaa
