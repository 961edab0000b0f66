/- the reference's checks of keys (fenestraref13) -/
import Derived.Test.YtlccbejhamkdoaaRefA
import Derived.Deep.QuietTactic
import Derived.BigQuiet
namespace Go.Proofs.Ytlccbejhamkdoaa
open Go.RowKit

set_option maxHeartbeats 400000 in
theorem refRepeated_c (w : World) (a : Option Addr) (cap : Nat) (l : List Int) (hrow : RowAt 1 (fun n => [.int .u16 n]) w a l) (hlen : l.length ≤ 140737488351232) :
    Calls Try.prog 47 #[.slice a l.length cap] w fun e w' => e = .returned (.int .i64 (fd l l.length)) ∧ Below w.heap.size w w' := by
  go_enter Try.func47, Try.ntmps47
  go_wp2
  go_loopw [3] (fun i wr => ∃ k : Nat, k ≤ l.length ∧ i = .int .i64 k ∧ Hid (Diff l k) ∧ Below w.heap.size w wr) (fun i _ => l.length - (intOf i).toNat)
  case atStart => exact ⟨0, Nat.zero_le _, rfl, Diff.zero _, Below.refl _ _⟩
  case round =>
    obtain ⟨k, hkn, rfl, Hk, hb1⟩ := hrel
    obtain ⟨wo, rfl⟩ : ∃ wo : World, wo = wr := ⟨_, rfl⟩
    by_cases hlt : k < l.length
    · go_wp2
      go_loopw [4] (fun t wr => ∃ j : Nat, j ≤ k ∧ t = .int .i64 j ∧ Hid (∀ j', j' < j → l[j']? ≠ l[k]?) ∧ Below w.heap.size w wr) (fun t _ => k - (intOf t).toNat)
      case atStart => exact ⟨0, Nat.zero_le _, rfl, fun j hj => by omega, hb1⟩
      case round =>
        obtain ⟨j, hjk, rfl, Hj, hb2⟩ := hrel
        by_cases hjl : j < k
        · have hr2 := hrow.below hb2
          obtain ⟨b, o, rfl, hbs, h0⟩ := RowAt.one (enc := fun n => Value.int .u16 n) hr2 (k := k) hlt
          obtain ⟨b', o', hbo, hbs', h1⟩ := RowAt.one (enc := fun n => Value.int .u16 n) hr2 (k := j) (by omega)
          simp only [Option.some.injEq, Addr.mk.injEq, and_true] at hbo
          obtain ⟨rfl, rfl⟩ := hbo
          clear hrow hr2 hbs'
          have hlj : j < l.length := by omega
          by_cases he : l[j] = l[k]
          · have hbe : (l[j] == l[k]) = true := by simpa using he
            have hfin : Hid (fd l l.length = k) := fd_at hlt Hk.out hjl (by simp [hlt, hlj, he])
            clear he
            go_wp2
            go_quiet (fail)
            go_wp2
            go_ret
            exact ⟨ret_int hfin.out.symm, bdrewN hb2 _⟩
          · have hbe : (l[j] == l[k]) = false := by simpa using he
            have hnext : Hid (∀ j', j' < j + 1 → l[j']? ≠ l[k]?) := by
              intro j' hj'
              rcases Nat.lt_succ_iff_lt_or_eq.1 hj' with h | rfl
              · exact Hj.out j' h
              · simpa [hlt, hlj] using he
            clear he
            go_wp2
            go_quiet (fail)
            go_wp2
            go_roundw
            case rel => exact ⟨j + 1, by omega, by go_num, hnext, bdrewN hb2 _⟩
            case measure => simp [intOf]; omega
        · have hd : Hid (Diff l (k + 1)) := Hk.out.succ (fun j' hj' => Hj.out j' (by omega))
          go_wp2
          go_roundw
          case rel => exact ⟨k + 1, by omega, by go_num, hd, hb2⟩
          case measure => simp [intOf]; omega
    · have hke : k = l.length := by omega
      have hfin : Hid (fd l l.length = -1) := fd_no (by rw [← hke]; exact Hk.out)
      clear hke
      go_wp2
      go_ret
      exact ⟨ret_int hfin.out.symm, hb1⟩
end Go.Proofs.Ytlccbejhamkdoaa
