/- plain laws of chapter 13: a list behind itself, a list reversed -/
import Derived.Test.YtlccbejhamkdoaaRefC
import Derived.Test.YtlccbejhamkdoaaUniqE
import Derived.Test.YtlccbejhamkdoaaMergeB
namespace Go.Proofs.Ytlccbejhamkdoaa

theorem diff_rev {κ : Type} {ks : List κ} (h : Diff ks ks.length) : Diff ks.reverse ks.reverse.length := by
  intro i hi j hj
  rw [List.length_reverse] at hi
  rw [List.getElem?_reverse (by omega), List.getElem?_reverse hi]
  exact fun e => h (ks.length - 1 - j) (by omega) (ks.length - 1 - i) (by omega) e.symm

section
variable {κ : Type} [DecidableEq κ]
theorem fd_neg {ks : List κ} : fd ks ks.length < 0 ↔ Diff ks ks.length := by
  constructor
  · intro h
    rcases fd_tells ks ks.length (Nat.le_refl _) with ⟨_, h2⟩ | ⟨i, h1, _⟩
    · exact h2
    · rw [h1] at h; omega
  · intro h
    rw [fd_no h]; omega
theorem fd_twice {ks : List κ} (h : fd ks ks.length < 0) (hne : ks.length ≠ 0) : fd (ks ++ ks) (ks ++ ks).length = ks.length := by
  have hd := fd_neg.1 h
  refine fd_at (n := ks.length) (j := 0) (by rw [List.length_append]; omega) ?_ (by omega) ?_
  · intro i hi j hj
    rw [List.getElem?_append_left (by omega), List.getElem?_append_left (by omega)]
    exact hd i hi j hj
  · rw [List.getElem?_append_left (by omega), List.getElem?_append_right (Nat.le_refl _), Nat.sub_self]
theorem fd_rev {ks : List κ} : fd ks.reverse ks.reverse.length < 0 ↔ fd ks ks.length < 0 := by
  rw [fd_neg, fd_neg]
  exact ⟨fun h => by simpa using diff_rev h, diff_rev⟩
end

theorem dup2_neg_iff {a b : Int} : dup2 a b < 0 ↔ a < 0 ∧ b < 0 := by
  unfold dup2
  split <;> omega

/-- the fault of n records twice -/
def twF (s : Int) (n : Nat) : Int × Int × Int := if n = 0 then (0, 0, 0) else (18, s, n)
theorem twF_zero {s : Int} {n : Nat} (h : n = 0) : twF s n = (0, 0, 0) := by simp [twF, h]
theorem twF_pos {s : Int} {n : Nat} (h : 0 < n) : twF s n = (18, s, (n : Int)) := by simp [twF, show n ≠ 0 by omega]

theorem tw_one {α κ : Type} [DecidableEq κ] (s : Int) (l : List α) (f : α → κ) (h : fd (l.map f) l.length < 0) : dupFault s (fd ((l ++ l).map f) (l ++ l).length) = twF s l.length := by
  by_cases hn : l.length = 0
  · have : l = [] := List.eq_nil_of_length_eq_zero hn
    subst this
    rfl
  · have h2 := fd_twice (ks := l.map f) (by simpa using h) (by simpa using hn)
    rw [← List.map_append, List.length_map, List.length_map] at h2
    rw [h2, dupFault_pos (by omega), twF_pos (by omega)]
theorem tw_two {α κ κ' : Type} [DecidableEq κ] [DecidableEq κ'] (s : Int) (l : List α) (f : α → κ) (g : α → κ') (h : dup2 (fd (l.map f) l.length) (fd (l.map g) l.length) < 0) :
    dupFault s (dup2 (fd ((l ++ l).map f) (l ++ l).length) (fd ((l ++ l).map g) (l ++ l).length)) = twF s l.length := by
  by_cases hn : l.length = 0
  · have : l = [] := List.eq_nil_of_length_eq_zero hn
    subst this
    rfl
  · have h2 := fd_twice (ks := l.map f) (by simpa using (dup2_neg_iff.1 h).1) (by simpa using hn)
    rw [← List.map_append, List.length_map, List.length_map] at h2
    rw [h2, dup2_pos (by omega), dupFault_pos (by omega), twF_pos (by omega)]
theorem join_two (fr : Int) (c : Cfg) : joinCfg fr [c, c] = { frame := fr, parts := c.parts ++ c.parts, wins := c.wins ++ c.wins, regs := c.regs ++ c.regs, ports := c.ports ++ c.ports, chans := c.chans ++ c.chans } := by
  simp [joinCfg]
theorem join_one (c : Cfg) : joinCfg c.frame [c] = c := by
  simp [joinCfg]
end Go.Proofs.Ytlccbejhamkdoaa
