/-
  What is asked of keys: the first place of a key, and the first key that occurs before. Plain Lean.
-/
import Derived.Test.YtlccbejhamkdoaaMaps
namespace Go.Proofs.Ytlccbejhamkdoaa

section
variable {κ : Type}
/-- all keys are different below n -/
def Diff (ks : List κ) (n : Nat) : Prop := ∀ i, i < n → ∀ j, j < i → ks[j]? ≠ ks[i]?
theorem Diff.zero (ks : List κ) : Diff ks 0 := fun i hi => by omega
theorem Diff.succ {ks : List κ} {n : Nat} (h : Diff ks n) (hn : ∀ j, j < n → ks[j]? ≠ ks[n]?) : Diff ks (n + 1) := by
  intro i hi j hj
  rcases Nat.lt_succ_iff_lt_or_eq.1 hi with h' | rfl
  · exact h i h' j hj
  · exact hn j hj
theorem Diff.of_succ {ks : List κ} {n : Nat} (h : Diff ks (n + 1)) : Diff ks n := fun i hi j hj => h i (by omega) j hj

end

section
variable {κ : Type} [DecidableEq κ]

/-- the first place of a key, or -1 -/
def ixOf (ks : List κ) (k : κ) : Int := match ks.findIdx? (fun x => decide (x = k)) with
  | some i => i
  | none => -1

theorem ixOf_at {ks : List κ} {k : κ} {n : Nat} (h : ks[n]? = some k) (hb : ∀ j, j < n → ks[j]? ≠ some k) : ixOf ks k = n := by
  have hn : n < ks.length := (List.getElem?_eq_some_iff.1 h).1
  have : ks.findIdx? (fun x => decide (x = k)) = some n := by
    rw [List.findIdx?_eq_some_iff_getElem]
    refine ⟨hn, by simpa using (List.getElem?_eq_some_iff.1 h).2, fun j hj => ?_⟩
    have := hb j hj
    rw [List.getElem?_eq_getElem (by omega)] at this
    simpa using this
  simp [ixOf, this]
theorem ixOf_no {ks : List κ} {k : κ} (h : ∀ j, j < ks.length → ks[j]? ≠ some k) : ixOf ks k = -1 := by
  have : ks.findIdx? (fun x => decide (x = k)) = none := by
    rw [List.findIdx?_eq_none_iff]
    intro x hx
    obtain ⟨j, hj, rfl⟩ := List.getElem_of_mem hx
    have := h j hj
    rw [List.getElem?_eq_getElem hj] at this
    simpa using this
  simp [ixOf, this]
/-- a key is nowhere, or at its first place -/
theorem ixOf_cases (ks : List κ) (k : κ) : (ixOf ks k = -1 ∧ k ∉ ks) ∨ ∃ n : Nat, ixOf ks k = n ∧ ks[n]? = some k ∧ ∀ j, j < n → ks[j]? ≠ some k := by
  cases h : ks.findIdx? (fun x => decide (x = k)) with
  | none =>
    refine .inl ⟨by simp [ixOf, h], fun hm => ?_⟩
    rw [List.findIdx?_eq_none_iff] at h
    simpa using h k hm
  | some n =>
    refine .inr ⟨n, by simp [ixOf, h], ?_⟩
    rw [List.findIdx?_eq_some_iff_getElem] at h
    obtain ⟨hn, h1, h2⟩ := h
    refine ⟨by rw [List.getElem?_eq_getElem hn]; simpa using h1, fun j hj => ?_⟩
    have := h2 j hj
    rw [List.getElem?_eq_getElem (by omega)]
    simpa using this
theorem ixOf_range (ks : List κ) (k : κ) : -1 ≤ ixOf ks k ∧ ixOf ks k < ks.length := by
  rcases ixOf_cases ks k with ⟨h, _⟩ | ⟨n, h, h1, _⟩
  · rw [h]; omega
  · have := (List.getElem?_eq_some_iff.1 h1).1
    rw [h]; omega

theorem fm_tells (ks : List κ) (k : κ) : ∀ n, n ≤ ks.length → (look k (fm ks n) = none ∧ ∀ j, j < n → ks[j]? ≠ some k) ∨ (∃ i : Nat, look k (fm ks n) = some (i : Int) ∧ i < n ∧ ks[i]? = some k ∧ ∀ j, j < i → ks[j]? ≠ some k)
  | 0, _ => .inl ⟨rfl, fun j hj => by omega⟩
  | n + 1, hn => by
    have hx : ks[n]? = some ks[n] := List.getElem?_eq_getElem (by omega)
    rw [fm_succ hx]
    rcases fm_tells ks k n (by omega) with ⟨h1, h2⟩ | ⟨i, h1, h2, h3, h4⟩
    · by_cases hk : ks[n] = k
      · refine .inr ⟨n, ?_, by omega, by rw [hx, hk], h2⟩
        rw [hk, addKey_none h1, look_append, h1]
        simp [Option.orElse, look]
      · refine .inl ⟨?_, fun j hj => ?_⟩
        · unfold addKey
          split
          · rw [look_append, h1]
            have hk' : ¬ k = ks[n] := fun h => hk h.symm
            simp [Option.orElse, look, hk']
          · exact h1
        · rcases Nat.lt_succ_iff_lt_or_eq.1 hj with h | rfl
          · exact h2 j h
          · rw [hx]; simpa using hk
    · refine .inr ⟨i, ?_, by omega, h3, h4⟩
      unfold addKey
      split
      · rw [look_append, h1]; rfl
      · exact h1
theorem look_fm (ks : List κ) (k : κ) {n : Nat} (hn : n = ks.length) : (look k (fm ks n)).getD (-1) = ixOf ks k := by
  rcases fm_tells ks k n (by omega) with ⟨h1, h2⟩ | ⟨i, h1, h2, h3, h4⟩
  · rw [h1, ixOf_no (by rw [← hn]; exact h2)]; rfl
  · rw [h1, ixOf_at h3 h4]; rfl

theorem fd_tells (ks : List κ) : ∀ n, n ≤ ks.length → (fd ks n = -1 ∧ Diff ks n) ∨ (∃ i : Nat, fd ks n = i ∧ i < n ∧ Diff ks i ∧ ∃ j, j < i ∧ ks[j]? = ks[i]?)
  | 0, _ => .inl ⟨rfl, Diff.zero _⟩
  | n + 1, hn => by
    have hx : ks[n]? = some ks[n] := List.getElem?_eq_getElem (by omega)
    rcases fd_tells ks n (by omega) with ⟨h1, h2⟩ | ⟨i, h1, h2, h3, h4⟩
    · rcases fm_tells ks ks[n] n (by omega) with ⟨g1, g2⟩ | ⟨i, g1, g2, g3, g4⟩
      · exact .inl ⟨by rw [fd_succ_new hx g1, h1], h2.succ (by rw [hx]; exact g2)⟩
      · exact .inr ⟨n, fd_succ_first hx g1 (by omega), by omega, h2, i, g2, by rw [hx, g3]⟩
    · exact .inr ⟨i, by rw [fd_succ_old hx (by omega), h1], by omega, h3, h4⟩
theorem fd_at {ks : List κ} {n : Nat} (hn : n < ks.length) (hd : Diff ks n) {j : Nat} (hj : j < n) (he : ks[j]? = ks[n]?) : fd ks ks.length = n := by
  rcases fd_tells ks ks.length (Nat.le_refl _) with ⟨_, h2⟩ | ⟨i, h1, h2, h3, j', h4, h5⟩
  · exact absurd he (h2 n hn j hj)
  · rw [h1]
    have : i = n := by
      rcases Nat.lt_trichotomy i n with h | h | h
      · exact absurd h5 (hd i h j' h4)
      · exact h
      · exact absurd he (h3 n h j hj)
    rw [this]
theorem fd_no {ks : List κ} (hd : Diff ks ks.length) : fd ks ks.length = -1 := by
  rcases fd_tells ks ks.length (Nat.le_refl _) with ⟨h, _⟩ | ⟨i, _, h2, _, j, h4, h5⟩
  · exact h
  · exact absurd h5 (hd i h2 j h4)
end
end Go.Proofs.Ytlccbejhamkdoaa
