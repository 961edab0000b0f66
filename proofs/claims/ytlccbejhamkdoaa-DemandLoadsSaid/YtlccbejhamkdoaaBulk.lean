/- what the bound on the bulk of an argument gives -/
import Derived.Test.YtlccbejhamkdoaaRows
import Derived.Test.YtlccbejhamkdoaaOpen
namespace Go.Proofs.Ytlccbejhamkdoaa

section
variable {H : Type}
theorem bulk_one (d : DataW H) : 1 ≤ Rows.uptoBulk d := by
  cases d with
  | lit l => cases l <;> simp [Rows.uptoBulk]
  | _ => simp [Rows.uptoBulk]
theorem uptoBulkAll_mem {l : List (DataW H)} {d : DataW H} {n : Nat} (hd : d ∈ l) (h : Rows.uptoBulkAll l ≤ n) : Rows.uptoBulk d ≤ n := by
  induction l with
  | nil => cases hd
  | cons x r ih =>
    simp only [Rows.uptoBulkAll] at h
    rcases List.mem_cons.1 hd with rfl | hm
    · omega
    · exact ih hm (by omega)
theorem bound_of {l : List (DataW H)} (hk : Rows.uptoSmall H l = true) : Rows.uptoBulkAll l ≤ 1048576 := by
  have h := of_decide_eq_true hk
  exact h
theorem bulk_len (l : List (DataW H)) : l.length ≤ Rows.uptoBulkAll l := by
  induction l with
  | nil => simp [Rows.uptoBulkAll]
  | cons x r ih => have := bulk_one x; simp only [Rows.uptoBulkAll, List.length_cons]; omega
theorem SecD.bulk {d : DataW H} {n : Nat} {Q : Nat → DataW H → Prop} (h : SecD d n Q) : n + 1 ≤ Rows.uptoBulk d := by
  rcases h with ⟨rfl, rfl⟩ | ⟨D, sp, rfl, _⟩
  · simp [Rows.uptoBulk]
  · have := bulk_len ((List.range n).map D)
    simp only [Rows.uptoBulk]
    simp at this
    omega

/-- all that a configuration holds is few -/
structure Small (c : Cfg) : Prop where
  sum : c.parts.length + c.wins.length + c.regs.length + c.ports.length + c.chans.length + (c.chans.map (fun x => x.dests.length)).sum ≤ 1048576

theorem bulk_links {D : Nat → DataW H} {l : List Chn} : ∀ n, n ≤ l.length → (∀ i, i < n → ∃ e0 e1 e2, D i = .agg [e0, e1, e2] ∧ SecD e2 (l[i]?.getD default).dests.length (fun _ _ => True)) →
    n + ((l.take n).map (fun x => x.dests.length)).sum ≤ Rows.uptoBulkAll ((List.range n).map D)
  | 0, _, _ => by simp
  | n + 1, hn, h => by
    have ih := bulk_links n (by omega) (fun i hi => h i (by omega))
    obtain ⟨e0, e1, e2, he, hs⟩ := h n (by omega)
    have hx : l[n]? = some l[n] := List.getElem?_eq_getElem (by omega)
    rw [hx] at hs
    have hb := hs.bulk
    simp only [Option.getD_some] at hb
    have happ : ∀ a b : List (DataW H), Rows.uptoBulkAll (a ++ b) = Rows.uptoBulkAll a + Rows.uptoBulkAll b := by
      intro a b
      induction a with
      | nil => simp [Rows.uptoBulkAll]
      | cons x r ih => simp only [List.cons_append, Rows.uptoBulkAll, ih]; omega
    rw [List.range_succ, List.map_append, happ, List.take_succ_eq_append_getElem (by omega), List.map_append, List.sum_append]
    have h0 := bulk_one e0
    have h1 := bulk_one e1
    simp only [List.map_cons, List.map_nil, List.sum_cons, List.sum_nil, Rows.uptoBulkAll, he, Rows.uptoBulk]
    omega

theorem bulk_cfg {d : DataW H} {c : Cfg} (h : CfgD d c) (hb : Rows.uptoBulk d ≤ 1048576) : Small c := by
  obtain ⟨d0, d1, d2, d3, d4, d5, rfl, s1, s2, s3, s4, s5⟩ := h
  have b0 := bulk_one d0
  have b1 := s1.bulk
  have b2 := s2.bulk
  have b3 := s3.bulk
  have b4 := s4.bulk
  have b5 : c.chans.length + (c.chans.map (fun x => x.dests.length)).sum ≤ Rows.uptoBulk d5 := by
    rcases s5 with ⟨rfl, h0⟩ | ⟨D, sp, rfl, hi⟩
    · have : c.chans = [] := List.eq_nil_of_length_eq_zero h0
      simp [this]
    · have := bulk_links c.chans.length (Nat.le_refl _) hi
      rw [List.take_length] at this
      simp only [Rows.uptoBulk]
      omega
  simp only [Rows.uptoBulk, Rows.uptoBulkAll] at hb
  exact ⟨by omega⟩
end
end Go.Proofs.Ytlccbejhamkdoaa
