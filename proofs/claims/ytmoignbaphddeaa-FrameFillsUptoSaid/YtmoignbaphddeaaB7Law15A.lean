/-
  what the bound on the bulk of an argument gives
  the guards of layer 15; the walk of FrameChecks
-/
import Derived.Test.YtmoignbaphddeaaRows
import Derived.Test.YtmoignbaphddeaaB6Law15A
set_option linter.unusedVariables false
namespace Go.Proofs.Ytmoignbaphddeaa

section
variable {H : Type}
theorem bulk_one (d : DataW H) : 1 ≤ Rows.uptoBulk d := by
  cases d with
  | lit l => cases l <;> simp [Rows.uptoBulk]
  | _ => simp [Rows.uptoBulk]
theorem uptoBulkAll_mem {l : List (DataW H)} {d : DataW H} {n : Nat} (hd : d ∈ l) (h : Rows.uptoBulkAll l ≤ n) : Rows.uptoBulk d ≤ n := by
  induction l with
  | nil => cases hd
  | cons x r ih =>
    simp only [Rows.uptoBulkAll] at h
    rcases List.mem_cons.1 hd with rfl | hm
    · omega
    · exact ih hm (by omega)
theorem bound_of {l : List (DataW H)} (hk : Rows.uptoSmall H l = true) : Rows.uptoBulkAll l ≤ 1048576 := by
  have h := of_decide_eq_true hk
  exact h
theorem bulk_len (l : List (DataW H)) : l.length ≤ Rows.uptoBulkAll l := by
  induction l with
  | nil => simp [Rows.uptoBulkAll]
  | cons x r ih => have := bulk_one x; simp only [Rows.uptoBulkAll, List.length_cons]; omega
theorem SecD.bulk {d : DataW H} {n : Nat} {Q : Nat → DataW H → Prop} (h : SecD d n Q) : n + 1 ≤ Rows.uptoBulk d := by
  rcases h with ⟨rfl, rfl⟩ | ⟨D, sp, rfl, _⟩
  · simp [Rows.uptoBulk]
  · have := bulk_len ((List.range n).map D)
    simp only [Rows.uptoBulk]
    simp at this
    omega

/-- all that a configuration holds is few -/
structure Small (c : Cfg) : Prop where
  sum : c.parts.length + c.wins.length + c.regs.length + c.ports.length + c.chans.length + (c.chans.map (fun x => x.dests.length)).sum ≤ 1048576

theorem bulk_links {D : Nat → DataW H} {l : List Chn} : ∀ n, n ≤ l.length → (∀ i, i < n → ∃ e0 e1 e2, D i = .agg [e0, e1, e2] ∧ SecD e2 (l[i]?.getD default).dests.length (fun _ _ => True)) →
    n + ((l.take n).map (fun x => x.dests.length)).sum ≤ Rows.uptoBulkAll ((List.range n).map D)
  | 0, _, _ => by simp
  | n + 1, hn, h => by
    have ih := bulk_links n (by omega) (fun i hi => h i (by omega))
    obtain ⟨e0, e1, e2, he, hs⟩ := h n (by omega)
    have hx : l[n]? = some l[n] := List.getElem?_eq_getElem (by omega)
    rw [hx] at hs
    have hb := hs.bulk
    simp only [Option.getD_some] at hb
    have happ : ∀ a b : List (DataW H), Rows.uptoBulkAll (a ++ b) = Rows.uptoBulkAll a + Rows.uptoBulkAll b := by
      intro a b
      induction a with
      | nil => simp [Rows.uptoBulkAll]
      | cons x r ih => simp only [List.cons_append, Rows.uptoBulkAll, ih]; omega
    rw [List.range_succ, List.map_append, happ, List.take_succ_eq_append_getElem (by omega), List.map_append, List.sum_append]
    have h0 := bulk_one e0
    have h1 := bulk_one e1
    simp only [List.map_cons, List.map_nil, List.sum_cons, List.sum_nil, Rows.uptoBulkAll, he, Rows.uptoBulk]
    omega

theorem bulk_cfg {d : DataW H} {c : Cfg} (h : CfgD d c) (hb : Rows.uptoBulk d ≤ 1048576) : Small c := by
  obtain ⟨d0, d1, d2, d3, d4, d5, rfl, s1, s2, s3, s4, s5⟩ := h
  have b0 := bulk_one d0
  have b1 := s1.bulk
  have b2 := s2.bulk
  have b3 := s3.bulk
  have b4 := s4.bulk
  have b5 : c.chans.length + (c.chans.map (fun x => x.dests.length)).sum ≤ Rows.uptoBulk d5 := by
    rcases s5 with ⟨rfl, h0⟩ | ⟨D, sp, rfl, hi⟩
    · have : c.chans = [] := List.eq_nil_of_length_eq_zero h0
      simp [this]
    · have := bulk_links c.chans.length (Nat.le_refl _) hi
      rw [List.take_length] at this
      simp only [Rows.uptoBulk]
      omega
  simp only [Rows.uptoBulk, Rows.uptoBulkAll] at hb
  exact ⟨by omega⟩
end
end Go.Proofs.Ytmoignbaphddeaa
namespace Go.Proofs.Ytmoignbaphddeaa
open Go.RowKit

/-- that Bool tells whether p holds -/
def Tells (r : Bool) (p : Prop) : Prop := r = true ↔ p
theorem Small.wins {c : Cfg} (h : Small c) : c.wins.length ≤ 1048576 := by have := h.sum; omega

theorem refRight15_c (w : World) (c : Cfg) (A : Adr) (hc : CfgAt w c A) :
    Calls Try.prog 28 #[cfgVal c A] w fun e w' => ∃ r : Bool, e = .returned (.bool r) ∧ Tells r (RightF c) ∧ Below w.heap.size w w' := by
  have hcall := hid (refCheck15_c (w.alloc (.cells (cfgCells c A) 29)) c A (hc.below (below_new _ _)))
  obtain ⟨a1, k1, a2, k2, a3, k3, a4, k4, a5, k5⟩ := A
  simp only [cfgVal, cfgCells] at hcall ⊢
  clear hc
  go_enter Try.func28, Try.ntmps28
  go_wp2_with fail
  refine hcall.out.mono ?_
  rintro e w2 ⟨⟨f0, f1, f2⟩, hf, rfl, hb2⟩
  have hbf := bthen (below_new w _) hb2
  have Hz := hid hf.zero_iff
  simp only at Hz
  clear hf hb2 hcall
  go_wp2
  go_ret
  exact ⟨_, rfl, by unfold Tells; rw [← Hz.out]; simp, hbf⟩

theorem right15_c (w : World) (c : Cfg) (A : Adr) (hc : CfgAt w c A) :
    Calls Try.prog 11 #[cfgVal c A] w fun e w' => ∃ r : Bool, e = .returned (.bool r) ∧ Tells r (few c = true ∧ RightF c) ∧ Below w.heap.size w w' := by
  have h1 := hid (fun W (h : CfgAt W c A) => Few_c W c A h)
  have h3 := hid (fun W (h : CfgAt W c A) => refRight15_c W c A h)
  have hbox := heap_new w (.cells (cfgCells c A) 29)
  have hc1 := hid (hc.below (below_new w (.cells (cfgCells c A) 29)))
  obtain ⟨a1, k1, a2, k2, a3, k3, a4, k4, a5, k5⟩ := A
  obtain ⟨f, hf⟩ : ∃ f, few c = f := ⟨_, rfl⟩
  rw [hf] at h1 ⊢
  simp only [cfgVal, cfgCells] at h1 h3 ⊢
  have Hbox := hid hbox
  clear hc hf hbox
  go_enter Try.func11, Try.ntmps11
  go_wp2_with fail
  refine (h1.out _ hc1.out).mono ?_
  rintro e w2 ⟨rfl, hb2⟩
  have hb02 := bthen (below_new w _) hb2
  have hc2 := hid (hc1.out.below hb2)
  have Hbox2 := hid (heap_keep Hbox.out hb2)
  clear hb2 hc1 Hbox
  cases f
  · go_wp2
    go_ret
    exact ⟨false, rfl, by unfold Tells; simp, hb02⟩
  · obtain ⟨z0, z1, z2, z3, z4, z5⟩ := box_cfg Hbox2.out
    simp only at z0 z1 z2 z3 z4 z5
    go_wp2_with fail
    refine (h3.out _ hc2.out).mono ?_
    rintro e w4 ⟨r3, rfl, hr3, hb4⟩
    have hb04 := bthen hb02 hb4
    have Hr3 := hid hr3
    clear hb4 hc2 Hbox2 hb02 hr3 z0 z1 z2 z3 z4 z5
    go_wp2
    go_ret
    cases r3
    · exact .inl ⟨rfl, Hr3.out, hb04⟩
    · exact .inr ⟨rfl, Hr3.out, hb04⟩

set_option maxHeartbeats 2000000 in
theorem FrameChecks_walk (w : World) (c : Cfg) (A : Adr) (hc : CfgAt w c A) (hs : Small c) :
    Calls Try.prog 3 #[cfgVal c A] w fun e w' => e = .returned (.bool true) ∧ Below w.heap.size w w' := by
  have h1 := hid (fun W (h : CfgAt W c A) => Few_c W c A h)
  have hbox := heap_new w (.cells (cfgCells c A) 29)
  have hc1 := hid (hc.below (below_new w (.cells (cfgCells c A) 29)))
  have h2 := hid (fun W (h : CfgAt W c A) => refCheck15_c W c A h)
  have h3 := hid (fun W (h : CfgAt W c A) => frameCheck_c W c A h hs.wins)
  obtain ⟨a1, k1, a2, k2, a3, k3, a4, k4, a5, k5⟩ := A
  obtain ⟨r, hr⟩ : ∃ r, few c = r := ⟨_, rfl⟩
  rw [hr] at h1
  simp only [cfgVal, cfgCells] at h1 h2 h3 ⊢
  have Hbox := hid hbox
  clear hc hbox hr hs
  go_enter Try.func3, Try.ntmps3
  go_wp2_with fail
  refine (h1.out _ hc1.out).mono ?_
  rintro e w2 ⟨rfl, hb2⟩
  have hb02 := bthen (below_new w _) hb2
  have hc2 := hid (hc1.out.below hb2)
  have Hbox2 := hid (heap_keep Hbox.out hb2)
  clear hb2 hc1 Hbox
  cases r
  · go_wp2_with fail
    refine (alive15_c _).mono ?_
    rintro e w3 ⟨rfl, hb3⟩
    have hb03 := bthen hb02 hb3
    clear hb3
    go_wp2
    go_ret
    exact ⟨rfl, hb03⟩
  · obtain ⟨z0, z1, z2, z3, z4, z5⟩ := box_cfg Hbox2.out
    simp only at z0 z1 z2 z3 z4 z5
    go_wp2_with fail
    refine (h2.out _ hc2.out).mono ?_
    rintro e w3 ⟨⟨e0, e1, e2⟩, hf, rfl, hb3⟩
    have hb03 := bthen hb02 hb3
    have hc3 := hid (hc2.out.below hb3)
    have Hbox3 := hid (heap_keep Hbox2.out hb3)
    have Hf := hid hf
    clear hb3 hc2 Hbox2 hb02 z0 z1 z2 z3 z4 z5 hf
    go_wp2_with fail
    refine (alive15_c _).mono ?_
    rintro e w4 ⟨rfl, hb4⟩
    have hb04 := bthen hb03 hb4
    have hc4 := hid (hc3.out.below hb4)
    have Hbox4 := hid (heap_keep Hbox3.out hb4)
    clear hb4 hc3 Hbox3 hb03
    obtain ⟨z0, z1, z2, z3, z4, z5⟩ := box_cfg Hbox4.out
    simp only at z0 z1 z2 z3 z4 z5
    go_wp2_with fail
    refine (h3.out _ hc4.out).mono ?_
    rintro e w5 ⟨g, hg, rfl, hb5⟩
    obtain rfl := hg.uniq Hf.out
    have hb05 := bthen hb04 hb5
    clear hb5 hc4 Hbox4 hb04 z0 z1 z2 z3 z4 z5 hg Hf
    go_wp2
    go_ret
    exact ⟨rfl, hb05⟩
end Go.Proofs.Ytmoignbaphddeaa
