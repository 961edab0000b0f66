/- the walk of DemandLoads -/
import Derived.Test.YtlccbejhamkdoaaLoad16B
namespace Go.Proofs.Ytlccbejhamkdoaa
open Go.RowKit

theorem addF_sum : ∀ (l : List Int) (s : Int), 0 ≤ s → (∀ x ∈ l, 0 ≤ x) → s + l.sum ≤ 18446744073709551615 → addF s l = (s + l.sum, true)
  | [], s, _, _, _ => by simp [addF]
  | x :: l, s, h0, h1, h2 => by
    have hx := h1 x (by simp)
    have hsum : ∀ l : List Int, (∀ x ∈ l, 0 ≤ x) → 0 ≤ l.sum := by
      intro l
      induction l with
      | nil => intro _; simp
      | cons y l ih => intro h; rw [List.sum_cons]; have := h y (by simp); have := ih (fun z hz => h z (List.mem_cons_of_mem _ hz)); omega
    have hl := hsum l (fun z hz => h1 z (List.mem_cons_of_mem _ hz))
    rw [List.sum_cons] at h2 ⊢
    unfold addF
    rw [if_pos (by omega), addF_sum l (s + x) (by omega) (fun z hz => h1 z (List.mem_cons_of_mem _ hz)) (by omega)]
    rw [Int.add_assoc]
theorem term_ids {x : Win} {a b : Int} : ∀ {ids : List Int}, ids.Nodup → (ids.map fun i => term i a b x).sum ≤ ovl x a b
  | [], _ => by have := ovl_nonneg x a b; simpa using this
  | i :: ids, h => by
    obtain ⟨h1, h2⟩ := List.nodup_cons.1 h
    have ih := term_ids (x := x) (a := a) (b := b) h2
    rw [List.map_cons, List.sum_cons]
    unfold term at ih ⊢
    by_cases hp : x.part = i
    · rw [if_pos hp]
      have hz : (ids.map fun i => if x.part = i then ovl x a b else 0).sum = 0 := by
        have : ∀ l : List Int, i ∉ l → (l.map fun j => if x.part = j then ovl x a b else 0).sum = 0 := by
          intro l
          induction l with
          | nil => intro _; rfl
          | cons j l ihl =>
            intro hj
            rw [List.mem_cons, not_or] at hj
            rw [List.map_cons, List.sum_cons, ihl hj.2, if_neg (by rw [hp]; exact hj.1)]
            rfl
        exact this ids h1
      rw [hz]; omega
    · rw [if_neg hp]; omega
theorem used_ids {a b : Int} {ids : List Int} (h : ids.Nodup) : ∀ ws : List Win, (ids.map fun i => usedP ws i a b).sum ≤ usedL ws a b
  | [] => by
    have : ∀ l : List Int, (l.map fun i => usedP [] i a b).sum = 0 := by
      intro l
      induction l with
      | nil => rfl
      | cons j l ih => rw [List.map_cons, List.sum_cons, ih]; rfl
    rw [this]; exact Int.le_refl _
  | x :: ws => by
    have ih := used_ids (a := a) (b := b) h ws
    have ht := term_ids (x := x) (a := a) (b := b) h
    have e : ∀ l : List Int, (l.map fun i => usedP (x :: ws) i a b).sum = (l.map fun i => term i a b x).sum + (l.map fun i => usedP ws i a b).sum := by
      intro l
      induction l with
      | nil => rfl
      | cons j l ihl => simp only [List.map_cons, List.sum_cons]; rw [ihl, usedP_cons]; omega
    rw [e, usedL_cons]
    omega
theorem Apart.used_all {F : Int} {ws : List Win} (h : Apart F ws) (hF : 0 ≤ F) : usedL ws 0 F ≤ F := by
  have hp := List.mergeSort_perm ws (fun x y => decide (x.start ≤ y.start))
  rw [← usedL_perm hp]
  have hs : (ws.mergeSort (fun x y => decide (x.start ≤ y.start))).Pairwise (fun x y => x.start ≤ y.start) := by
    have := List.pairwise_mergeSort (le := fun x y : Win => decide (x.start ≤ y.start)) (fun x y z h1 h2 => by simp at *; omega) (fun x y => by simp; omega) ws
    exact this.imp (fun h => by simpa using h)
  have hc := (h.perm hp.symm).chain hs (E := 0) (fun x hx => ((h.perm hp.symm).each x hx).1)
  have := hc.used_le 0 F
  omega
theorem diff_nodup {ks : List Int} (h : Diff ks ks.length) : ks.Nodup := by
  rw [List.nodup_iff_pairwise_ne, List.pairwise_iff_getElem]
  intro i j hi hj hij he
  refine h j hj i hij ?_
  rw [List.getElem?_eq_getElem hi, List.getElem?_eq_getElem hj, he]

theorem load_good {c : Cfg} (hR : RightW c) (hfr : U64 c.frame) (hD : Diff (c.parts.map (·.id)) c.parts.length) (hokp : ∀ p ∈ c.parts, p.ok) (hall : ∀ p ∈ c.parts, badOf c p = 0) :
    ∃ n, loadP c = (n, true) ∧ 0 ≤ n ∧ n ≤ c.frame := by
  have hone : ∀ p ∈ c.parts, (totP p c.frame).2 = true ∧ 0 ≤ (totP p c.frame).1 ∧ (totP p c.frame).1 ≤ usedP c.wins p.id 0 c.frame := by
    intro p hp
    obtain ⟨h1, _, h3⟩ := badOf_zero (hall p hp)
    obtain ⟨h4, h5⟩ := totP_good hR hfr h1 h3
    have h6 := totP_u64 (hokp p hp) hfr
    rw [h4] at h6 ⊢
    exact ⟨rfl, h6.1, h5⟩
  have hn : (c.parts.map (·.id)).Nodup := diff_nodup (by rw [List.length_map]; exact hD)
  have h1 := used_ids (a := 0) (b := c.frame) hn c.wins
  have h2 := hR.apart.used_all (Int.le_of_lt hR.pos)
  have h3 : (c.parts.map fun p => (totP p c.frame).1).sum ≤ ((c.parts.map (·.id)).map fun i => usedP c.wins i 0 c.frame).sum := by
    have : ∀ l : List Part, (∀ p ∈ l, (totP p c.frame).1 ≤ usedP c.wins p.id 0 c.frame) → (l.map fun p => (totP p c.frame).1).sum ≤ ((l.map (·.id)).map fun i => usedP c.wins i 0 c.frame).sum := by
      intro l
      induction l with
      | nil => intro _; exact Int.le_refl _
      | cons p l ih => intro h; simp only [List.map_cons, List.sum_cons]; have := h p (by simp); have := ih (fun q hq => h q (List.mem_cons_of_mem _ hq)); omega
    exact this c.parts (fun p hp => (hone p hp).2.2)
  have h4 : 0 ≤ (c.parts.map fun p => (totP p c.frame).1).sum := by
    have : ∀ l : List Part, (∀ p ∈ l, 0 ≤ (totP p c.frame).1) → 0 ≤ (l.map fun p => (totP p c.frame).1).sum := by
      intro l
      induction l with
      | nil => intro _; simp
      | cons p l ih => intro h; simp only [List.map_cons, List.sum_cons]; have := h p (by simp); have := ih (fun q hq => h q (List.mem_cons_of_mem _ hq)); omega
    exact this c.parts (fun p hp => (hone p hp).2.1)
  unfold U64 at hfr
  refine ⟨_, (loadP_yes (fun j hj => (hone _ (List.getElem_mem hj)).1)).trans (addF_sum _ 0 (Int.le_refl _) (fun x hx => ?_) (by omega)), by omega, by omega⟩
  obtain ⟨p, hp, rfl⟩ := List.mem_map.1 hx
  exact (hone p hp).2.1

set_option maxHeartbeats 4000000 in
theorem DemandLoads_walk (w : World) (c : Cfg) (A : Adr) (hc : CfgAt w c A) :
    Calls Try.prog 7 #[cfgVal c A] w fun e w' => e = .returned (.bool true) ∧ Below w.heap.size w w' := by
  have hokp := hid hc.ok.parts
  have hfr := hid hc.ok.frame
  have h1 := hid (fun W (h : CfgAt W c A) => fits_c W c A h)
  have hbox := heap_new w (.cells (cfgCells c A) 29)
  have hc1 := hid (hc.below (below_new w (.cells (cfgCells c A) 29)))
  have h2 := hid (fun W (h : CfgAt W c A) (hR : RightW c) => refCheck16_c W c A h hR)
  have h3 := hid (fun W (h : CfgAt W c A) => load_c W c A h)
  have h4 := hid (fun W (h : CfgAt W c A) => refLoad_c W c A h)
  obtain ⟨a1, k1, a2, k2, a3, k3, a4, k4, a5, k5⟩ := A
  obtain ⟨e0, e1, e2, hd⟩ : ∃ e0 e1 e2, dchk c = (e0, e1, e2) := ⟨_, _, _, rfl⟩
  have hzero : e0 = 0 → ∀ p ∈ c.parts, badOf c p = 0 := fun h => dchk_zero (by rw [hd]; exact h)
  rw [hd] at h2
  obtain ⟨n, ok, hl⟩ : ∃ n ok, loadP c = (n, ok) := ⟨_, _, rfl⟩
  rw [hl] at h3 h4
  have Hl := hid hl
  have Hzero := hid hzero
  simp only [cfgVal, cfgCells] at h1 h2 h3 h4 ⊢
  have Hbox := hid hbox
  clear hc hbox hd hzero hl
  go_enter Try.func7, Try.ntmps7
  go_wp2_with fail
  refine (h1.out _ hc1.out).mono ?_
  rintro e w2 ⟨r, rfl, hr, hb2⟩
  have hb02 := bthen (below_new w _) hb2
  have hc2 := hid (hc1.out.below hb2)
  have Hbox2 := hid (heap_keep Hbox.out hb2)
  have Hr := hid hr
  clear hb2 hc1 Hbox hr
  cases r
  · go_wp2_with fail
    refine (alive16_c _).mono ?_
    rintro e w3 ⟨rfl, hb3⟩
    have hb03 := bthen hb02 hb3
    clear hb3
    go_wp2
    go_ret
    exact ⟨rfl, hb03⟩
  · have HR := hid (Hr.out (by trivial))
    obtain ⟨z0, z1, z2, z3, z4, z5⟩ := box_cfg Hbox2.out
    simp only at z0 z1 z2 z3 z4 z5
    go_wp2_with fail
    refine (h3.out _ hc2.out).mono ?_
    rintro e w3 ⟨rfl, hb3⟩
    have hb03 := bthen hb02 hb3
    have hc3 := hid (hc2.out.below hb3)
    have Hbox3 := hid (heap_keep Hbox2.out hb3)
    clear hb3 hc2 Hbox2 hb02 z0 z1 z2 z3 z4 z5
    obtain ⟨z0, z1, z2, z3, z4, z5⟩ := box_cfg Hbox3.out
    simp only at z0 z1 z2 z3 z4 z5
    go_wp2_with fail
    refine (h4.out _ hc3.out).mono ?_
    rintro e w4 ⟨rfl, hb4⟩
    have hb04 := bthen hb03 hb4
    have hc4 := hid (hc3.out.below hb4)
    have Hbox4 := hid (heap_keep Hbox3.out hb4)
    clear hb4 hc3 Hbox3 hb03 z0 z1 z2 z3 z4 z5
    obtain ⟨z0, z1, z2, z3, z4, z5⟩ := box_cfg Hbox4.out
    simp only at z0 z1 z2 z3 z4 z5
    go_wp2_with fail
    refine (h2.out _ hc4.out HR.out.1).mono ?_
    rintro e w5 ⟨rfl, hb5⟩
    have hb05 := bthen hb04 hb5
    have Hbox5 := hid (heap_keep Hbox4.out hb5)
    clear hb5 hc4 Hbox4 hb04 z0 z1 z2 z3 z4 z5
    go_wp2_with fail
    refine (alive16_c _).mono ?_
    rintro e w6 ⟨rfl, hb6⟩
    have hb06 := bthen hb05 hb6
    obtain ⟨z0, z1, z2, z3, z4, z5⟩ := box_cfg (heap_keep Hbox5.out hb6)
    simp only at z0 z1 z2 z3 z4 z5
    clear hb6 Hbox5 hb05
    by_cases hez : e0 = 0
    · have hnz : (e0 != 0) = false := by simp [bne, hez]
      obtain ⟨n', hn, hn0, hnF⟩ := load_good HR.out.1 hfr.out HR.out.2 hokp.out (Hzero.out hez)
      have hl := Hl.out
      rw [hn] at hl
      simp only [Prod.mk.injEq] at hl
      obtain ⟨rfl, rfl⟩ := hl
      clear hez hn
      go_wp2
      go_ret
      exact ⟨rfl, hb06⟩
    · have hnz : (e0 != 0) = true := by simp [bne, hez]
      clear hez
      go_wp2
      go_ret
      exact ⟨rfl, hb06⟩
end Go.Proofs.Ytlccbejhamkdoaa
