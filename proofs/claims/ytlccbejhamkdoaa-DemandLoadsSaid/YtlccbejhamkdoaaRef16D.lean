/- the reference's check of demands -/
import Derived.Test.YtlccbejhamkdoaaRef16C
namespace Go.Proofs.Ytlccbejhamkdoaa
open Go.RowKit

theorem refFits_c (w : World) (c : Cfg) (A : Adr) (p : Part) (hp : U64 p.period) (hf : U64 c.frame) :
    Calls Try.prog 58 #[cfgVal c A, .agg #[.int .u16 p.id, .string p.name, .int .u64 p.period, .int .u64 p.dur]] w fun e w' => e = .returned (.bool (divs p.period c.frame)) ∧ Below w.heap.size w w' := by
  obtain ⟨a1, k1, a2, k2, a3, k3, a4, k4, a5, k5⟩ := A
  simp only [cfgVal, cfgCells]
  go_enter Try.func58, Try.ntmps58
  go_wp2_with fail
  refine (refDivides_c _ _ _ hp hf).mono ?_
  rintro e w2 ⟨rfl, hb2⟩
  have hbf := bthen ((below_new w _).alloc (by simp) _) hb2
  clear hb2
  go_wp2
  go_ret
  exact ⟨rfl, hbf⟩

theorem count_nonneg {c : Cfg} (h : RightW c) {P : Int} (hP : 0 < P) : 0 ≤ c.frame / P := Int.ediv_nonneg (by have := h.pos; omega) (by omega)

set_option maxHeartbeats 4000000 in
theorem refCheck16_c (w : World) (c : Cfg) (A : Adr) (hc : CfgAt w c A) (hR : RightW c) :
    Calls Try.prog 22 #[cfgVal c A] w fun e w' => e = .returned (.tuple #[.int .i64 (dchk c).1, .int .i64 (dchk c).2.1, .int .i64 (dchk c).2.2]) ∧ Below w.heap.size w w' := by
  obtain ⟨a1, k1, a2, k2, a3, k3, a4, k4, a5, k5⟩ := A
  have hn := hc.ok.nparts
  have hokp := hid hc.ok.parts
  have hfr := hid hc.ok.frame
  obtain ⟨e0, e1, e2, hd⟩ : ∃ e0 e1 e2, dchk c = (e0, e1, e2) := ⟨_, _, _, rfl⟩
  rw [hd]
  have Hd := hid hd
  have HR := hid hR
  clear hd hR
  simp only [cfgVal, cfgCells]
  go_enter Try.func22, Try.ntmps22
  go_wp2
  refine wp_name (fun W => Below w.heap.size w W ∧ W.heap[w.heap.size]? = some (.cells (cfgCells c ⟨a1, k1, a2, k2, a3, k3, a4, k4, a5, k5⟩) 29 (0, 0))) ⟨below_new _ _, heap_new _ _⟩ ?_
  rintro w1 ⟨hb1, hbox⟩
  have hc1 := hid (hc.below hb1)
  have Hbox := hid hbox
  have Hb1 := hid hb1
  have hw1 : w.heap.size < w1.heap.size := lt_of_block hbox
  clear hc hbox hb1
  go_loopw [5] (fun i wr => ∃ k : Nat, k ≤ c.parts.length ∧ i = .int .i64 k ∧ Hid (∀ j, j < k → ∀ (hj : j < c.parts.length), badOf c c.parts[j] = 0) ∧ Below w1.heap.size w1 wr) (fun i _ => c.parts.length - (intOf i).toNat)
  case atStart => exact ⟨0, Nat.zero_le _, rfl, fun j hj => by omega, Below.refl _ _⟩
  case round =>
    obtain ⟨k, hkn, rfl, Hk, hbr⟩ := hrel
    obtain ⟨z0, z1, z2, z3, z4, z5⟩ := box_cfg (heap_keep Hbox.out hbr)
    simp only at z0 z1 z2 z3 z4 z5
    have hwr : w.heap.size < wr.heap.size := by have := hbr.size; omega
    by_cases hlt : k < c.parts.length
    · obtain ⟨b, o, ha, hb0, h0, h1, h2, h3⟩ := (hc1.out.below hbr).parts.part hlt
      simp only at ha
      subst ha
      have hshort := fun (hP : 0 < c.parts[k].period) (hF : c.frame = c.frame / c.parts[k].period * c.parts[k].period) (W : World) (hcW : CfgAt W c ⟨some ⟨b, o, none⟩, k1, a2, k2, a3, k3, a4, k4, a5, k5⟩) => refShort_c W c _ hcW HR.out.apart k hlt hP _ (count_nonneg HR.out hP) hF
      obtain ⟨p, hp⟩ : ∃ p, c.parts[k] = p := ⟨_, rfl⟩
      rw [hp] at h0 h1 h2 h3 hshort
      have Hshort := hid hshort
      have Hp := hid hp
      have hok := hid (hokp.out p (by rw [← hp]; exact List.getElem_mem hlt))
      clear hp hshort
      go_wp2_with fail
      refine (refFits_c _ c ⟨some ⟨b, o, none⟩, k1, a2, k2, a3, k3, a4, k4, a5, k5⟩ p hok.out.2.2.1 hfr.out).mono ?_
      rintro e w6 ⟨rfl, hb6⟩
      have hbf := bthen hbr (bthen (below_new _ _) hb6)
      have hxb := heap_keep (heap_new wr (.cells #[.int .u16 p.id, .string p.name, .int .u64 p.period, .int .u64 p.dur] 36)) hb6
      have x2 := cell_of_heap (i := 2) hxb rfl
      have x3 := cell_of_heap (i := 3) hxb rfl
      obtain ⟨z0', z1', z2', z3', z4', z5'⟩ := box_cfg (heap_keep Hbox.out hbf)
      simp only at z0' z1' z2' z3' z4' z5'
      have hbw := hid (bthen Hb1.out hbf)
      have hcf := hid (hc1.out.below hbf)
      clear hb6 hxb z0 z1 z2 z3 z4 z5 h0 h1 h2 h3
      have hstop : ∀ code : Int, badOf c p = code → code ≠ 0 → Hid ((e0, e1, e2) = (code, (1 : Int), (k : Int))) := by
        intro code hb hne
        have h1 : badOf c c.parts[k] = code := by rw [Hp.out]; exact hb
        have := dchk_at hlt (by rw [h1]; exact hne) Hk.out
        rw [h1] at this
        exact Hd.out.symm.trans this
      have Hstop := hid hstop
      clear hstop
      cases hdv : divs p.period c.frame
      · have hfin := Hstop.out 22 (badOf_22 (by rw [hdv]; rfl)) (by decide)
        clear hdv
        go_wp2
        go_ret3
        have hf := hfin.out
        simp only [Prod.mk.injEq] at hf
        obtain ⟨rfl, rfl, rfl⟩ := hf
        exact ⟨rfl, hbw.out⟩
      · obtain ⟨hP, hF⟩ := divs_facts hdv
        have HF := hid hF
        have Hdv := hid hdv
        clear hF hdv
        by_cases hl : p.period < p.dur
        · have hfin := Hstop.out 22 (badOf_22 (by rw [Hdv.out]; simp [hl])) (by decide)
          go_wp2
          go_ret3
          have hf := hfin.out
          simp only [Prod.mk.injEq] at hf
          obtain ⟨rfl, rfl, rfl⟩ := hf
          exact ⟨rfl, hbw.out⟩
        · have hper : Hid ((!divs p.period c.frame || decide (p.period < p.dur)) = false) := by show _ = _; rw [Hdv.out]; simpa using hl
          go_wp2_with fail
          have hcall := Hshort.out hP HF.out _ hcf.out
          obtain ⟨kk, sh, hks⟩ : ∃ kk sh, firstShort p.dur (allOf (inC c p) (c.frame / p.period)) = (kk, sh) := ⟨_, _, rfl⟩
          rw [hks] at hcall
          have hsh : Hid ((firstShort p.dur (allOf (inC c p) (c.frame / p.period))).2 = sh) := by show _ = _; rw [hks]
          refine hcall.mono ?_
          rintro e w7 ⟨rfl, hb7⟩
          have hbf7 := bthen hbf hb7
          have hbw7 := hid (bthen Hb1.out hbf7)
          clear hcall hb7 hks x2 x3 z0' z1' z2' z3' z4' z5'
          cases sh
          · have hnext : Hid (∀ j, j < k + 1 → ∀ (hj : j < c.parts.length), badOf c c.parts[j] = 0) := by
              intro j hj hjl
              rcases Nat.lt_succ_iff_lt_or_eq.1 hj with h | rfl
              · exact Hk.out j h hjl
              · rw [Hp.out]; exact badOf_0 hper.out hsh.out
            go_wp2
            go_roundw
            case rel => exact ⟨k + 1, by omega, by go_num, hnext, hbf7⟩
            case measure => simp [intOf]; omega
          · have hfin := Hstop.out 23 (badOf_23 hper.out hsh.out) (by decide)
            go_wp2
            go_ret3
            have hf := hfin.out
            simp only [Prod.mk.injEq] at hf
            obtain ⟨rfl, rfl, rfl⟩ := hf
            exact ⟨rfl, hbw7.out⟩
    · have hfin : Hid ((e0, e1, e2) = ((0 : Int), (0 : Int), (0 : Int))) := Hd.out.symm.trans (dchk_no (fun j hj => Hk.out j (by omega) hj))
      have hbw := hid (bthen Hb1.out hbr)
      go_wp2
      go_ret3
      have hf := hfin.out
      simp only [Prod.mk.injEq] at hf
      obtain ⟨rfl, rfl, rfl⟩ := hf
      exact ⟨rfl, hbw.out⟩
end Go.Proofs.Ytlccbejhamkdoaa
