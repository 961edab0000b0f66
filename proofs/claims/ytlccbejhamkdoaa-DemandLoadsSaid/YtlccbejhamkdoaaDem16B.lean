/- demand.Check -/
import Derived.Test.YtlccbejhamkdoaaDem16A
namespace Go.Proofs.Ytlccbejhamkdoaa
open Go.RowKit

/-- what is wrong with the demand of a partition: 22, 23, or 0 -/
def badOf (c : Cfg) (p : Part) : Int := if (!divs p.period c.frame || decide (p.period < p.dur)) = true then 22 else if (firstShort p.dur (allOf (inC c p) (c.frame / p.period))).2 = true then 23 else 0
/-- the first wrong demand: the code, the section, the index -/
def dchk (c : Cfg) : Int × Int × Int := match c.parts.findIdx? (fun p => decide (badOf c p ≠ 0)) with
  | some i => (((c.parts[i]?).map (badOf c)).getD 0, 1, (i : Int))
  | none => (0, 0, 0)
theorem dchk_no {c : Cfg} (h : ∀ j (hj : j < c.parts.length), badOf c c.parts[j] = 0) : dchk c = (0, 0, 0) := by
  have : c.parts.findIdx? (fun p => decide (badOf c p ≠ 0)) = none := by
    rw [List.findIdx?_eq_none_iff]
    intro x hx
    obtain ⟨j, hj, rfl⟩ := List.getElem_of_mem hx
    simp [h j hj]
  rw [dchk, this]
theorem dchk_at {c : Cfg} {i : Nat} (hi : i < c.parts.length) (hn : badOf c c.parts[i] ≠ 0) (h : ∀ j, j < i → ∀ (hj : j < c.parts.length), badOf c c.parts[j] = 0) : dchk c = (badOf c c.parts[i], 1, (i : Int)) := by
  have : c.parts.findIdx? (fun p => decide (badOf c p ≠ 0)) = some i := by
    rw [List.findIdx?_eq_some_iff_getElem]
    exact ⟨hi, by simp [hn], fun j hj => by simp [h j hj (by omega)]⟩
  rw [dchk, this]
  simp [hi]
theorem badOf_22 {c : Cfg} {p : Part} (h : (!divs p.period c.frame || decide (p.period < p.dur)) = true) : badOf c p = 22 := by rw [badOf, if_pos h]
theorem badOf_23 {c : Cfg} {p : Part} (h : (!divs p.period c.frame || decide (p.period < p.dur)) = false) (h2 : (firstShort p.dur (allOf (inC c p) (c.frame / p.period))).2 = true) : badOf c p = 23 := by rw [badOf, if_neg (by rw [h]; decide), if_pos h2]
theorem badOf_0 {c : Cfg} {p : Part} (h : (!divs p.period c.frame || decide (p.period < p.dur)) = false) (h2 : (firstShort p.dur (allOf (inC c p) (c.frame / p.period))).2 = false) : badOf c p = 0 := by rw [badOf, if_neg (by rw [h]; decide), if_neg (by rw [h2]; decide)]
theorem divs_facts {a b : Int} (h : divs a b = true) : 0 < a ∧ b = b / a * a := by
  unfold divs at h
  rw [decide_eq_true_eq] at h
  refine ⟨h.1, ?_⟩
  have h1 := Int.mul_ediv_add_emod b a
  have h2 : a * (b / a) = b / a * a := Int.mul_comm _ _
  omega

theorem setSixA {w : World} {b : Nat} {p : Part} {fr : Int} {s : Value} {t : TypeId} (h : w.heap[b]? = some (.cells #[.int .u16 p.id, .string p.name, .int .u64 p.period, .int .u64 p.dur, .int .u64 fr, s] t (0, 0))) :
    w.cell? ⟨b, 0, none⟩ = some (.int .u16 p.id) ∧ w.cell? ⟨b, 1, none⟩ = some (.string p.name) ∧ w.cell? ⟨b, 2, none⟩ = some (.int .u64 p.period) ∧ w.cell? ⟨b, 3, none⟩ = some (.int .u64 p.dur) ∧ w.cell? ⟨b, 4, none⟩ = some (.int .u64 fr) ∧ w.cell? ⟨b, 5, none⟩ = some s :=
  ⟨cell_of_heap h rfl, cell_of_heap h rfl, cell_of_heap h rfl, cell_of_heap h rfl, cell_of_heap h rfl, cell_of_heap h rfl⟩

set_option maxHeartbeats 4000000 in
theorem demCheck_c (w : World) (c : Cfg) (A : Adr) (hc : CfgAt w c A) (hR : RightW c) :
    Calls Try.prog 23 #[cfgVal c A] w fun e w' => e = .returned (.agg #[.int .i64 (dchk c).1, .int .i64 (dchk c).2.1, .int .i64 (dchk c).2.2]) ∧ Below w.heap.size w w' := by
  obtain ⟨a1, k1, a2, k2, a3, k3, a4, k4, a5, k5⟩ := A
  have hn := hc.ok.nparts
  have hokp := hid hc.ok.parts
  have hfr := hid hc.ok.frame
  obtain ⟨e0, e1, e2, hd⟩ : ∃ e0 e1 e2, dchk c = (e0, e1, e2) := ⟨_, _, _, rfl⟩
  rw [hd]
  have Hd := hid hd
  have HR := hid hR
  clear hd hR
  simp only [cfgVal, cfgCells]
  go_enter Try.func23, Try.ntmps23
  go_wp2
  refine wp_name (fun W => Below w.heap.size w W ∧ W.heap.size = w.heap.size + 2 ∧ W.heap[w.heap.size]? = some (.cells (cfgCells c ⟨a1, k1, a2, k2, a3, k3, a4, k4, a5, k5⟩) 29 (0, 0)) ∧ W.heap[w.heap.size + 1]? = some (.cells #[.int .i64 0, .int .i64 0, .int .i64 0] 47 (0, 0))) ⟨(below_new _ _).alloc (by simp) _, by simp, by repeat (first | (refine heap_at ?_; simp; done) | refine heap_alloc' ?_ _), by repeat (first | (refine heap_at ?_; simp; done) | refine heap_alloc' ?_ _)⟩ ?_
  rintro w1 ⟨hb1, hs1, hbox, hres⟩
  have hc1 := hid (hc.below hb1)
  have Hbox := hid hbox
  have Hres := hid hres
  clear hc hbox hres
  go_loopw [12] (fun i wr => ∃ k : Nat, k ≤ c.parts.length ∧ i = .int .i64 k ∧ Hid (∀ j, j < k → ∀ (hj : j < c.parts.length), badOf c c.parts[j] = 0) ∧ Below w1.heap.size w1 wr) (fun i _ => c.parts.length - (intOf i).toNat)
  case atStart => exact ⟨0, Nat.zero_le _, rfl, fun j hj => by omega, Below.refl _ _⟩
  case round =>
    obtain ⟨k, hkn, rfl, Hk, hbr⟩ := hrel
    by_cases hlt : k < c.parts.length
    · obtain ⟨b, o, ha, hb0, h0, h1, h2, h3⟩ := (hc1.out.below hbr).parts.part hlt
      simp only at ha
      subst ha
      obtain ⟨p, hp⟩ : ∃ p, c.parts[k] = p := ⟨_, rfl⟩
      rw [hp] at h0 h1 h2 h3
      have Hp := hid hp
      have hokk := hid (hokp.out p (by rw [← hp]; exact List.getElem_mem hlt))
      clear hp
      obtain ⟨z0, z1, z2, z3, z4, z5⟩ := box_cfg (heap_keep Hbox.out hbr)
      simp only at z0 z1 z2 z3 z4 z5
      have hcr := hid (hc1.out.below hbr)
      have hwlt : w.heap.size < wr.heap.size := by have := hbr.size; omega
      go_wp2_with fail
      refine (of_c _ c ⟨some ⟨b, o, none⟩, k1, a2, k2, a3, k3, a4, k4, a5, k5⟩ (hcr.out.below (below_new _ _)) p).mono ?_
      rintro e w3 ⟨a', cap', m, rfl, hm1, hm2, hm3, hm4, hm5, hm6, hb3⟩
      have hb13 := hid (bthen hbr (bthen (below_new _ _) hb3))
      clear h0 h1 h2 h3 z0 z1 z2 z3 z4 z5 hb0
      simp only [ofVal]
      have Hm := hid (And.intro hm1 (And.intro hm2 (And.intro hm3 (And.intro hm4 (And.intro hm5 hm6)))))
      clear hm1 hm2 hm3 hm4 hm5 hm6 hb3 hbr
      go_wp2
      refine wp_name (fun W => Below w1.heap.size w1 W ∧ RowAt 3 encWin W a' m ∧ (∀ b o, a' = some ⟨b, o, none⟩ → b < W.heap.size) ∧ W.heap[w3.heap.size + 1]? = some (.cells #[.func (.func 60) #[.agg #[.int .u16 p.id, .string p.name, .int .u64 p.period, .int .u64 p.dur, .int .u64 c.frame, .slice a' m.length cap']] #[], .func (.func 61) #[.agg #[.int .u16 p.id, .string p.name, .int .u64 p.period, .int .u64 p.dur, .int .u64 c.frame, .slice a' m.length cap']] #[]] 31 (0, 0)))
        ⟨(hb13.out.alloc hb13.out.size _).alloc (by have := hb13.out.size; simp; omega) _, Hm.out.2.2.1.below ((below_new _ _).alloc (by simp) _), fun b o e => by have := Hm.out.2.2.2.2.2 b o e; simp; omega, by repeat (first | (refine heap_at ?_; simp; done) | refine heap_alloc' ?_ _)⟩ ?_
      rintro w4 ⟨hb4, hrow4, ha4, hfn4⟩
      have Hrow4 := hid hrow4
      have Ha4 := hid ha4
      have Hfn4 := hid hfn4
      have hb4s := hb4.size
      clear hrow4 ha4 hfn4 hb13 hcr
      obtain ⟨fb, hfb⟩ : ∃ fb, w3.heap.size + 1 = fb := ⟨_, rfl⟩
      rw [hfb] at Hfn4 ⊢
      obtain ⟨wt, rfl⟩ : ∃ wt : World, wt = wr := ⟨_, rfl⟩
      go_loopw [6, 26] (fun cd i wr => ∃ q : Nat, q ≤ 2 ∧ i = .int .i64 q ∧ cd = .int .i64 (if q = 0 then 22 else 23) ∧ Hid ((0 < q → (!divs p.period c.frame || decide (p.period < p.dur)) = false) ∧ (1 < q → (firstShort p.dur (allOf (inC c p) (c.frame / p.period))).2 = false)) ∧ Below w4.heap.size w4 wr) (fun _ i _ => 2 - (intOf i).toNat)
      case atStart => exact ⟨0, by omega, rfl, rfl, ⟨fun h => by omega, fun h => by omega⟩, Below.refl _ _⟩
      case round =>
        obtain ⟨q, hq2, rfl, rfl, hI, hbr⟩ := hrel
        have hbf4 := bthen hb4 hbr
        have hfn := heap_keep Hfn4.out hbr
        have g0 := cell_of_heap (i := 0) hfn rfl
        have g1 := cell_of_heap (i := 1) hfn rfl
        clear hfn
        match q, hq2, hI with
        | 0, _, hI =>
          go_wp2_with fail
          have hcall := wrongPeriod_c wr p c.frame a' m.length cap' hokk.out.2.2.1 hfr.out
          obtain ⟨bv, hbv⟩ : ∃ bv, (!divs p.period c.frame || decide (p.period < p.dur)) = bv := ⟨_, rfl⟩
          rw [hbv] at hcall
          have Hbv := hid hbv
          clear hbv
          refine hcall.mono ?_
          rintro e w6 ⟨rfl, hb6⟩
          have hbf := bthen hbf4 hb6
          have hb46 := bthen hbr hb6
          clear hcall hb6 hbr hbf4 g0 g1
          cases bv
          · go_wp2
            go_roundw
            case rel => exact ⟨1, by omega, by go_num, rfl, ⟨fun _ => Hbv.out, fun h => by omega⟩, hb46⟩
            case measure => simp [intOf]
          · have hfin : Hid ((e0, e1, e2) = (22, 1, (k : Int))) := by
              have hbad : badOf c c.parts[k] = 22 := by rw [Hp.out]; exact badOf_22 Hbv.out
              have := dchk_at hlt (by rw [hbad]; decide) Hk.out
              rw [hbad] at this
              exact Hd.out.symm.trans this
            have hres := heap_keep Hres.out hbf
            have q0 := cell_of_heap (i := 0) hres rfl
            have q1 := cell_of_heap (i := 1) hres rfl
            have q2 := cell_of_heap (i := 2) hres rfl
            have qf : ∀ i, w6.frozen? ⟨w.heap.size + 1, i, none⟩ = false := fun i => free_of_heap hres
            have Hresb := hid hres
            have Hbw := hid (bthen hb1 hbf)
            clear hres
            go_wp2
            have hf := hfin.out
            simp only [Prod.mk.injEq] at hf
            obtain ⟨rfl, rfl, rfl⟩ := hf
            exact bodyPost_fault rfl rfl rfl (set3 Hresb.out _ _ _) ⟨rfl, bset (bset (bset Hbw.out (by simp) _ _) (by simp) _ _) (by simp) _ _⟩
        | 1, _, hI =>
          have hper := hI.out.1 (by omega)
          have hdv : divs p.period c.frame = true := by
            cases hdd : divs p.period c.frame
            · rw [hdd] at hper; cases hper
            · rfl
          obtain ⟨hP, hF⟩ := divs_facts hdv
          have Hper := hid hper
          have HF := hid hF
          clear hper hdv hF
          go_wp2_with fail
          have hcall := wrongTime_c wr p c.frame (c.frame / p.period) a' cap' m hP hokk.out.2.2.1 hfr.out HF.out Hm.out.2.2.2.2.1 (HR.out.chain Hm.out.1 Hm.out.2.1) (Hrow4.out.below hbr) (fun b o e => by have := Ha4.out b o e; have := hbr.size; omega)
          rw [short_eq (d := p.dur) (HR.out.cover hP HF.out Hm.out.1 Hm.out.2.1)] at hcall
          obtain ⟨bv, hbv⟩ : ∃ bv, (firstShort p.dur (allOf (inC c p) (c.frame / p.period))).2 = bv := ⟨_, rfl⟩
          rw [hbv] at hcall
          have Hbv := hid hbv
          clear hbv
          refine hcall.mono ?_
          rintro e w6 ⟨rfl, hb6⟩
          have hbf := bthen hbf4 hb6
          have hb46 := bthen hbr hb6
          clear hcall hb6 hbr hbf4 g0 g1
          cases bv
          · go_wp2
            go_roundw
            case rel => exact ⟨2, by omega, by go_num, rfl, ⟨fun _ => Hper.out, fun _ => Hbv.out⟩, hb46⟩
            case measure => simp [intOf]
          · have hfin : Hid ((e0, e1, e2) = (23, 1, (k : Int))) := by
              have hbad : badOf c c.parts[k] = 23 := by rw [Hp.out]; exact badOf_23 Hper.out Hbv.out
              have := dchk_at hlt (by rw [hbad]; decide) Hk.out
              rw [hbad] at this
              exact Hd.out.symm.trans this
            have hres := heap_keep Hres.out hbf
            have q0 := cell_of_heap (i := 0) hres rfl
            have q1 := cell_of_heap (i := 1) hres rfl
            have q2 := cell_of_heap (i := 2) hres rfl
            have qf : ∀ i, w6.frozen? ⟨w.heap.size + 1, i, none⟩ = false := fun i => free_of_heap hres
            have Hresb := hid hres
            have Hbw := hid (bthen hb1 hbf)
            clear hres
            go_wp2
            have hf := hfin.out
            simp only [Prod.mk.injEq] at hf
            obtain ⟨rfl, rfl, rfl⟩ := hf
            exact bodyPost_fault rfl rfl rfl (set3 Hresb.out _ _ _) ⟨rfl, bset (bset (bset Hbw.out (by simp) _ _) (by simp) _ _) (by simp) _ _⟩
        | 2, _, hI =>
          have hnext : Hid (∀ j, j < k + 1 → ∀ (hj : j < c.parts.length), badOf c c.parts[j] = 0) := by
            intro j hj hjl
            rcases Nat.lt_succ_iff_lt_or_eq.1 hj with h | rfl
            · exact Hk.out j h hjl
            · rw [Hp.out]; exact badOf_0 (hI.out.1 (by omega)) (hI.out.2 (by omega))
          clear g0 g1
          go_wp2
          go_roundw
          case rel => exact ⟨k + 1, by omega, by go_num, hnext, hbf4⟩
          case measure => simp [intOf]; omega
    · have hfin : Hid ((e0, e1, e2) = ((0 : Int), (0 : Int), (0 : Int))) := Hd.out.symm.trans (dchk_no (fun j hj => Hk.out j (by omega) hj))
      have hres := heap_keep Hres.out hbr
      have q0 := cell_of_heap (i := 0) hres rfl
      have q1 := cell_of_heap (i := 1) hres rfl
      have q2 := cell_of_heap (i := 2) hres rfl
      have qf : ∀ i, wr.frozen? ⟨w.heap.size + 1, i, none⟩ = false := fun i => free_of_heap hres
      have Hresb := hid hres
      have Hbw := hid (bthen hb1 hbr)
      clear hres
      go_wp2
      have hf := hfin.out
      simp only [Prod.mk.injEq] at hf
      obtain ⟨rfl, rfl, rfl⟩ := hf
      exact bodyPost_fault rfl rfl rfl (set3 Hresb.out _ _ _) ⟨rfl, bset (bset (bset Hbw.out (by simp) _ _) (by simp) _ _) (by simp) _ _⟩
end Go.Proofs.Ytlccbejhamkdoaa
