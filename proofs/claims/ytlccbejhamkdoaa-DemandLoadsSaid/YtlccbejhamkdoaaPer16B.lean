/- the iterator over the periods of a partition -/
import Derived.Test.YtlccbejhamkdoaaPer16A
import Derived.Sort.CutIn
namespace Go.Proofs.Ytlccbejhamkdoaa
open Go.RowKit Go.Shelf
attribute [local go_sem] Oper.semAt_some

/-- what lies ready between two windows -/
structure Ready (w0 : World) (own : Nat → Prop) (pb yb nb tb l : Nat) (p : Part) (fr : Int) (s : Value) (a : Option Addr) (ws : List Win) (next ticks : Int) (W : World) : Prop where
  big : w0.heap.size ≤ W.heap.size
  pbox : W.heap[pb]? = some (.cells #[.int .u16 p.id, .string p.name, .int .u64 p.period, .int .u64 p.dur, .int .u64 fr, s] 94 (0, 0))
  ybox : W.heap[yb]? = some (.cells #[.func (.yield l) #[] #[]] 97 (0, 0))
  nbox : W.heap[nb]? = some (.cells #[.int .u64 next] 22 (0, 0))
  tbox : W.heap[tb]? = some (.cells #[.int .u64 ticks] 22 (0, 0))
  row : RowAt 3 encWin W a ws

section
variable {w0 : World} {own : Nat → Prop} {pb yb nb tb l : Nat} {p : Part} {fr : Int} {s : Value} {a : Option Addr} {ws : List Win} {next ticks : Int} {W : World}
/-- how the places lie -/
structure Places (w0 : World) (own : Nat → Prop) (pb yb nb tb l : Nat) (a : Option Addr) : Prop where
  p1 : pb < w0.heap.size
  p2 : ¬ own pb
  p3 : ∀ b o, a = some ⟨b, o, none⟩ → b < w0.heap.size ∧ ¬ own b
  p4 : ∀ b, own b → b < w0.heap.size
  p5 : w0.heap.size ≤ l
  p6 : l < yb
  p7 : yb < nb
  p8 : nb < tb

theorem Ready.alloc (h : Ready w0 own pb yb nb tb l p fr s a ws next ticks W) (o : Obj) : Ready w0 own pb yb nb tb l p fr s a ws next ticks (W.alloc o) :=
  ⟨by have := h.big; simp; omega, heap_alloc' h.pbox o, heap_alloc' h.ybox o, heap_alloc' h.nbox o, heap_alloc' h.tbox o, h.row.below (below_new _ _)⟩
theorem Ready.drew (h : Ready w0 own pb yb nb tb l p fr s a ws next ticks W) : Ready w0 own pb yb nb tb l p fr s a ws next ticks W.drew :=
  ⟨h.big, h.pbox, h.ybox, h.nbox, h.tbox, h.row⟩
theorem Ready.setN (h : Ready w0 own pb yb nb tb l p fr s a ws next ticks W) (hp : Places w0 own pb yb nb tb l a) (n : Int) : Ready w0 own pb yb nb tb l p fr s a ws n ticks (W.setCell ⟨nb, 0, none⟩ (.int .u64 n)) := by
  have h1 := hp.p1; have h2 := hp.p5; have h3 := hp.p6; have h4 := hp.p7; have h5 := hp.p8
  exact ⟨by simp; exact h.big, heap_set_ne h.pbox (by omega) _, heap_set_ne h.ybox (by omega) _, heap_set h.nbox _, heap_set_ne h.tbox (by omega) _,
    h.row.belowB ((Below.refl w0.heap.size W).setCell (p := ⟨nb, 0, none⟩) (by show w0.heap.size ≤ nb; omega) _) (fun b o e => (hp.p3 b o e).1)⟩
theorem Ready.setT (h : Ready w0 own pb yb nb tb l p fr s a ws next ticks W) (hp : Places w0 own pb yb nb tb l a) (n : Int) : Ready w0 own pb yb nb tb l p fr s a ws next n (W.setCell ⟨tb, 0, none⟩ (.int .u64 n)) := by
  have h1 := hp.p1; have h2 := hp.p5; have h3 := hp.p6; have h4 := hp.p7; have h5 := hp.p8
  exact ⟨by simp; exact h.big, heap_set_ne h.pbox (by omega) _, heap_set_ne h.ybox (by omega) _, heap_set_ne h.nbox (by omega) _, heap_set h.tbox _,
    h.row.belowB ((Below.refl w0.heap.size W).setCell (p := ⟨tb, 0, none⟩) (by show w0.heap.size ≤ tb; omega) _) (fun b o e => (hp.p3 b o e).1)⟩
theorem Ready.kpm {W' : World} (h : Ready w0 own pb yb nb tb l p fr s a ws next ticks W) (hp : Places w0 own pb yb nb tb l a) (hk : KpM own l W W') : Ready w0 own pb yb nb tb l p fr s a ws next ticks W' := by
  have h1 := hp.p1; have h2 := hp.p5; have h3 := hp.p6; have h4 := hp.p7; have h5 := hp.p8
  have no : ∀ b, w0.heap.size ≤ b → ¬ own b := fun b hb ho => by have := hp.p4 b ho; omega
  exact ⟨Nat.le_trans h.big hk.1, hk.heap h.pbox (by omega) hp.p2, hk.heap h.ybox (by omega) (no _ (by omega)), hk.heap h.nbox (by omega) (no _ (by omega)), hk.heap h.tbox (by omega) (no _ (by omega)),
    h.row.kpm hk (fun b o e => ⟨by have := (hp.p3 b o e).1; omega, (hp.p3 b o e).2⟩)⟩
theorem Ready.cells (h : Ready w0 own pb yb nb tb l p fr s a ws next ticks W) :
    W.cell? ⟨pb, 2, none⟩ = some (.int .u64 p.period) ∧ W.cell? ⟨pb, 4, none⟩ = some (.int .u64 fr) ∧ W.cell? ⟨pb, 5, none⟩ = some s ∧ W.cell? ⟨yb, 0, none⟩ = some (.func (.yield l) #[] #[]) ∧
    W.cell? ⟨nb, 0, none⟩ = some (.int .u64 next) ∧ W.cell? ⟨tb, 0, none⟩ = some (.int .u64 ticks) ∧ W.frozen? ⟨nb, 0, none⟩ = false ∧ W.frozen? ⟨tb, 0, none⟩ = false :=
  ⟨cell_of_heap h.pbox rfl, cell_of_heap h.pbox rfl, cell_of_heap h.pbox rfl, cell_of_heap h.ybox rfl, cell_of_heap h.nbox rfl, cell_of_heap h.tbox rfl, free_of_heap h.nbox, free_of_heap h.tbox⟩
theorem Ready.lt (h : Ready w0 own pb yb nb tb l p fr s a ws next ticks W) : pb < W.heap.size ∧ yb < W.heap.size ∧ nb < W.heap.size ∧ tb < W.heap.size :=
  ⟨lt_of_block h.pbox, lt_of_block h.ybox, lt_of_block h.nbox, lt_of_block h.tbox⟩
end

/-- .. and a window lies in a box -/
def RX (w0 : World) (own : Nat → Prop) (pb yb nb tb l : Nat) (p : Part) (fr : Int) (s : Value) (a : Option Addr) (ws : List Win) (next ticks : Int) (xb : Nat) (x : Win) (W : World) : Prop :=
  Ready w0 own pb yb nb tb l p fr s a ws next ticks W ∧ tb < xb ∧ W.heap[xb]? = some (.cells #[.int .u64 x.start, .int .u64 x.len, .int .u16 x.part] 91 (0, 0))
section
variable {w0 : World} {own : Nat → Prop} {pb yb nb tb l : Nat} {p : Part} {fr : Int} {s : Value} {a : Option Addr} {ws : List Win} {next ticks : Int} {W : World} {xb : Nat} {x : Win}
theorem RX.drew (h : RX w0 own pb yb nb tb l p fr s a ws next ticks xb x W) : RX w0 own pb yb nb tb l p fr s a ws next ticks xb x W.drew := ⟨h.1.drew, h.2.1, h.2.2⟩
theorem RX.setN (h : RX w0 own pb yb nb tb l p fr s a ws next ticks xb x W) (hp : Places w0 own pb yb nb tb l a) (n : Int) : RX w0 own pb yb nb tb l p fr s a ws n ticks xb x (W.setCell ⟨nb, 0, none⟩ (.int .u64 n)) :=
  ⟨h.1.setN hp n, h.2.1, heap_set_ne h.2.2 (by have := hp.p8; have := h.2.1; omega) _⟩
theorem RX.setT (h : RX w0 own pb yb nb tb l p fr s a ws next ticks xb x W) (hp : Places w0 own pb yb nb tb l a) (n : Int) : RX w0 own pb yb nb tb l p fr s a ws next n xb x (W.setCell ⟨tb, 0, none⟩ (.int .u64 n)) :=
  ⟨h.1.setT hp n, h.2.1, heap_set_ne h.2.2 (by have := h.2.1; omega) _⟩
theorem RX.kpm {W' : World} (h : RX w0 own pb yb nb tb l p fr s a ws next ticks xb x W) (hp : Places w0 own pb yb nb tb l a) (hk : KpM own l W W') : RX w0 own pb yb nb tb l p fr s a ws next ticks xb x W' := by
  have h1 := hp.p5; have h2 := hp.p6; have h3 := hp.p7; have h4 := hp.p8; have h5 := h.2.1
  exact ⟨h.1.kpm hp hk, h.2.1, hk.heap h.2.2 (by omega) (fun ho => by have := hp.p4 xb ho; omega)⟩
end

section
variable {P count : Int} {w : Win} {ws : List Win} {next ticks : Int}
theorem genE_yes (h : next < count) : genE P count next = [(next, 0)] := by unfold genE; rw [if_pos h]
theorem genE_no (h : ¬ next < count) : genE P count next = [] := by unfold genE; rw [if_neg h]
theorem genA_yes (h1 : 0 < ticks) (h2 : next < w.start / P) : genA P count (w :: ws) next ticks = (next, ticks) :: genB P count w ws (next + 1) 0 := by rw [genA, if_pos ⟨h1, h2⟩]
theorem genA_no (h : ¬ (0 < ticks ∧ next < w.start / P)) : genA P count (w :: ws) next ticks = genB P count w ws next ticks := by rw [genA, if_neg h]
theorem genB_yes (h : next < w.start / P) : genB P count w ws next ticks = (next, 0) :: genC P count w ws 0 := by rw [genB, if_pos h]
theorem genB_no (h : ¬ next < w.start / P) : genB P count w ws next ticks = genC P count w ws ticks := by rw [genB, if_neg h]
theorem genC_eq (h : w.start / P = (w.start + w.len - 1) / P) : genC P count w ws ticks = genA P count ws (w.start / P) (ticks + w.len) := by rw [genC, if_pos h]
theorem genC_ne (h : ¬ w.start / P = (w.start + w.len - 1) / P) : genC P count w ws ticks = (w.start / P, ticks + (w.start / P + 1) * P - w.start) :: genD P count w ws := by rw [genC, if_neg h]
theorem genD_yes (h : w.start / P + 1 < (w.start + w.len - 1) / P) : genD P count w ws = (w.start / P + 1, P) :: genA P count ws ((w.start + w.len - 1) / P) (w.start + w.len - (w.start + w.len - 1) / P * P) := by rw [genD, if_pos h]
theorem genD_no (h : ¬ w.start / P + 1 < (w.start + w.len - 1) / P) : genD P count w ws = genA P count ws ((w.start + w.len - 1) / P) (w.start + w.len - (w.start + w.len - 1) / P * P) := by rw [genD, if_neg h]
end

theorem wp_cutIn {F : Fence} {n : Nat} {P : Program} {c : Code} {Q : Exit → Act → World → Prop} {a : Act} {W : World} (H : World → Prop) (hH : H W) (h : ∀ W, H W → c.wpIn F n P Q a W) : c.wpIn F n P Q a W := h W hH

/-- all periods that are visited -/
def yields (p : Part) (count : Int) (ws : List Win) : List (Int × Int) := genA p.period count ws 0 0

set_option maxHeartbeats 40000000 in
set_option maxRecDepth 100000 in
theorem periods_in (m : Nat) (w0 : World) (own : Nat → Prop) (pb : Nat) (p : Part) (fr : Int) (a : Option Addr) (cap : Nat) (ws : List Win) (count : Int) (hP : 0 < p.period) (hok : U64 p.period) (hfr : U64 fr) (hF : fr = count * p.period) (hlen : ws.length * 24 ≤ 140737488351232) (hch : Chain fr 0 ws)
    (hpb : w0.heap[pb]? = some (.cells #[.int .u16 p.id, .string p.name, .int .u64 p.period, .int .u64 p.dur, .int .u64 fr, .slice a ws.length cap] 94 (0, 0))) (hrow : RowAt 3 encWin w0 a ws)
    (hown : ¬ own pb) (hrown : ∀ b o, a = some ⟨b, o, none⟩ → b < w0.heap.size ∧ ¬ own b) (howns : ∀ b, own b → b < w0.heap.size) :
    SeqB Fence.wide m Try.prog 101 #[.pointer (some ⟨pb, 0, none⟩)] (fun x : Int × Int => #[.int .u64 x.1, .int .u64 x.2]) (KpM own) (fun xs => xs = yields p count ws) (fun pre => ∃ post, pre ++ post = yields p count ws ∧ pre ≠ []) w0 := by
  intro l J Jx W hl hlW hbW hJ hJx hY h0
  have hlt := lt_of_block hpb
  unfold U64 at hok hfr
  have hq : fr / p.period = count := by rw [hF]; exact Int.mul_ediv_cancel _ (by omega)
  have hct0 : 0 ≤ count := by rw [← hq]; exact Int.ediv_nonneg hfr.1 (by omega)
  have hct1 : count ≤ fr := by have := Int.mul_le_mul_of_nonneg_left (show (1 : Int) ≤ p.period by omega) hct0; omega
  have HF := hid hF
  clear hF
  have HY : Rounds (m - 1) l own J Jx := hY
  have hbig := hbW.size
  refine callsIn_of_wp Try.func101 rfl trivial ?_ rfl
  simp only [Try.ntmps101, List.size_toArray, List.length_cons, List.length_nil, Nat.reduceAdd, Nat.reduceSub, Array.replicate_succ, Array.replicate_zero, List.push_toArray, List.append_toArray, List.nil_append, List.cons_append]
  have hpbW := heap_keep hpb hbW
  have p2 := cell_of_heap (i := 2) hpbW rfl
  have p4 := cell_of_heap (i := 4) hpbW rfl
  have p5 : W.cell? ⟨pb, 5, none⟩ = some (.slice a ws.length cap) := cell_of_heap hpbW rfl
  have hnP : ¬ p.period = 0 := by omega
  have hltW : pb < W.heap.size := by omega
  have hH : Ready w0 own pb W.heap.size (W.heap.size + 1) (W.heap.size + 2) l p fr (.slice a ws.length cap) a ws 0 0 (((W.alloc (.cells #[.func (.yield l) #[] #[]] 97)).alloc (.cells #[.int .u64 0] 22)).alloc (.cells #[.int .u64 0] 22)) :=
    ⟨by simp; omega, by repeat (first | exact hpbW | refine heap_alloc' ?_ _), by repeat (first | (refine heap_at ?_; simp; done) | refine heap_alloc' ?_ _), by repeat (first | (refine heap_at ?_; simp; done) | refine heap_alloc' ?_ _), by repeat (first | (refine heap_at ?_; simp; done) | refine heap_alloc' ?_ _),
      (hrow.below hbW).below (((below_new _ _).alloc (by simp) _).alloc (by simp; omega) _)⟩
  have hJ3 : J [] (((W.alloc (.cells #[.func (.yield l) #[] #[]] 97)).alloc (.cells #[.int .u64 0] 22)).alloc (.cells #[.int .u64 0] 22)) :=
    hJ _ _ _ h0 (((below_new _ _).alloc (by simp) _).alloc (by simp; omega) _)
  have hpl : Places w0 own pb W.heap.size (W.heap.size + 1) (W.heap.size + 2) l a := ⟨hlt, hown, hrown, howns, hl, hlW, by omega, by omega⟩
  have HH := hid hH
  have HJ3 := hid hJ3
  have Hpl := hid hpl
  have Hrow := hid hrow
  have HJ := hid hJ
  have Hch := hid hch
  have HYY := hid HY
  have q5 : (((W.alloc (.cells #[.func (.yield l) #[] #[]] 97)).alloc (.cells #[.int .u64 0] 22)).alloc (.cells #[.int .u64 0] 22)).cell? ⟨pb, 5, none⟩ = some (.slice a ws.length cap) := hH.cells.2.2.1
  clear hpb hrow hY h0 HY hH hJ3 hpl hbW hpbW hJ hJx hch hown hrown howns
  gi_wp2
  refine wp_cutIn (fun W3 => Ready w0 own pb W.heap.size (W.heap.size + 1) (W.heap.size + 2) l p fr (.slice a ws.length cap) a ws 0 0 W3 ∧ J [] W3) ⟨HH.out, HJ3.out⟩ ?_
  rintro W3 ⟨hR3, hJ30⟩
  have HR3 := hid hR3
  have HJ30 := hid hJ30
  clear HH HJ3 q5 p2 p4 p5 hR3 hJ30
  obtain ⟨yb, hyb⟩ : ∃ yb, W.heap.size = yb := ⟨_, rfl⟩
  obtain ⟨nb, hnb⟩ : ∃ nb, yb + 1 = nb := ⟨_, rfl⟩
  obtain ⟨tb, htb⟩ : ∃ tb, nb + 1 = tb := ⟨_, rfl⟩
  rw [hyb, hnb, show yb + 2 = tb by omega] at HR3 Hpl
  rw [hyb] at HJ
  rw [hyb, hnb, htb]
  obtain ⟨P, hPP⟩ : ∃ P, p.period = P := ⟨_, rfl⟩
  rw [hPP] at hP hok hnP hq ⊢
  have HPP := hid hPP
  clear hPP
  rw [hq]
  gi_loopw [22] (fun i wr => ∃ (j : Nat) (next ticks : Int) (pre : List (Int × Int)), i = .int .i64 j ∧ j ≤ ws.length ∧ 0 ≤ next ∧ 0 ≤ ticks ∧ Hid ((∃ E, Chain fr E (ws.drop j) ∧ next * P + ticks ≤ E) ∧
    pre ++ genA P count (ws.drop j) next ticks = yields p count ws ∧ Ready w0 own pb yb nb tb l p fr (.slice a ws.length cap) a ws next ticks wr ∧ J pre wr)) (fun i _ => ws.length - (intOf i).toNat)
  case atStart => exact ⟨0, 0, 0, [], rfl, Nat.zero_le _, Int.le_refl _, Int.le_refl _, ⟨0, Hch.out, by omega⟩, by rw [List.nil_append, ← HPP.out]; rfl, HR3.out, HJ30.out⟩
  case round =>
    obtain ⟨j, next, ticks, pre, rfl, hjn, hn0, ht0, hI⟩ := hrel
    by_cases hlt : j < ws.length
    · obtain ⟨⟨E, hchE, hE⟩, hgen, hrdy, hJp⟩ := hI.out
      obtain ⟨b, o, rfl, hb0, h0, h1, h2⟩ := hrdy.row.win hlt
      have hdrop : ws.drop j = ws[j] :: ws.drop (j + 1) := List.drop_eq_getElem_cons hlt
      rw [hdrop] at hchE hgen
      obtain ⟨x, hx⟩ : ∃ x, ws[j] = x := ⟨_, rfl⟩
      obtain ⟨rest, hrest⟩ : ∃ rest, ws.drop (j + 1) = rest := ⟨_, rfl⟩
      rw [hx] at h0 h1 h2
      rw [hx, hrest] at hchE hgen
      obtain ⟨c1, c2, c3, c4⟩ := hchE
      have hfacts := div_facts hP x.start
      have hfacts2 := div_facts hP (x.start + x.len - 1)
      obtain ⟨first, hfirst⟩ : ∃ first, x.start / P = first := ⟨_, rfl⟩
      obtain ⟨last, hlast⟩ : ∃ last, (x.start + x.len - 1) / P = last := ⟨_, rfl⟩
      rw [hfirst] at hfacts
      rw [hlast] at hfacts2
      have hx0 : 0 ≤ x.start := by
        have := Int.mul_nonneg hn0 (show (0 : Int) ≤ P by omega)
        omega
      have hf0 : 0 ≤ first := by rw [← hfirst]; exact Int.ediv_nonneg hx0 (by omega)
      have hnf : next ≤ first := by
        rcases Int.lt_or_le first next with h | h
        · have := step_le hP h; omega
        · exact h
      have hfl : first ≤ last := by
        rcases Int.lt_or_le last first with h | h
        · have := step_le hP h; omega
        · exact h
      have hlc : last < count := by
        refine lt_of_mul hP ?_
        have := HF.out
        rw [HPP.out] at this
        omega
      have hlc2 := step_le hP hlc
      have hcfr : count * P = fr := by have := HF.out; rw [HPP.out] at this; omega
      have hcle : count ≤ count * P := by have := Int.mul_le_mul_of_nonneg_left (show (1 : Int) ≤ P by omega) (show 0 ≤ count by omega); omega
      rw [hcfr] at hlc2 hcle
      obtain ⟨m1, hm1⟩ : ∃ m1, (first + 1) * P = m1 := ⟨_, rfl⟩
      obtain ⟨m2, hm2⟩ : ∃ m2, last * P = m2 := ⟨_, rfl⟩
      obtain ⟨m3, hm3⟩ : ∃ m3, first * P = m3 := ⟨_, rfl⟩
      have hm13 : m1 = m3 + P := by rw [← hm1, ← hm3, succ_mul']
      rw [hm3] at hfacts
      rw [hm2] at hfacts2 hlc2
      obtain ⟨r1, r2, r3, r4, r5, r6, r7, r8⟩ := hrdy.cells
      obtain ⟨s1, s2, s3, s4⟩ := hrdy.lt
      rw [HPP.out] at r1
      have HJp := hid hJp
      have Hrdy := hid hrdy
      have Hgen := hid hgen
      have Hc4 := hid c4
      have hm13a : m1 ≤ m3 + P := by omega
      have hm13b : m3 + P ≤ m1 := by omega
      have Hm1 := hid hm1
      have Hm2 := hid hm2
      have Hm3 := hid hm3
      have hm30 : 0 ≤ m3 := by rw [← hm3]; exact Int.mul_nonneg hf0 (by omega)
      have hEE : m3 + (if next = first then ticks else 0) ≤ x.start := by
        split
        · rename_i h; rw [← hm3, ← h]; omega
        · omega
      have hne1 : nb ≠ tb := by omega
      have hne2 : tb ≠ nb := by omega
      have hne3 : pb ≠ nb := by have := Hpl.out.p1; have := Hpl.out.p5; have := Hpl.out.p6; omega
      have hne4 : pb ≠ tb := by omega
      have hne5 : pb ≠ yb := by omega
      clear hJp hrdy hgen c4 hdrop hm13 hm3 hx hE hcfr
      gi_wp2
      gi_region
      rw [hfirst]
      generalize hW5 : ((wr.alloc (.cells #[.int .u64 x.start, .int .u64 x.len, .int .u16 x.part] 91)).drew) = W5
      have htbw : tb < wr.heap.size := s4
      have S0 : Hid (RX w0 own pb yb nb tb l p fr (.slice (some ⟨b, o, none⟩) ws.length cap) (some ⟨b, o, none⟩) ws next ticks wr.heap.size x W5) := by
        rw [← hW5]
        exact ⟨(Hrdy.out.alloc _).drew, htbw, heap_new wr _⟩
      have J0 : Hid (J pre W5) := by
        rw [← hW5]
        exact HJ.out _ _ _ HJp.out (((Below.refl _ _).alloc (by show yb ≤ wr.heap.size; omega) _).drew)
      obtain ⟨xb, hxb⟩ : ∃ xb, wr.heap.size = xb := ⟨_, rfl⟩
      rw [hxb] at S0 htbw ⊢
      have hne6 : xb ≠ nb := by omega
      have hne7 : xb ≠ tb := by omega
      clear hW5 r1 r2 r3 r4 r5 r6 r7 r8 s1 s2 s3 s4 h0 h1 h2 Hrdy HJp
      obtain ⟨r1, r2, r3, r4, r5, r6, r7, r8⟩ := S0.out.1.cells
      rw [HPP.out] at r1
      obtain ⟨s1, s2, s3, s4⟩ := S0.out.1.lt
      have x0 := cell_of_heap (i := 0) S0.out.2.2 rfl
      have x1 := cell_of_heap (i := 1) S0.out.2.2 rfl
      have x2 := cell_of_heap (i := 2) S0.out.2.2 rfl
      have HAno : Hid (next < first → ¬ (0 < ticks ∧ next < first) → ticks = 0) := fun h1 h2 => by omega
      gi_upto_region 10 with fail
      rw [hlast]
      gi_cut [54] from 131 (fun s54 wc => s54 = .bool (decide (0 < ticks ∧ next < first)) ∧ wc = W5)
      case first =>
        by_cases hA1 : 0 < ticks
        · by_cases hA2 : next < first
          · have hd : decide (0 < ticks ∧ next < first) = true := by simp [hA1, hA2]
            gi_wp2_with fail
            gi_meet
            case rel => exact ⟨by rw [hd], rfl⟩
          · have hd : decide (0 < ticks ∧ next < first) = false := by simp [hA2]
            gi_wp2_with fail
            gi_meet
            case rel => exact ⟨by rw [hd], rfl⟩
        · have hd : decide (0 < ticks ∧ next < first) = false := by simp [hA1]
          gi_wp2_with fail
          gi_meet
          case rel => exact ⟨by rw [hd], rfl⟩
      case rest =>
        obtain ⟨rfl, rfl⟩ := hcut
        gi_upto_if 54 with fail
        gi_cut [54] from 131 (fun _ wc => ∃ (n1 t1 : Int) (pre1 : List (Int × Int)), 0 ≤ n1 ∧ n1 ≤ first ∧ 0 ≤ t1 ∧ Hid ((n1 < first → t1 = 0) ∧ m3 + t1 ≤ x.start ∧ pre1 ++ genB P count x rest n1 t1 = yields p count ws ∧
          RX w0 own pb yb nb tb l p fr (.slice (some ⟨b, o, none⟩) ws.length cap) (some ⟨b, o, none⟩) ws n1 t1 xb x wc ∧ J pre1 wc))
        case first =>
          by_cases hA : 0 < ticks ∧ next < first
          · have hd : decide (0 < ticks ∧ next < first) = true := by simp [hA]
            rw [hd]
            have GA := hid ((Hgen.out.symm.trans (by rw [genA_yes hA.1 (by rw [hfirst]; exact hA.2)])).symm : pre ++ (next, ticks) :: genB P count x rest (next + 1) 0 = yields p count ws)
            have hA2 := hA.2
            clear hA hd
            gi_wp2_with fail
            clear r1 r2 r3 r4 r5 r6 r7 r8 s1 s2 s3 s4 x0 x1 x2
            refine ⟨trivial, fun h => (by cases h), ?_⟩
            have hcall := done_c (m - 1) (m - 1) l yb nb tb yb own J Jx HJ.out HYY.out (by omega) (by omega) hne1 (by omega) (by omega) _ pre (next) (ticks) _ _ (by omega) (by omega) S0.out.1.nbox S0.out.1.tbox S0.out.1.ybox J0.out
            with_reducible refine hcall.mono ?_
            clear hcall
            rintro e V1 (⟨rfl, hJn, hKn⟩ | ⟨rfl, hXn⟩)
            · have S1 := hid (RX.kpm (RX.setT (RX.setN S0.out Hpl.out (next + 1)) Hpl.out 0) Hpl.out hKn)
              have J1 := hid hJn
              clear hJn hKn
              gi_wp2_with fail
              gi_meet
              case rel => exact ⟨next + 1, 0, _, by omega, by omega, Int.le_refl _, fun _ => rfl, by omega, (List.append_assoc _ [(next, ticks)] _).trans GA.out, S1.out, J1.out⟩
            · have HXn := hid hXn
              clear hXn
              gi_wp2
              refine bodyPost_ret (results_none rfl _ _ _) rfl ?_
              exact ⟨⟨_, rfl⟩, .inr ⟨_, ⟨_, (List.append_assoc _ _ _).trans GA.out, by simp⟩, HXn.out⟩⟩
          · have hd : decide (0 < ticks ∧ next < first) = false := by simp only [decide_eq_false_iff_not]; exact hA
            rw [hd]
            have GA := hid ((Hgen.out.symm.trans (by rw [genA_no (by rw [hfirst]; exact hA)])).symm : pre ++ genB P count x rest next ticks = yields p count ws)
            have hz : next < first → ticks = 0 := fun h => by omega
            have hm0 : m3 + ticks ≤ x.start := by
              rcases Int.lt_or_eq_of_le hnf with h | h
              · rw [hz h]; omega
              · rw [if_pos h] at hEE; exact hEE
            have Hz := hid hz
            have Hm0 := hid hm0
            clear hA hd hz hm0 r1 r2 r3 r4 r5 r6 r7 r8 s1 s2 s3 s4 x0 x1 x2
            gi_wp2_with fail
            gi_meet
            case rel => exact ⟨next, ticks, pre, hn0, hnf, ht0, Hz.out, Hm0.out, GA.out, S0.out, J0.out⟩
        case rest =>
          obtain ⟨n1, t1, pre1, hn10, hn1f, ht10, hI1⟩ := hcut
          clear r1 r2 r3 r4 r5 r6 r7 r8 s1 s2 s3 s4 x0 x1 x2 S0 J0 Hgen HAno hEE
          obtain ⟨W6, hW6⟩ : ∃ W6, wc = W6 := ⟨_, rfl⟩
          rw [hW6] at hI1 ⊢
          clear hW6 wc
          have S1 := hid hI1.out.2.2.2.1
          have J1 := hid hI1.out.2.2.2.2
          have H1 := hid hI1.out.1
          have M1 := hid hI1.out.2.1
          have G1 := hid hI1.out.2.2.1
          clear hI1
          obtain ⟨r1, r2, r3, r4, r5, r6, r7, r8⟩ := S1.out.1.cells
          rw [HPP.out] at r1
          obtain ⟨s1, s2, s3, s4⟩ := S1.out.1.lt
          have x0 := cell_of_heap (i := 0) S1.out.2.2 rfl
          have x1 := cell_of_heap (i := 1) S1.out.2.2 rfl
          have x2 := cell_of_heap (i := 2) S1.out.2.2 rfl
          gi_upto_region 12 with fail
          gi_cut [66] from 131 (fun s66 wc => (s66 = .bool false ∧ ∃ (n2 t2 : Int) (pre2 : List (Int × Int)), 0 ≤ n2 ∧ n2 ≤ first ∧ 0 ≤ t2 ∧ m3 + t2 ≤ x.start ∧ Hid (pre2 ++ genC P count x rest t2 = yields p count ws ∧
            RX w0 own pb yb nb tb l p fr (.slice (some ⟨b, o, none⟩) ws.length cap) (some ⟨b, o, none⟩) ws n2 t2 xb x wc ∧ J pre2 wc)) ∨ (s66 = .bool true ∧ Hid (∃ pre2, (∃ post, pre2 ++ post = yields p count ws ∧ pre2 ≠ []) ∧ Jx pre2 wc)))
          case first =>
            by_cases hB : n1 < first
            · obtain rfl : t1 = 0 := H1.out hB
              have GB := hid ((G1.out.symm.trans (by rw [genB_yes (by rw [hfirst]; exact hB)])).symm : pre1 ++ (n1, 0) :: genC P count x rest 0 = yields p count ws)
              gi_wp2_with fail
              clear r1 r2 r3 r4 r5 r6 r7 r8 s1 s2 s3 s4 x0 x1 x2
              refine ⟨trivial, fun h => (by cases h), ?_⟩
              have hcall := done_c (m - 1) (m - 1) l yb nb tb yb own J Jx HJ.out HYY.out (by omega) (by omega) hne1 (by omega) (by omega) _ pre1 (n1) (0) _ _ (by omega) (by omega) S1.out.1.nbox S1.out.1.tbox S1.out.1.ybox J1.out
              with_reducible refine hcall.mono ?_
              clear hcall
              rintro e V2 (⟨rfl, hJn, hKn⟩ | ⟨rfl, hXn⟩)
              · have S2 := hid (RX.kpm (RX.setT (RX.setN S1.out Hpl.out (n1 + 1)) Hpl.out 0) Hpl.out hKn)
                have J2 := hid hJn
                clear hJn hKn
                gi_wp2_with fail
                gi_meet
                case rel => exact .inl ⟨rfl, n1 + 1, 0, _, by omega, by omega, Int.le_refl _, by omega, (List.append_assoc _ [(n1, 0)] _).trans GB.out, S2.out, J2.out⟩
              · have HXn := hid hXn
                clear hXn
                gi_wp2_with fail
                gi_meet
                case rel => exact .inr ⟨rfl, _, ⟨_, (List.append_assoc _ _ _).trans GB.out, by simp⟩, HXn.out⟩
            · have GB := hid ((G1.out.symm.trans (by rw [genB_no (by rw [hfirst]; exact hB)])).symm : pre1 ++ genC P count x rest t1 = yields p count ws)
              gi_wp2_with fail
              refine ⟨fun _ h => (by cases h), ?_⟩
              gi_wp2_with fail
              gi_meet
              case rel => exact .inl ⟨rfl, n1, t1, pre1, hn10, hn1f, ht10, M1.out, GB.out, S1.out, J1.out⟩
          case rest =>
            clear r1 r2 r3 r4 r5 r6 r7 r8 s1 s2 s3 s4 x0 x1 x2 S1 J1 H1 M1 G1
            obtain ⟨W7, hW7⟩ : ∃ W7, wc = W7 := ⟨_, rfl⟩
            rw [hW7] at hcut ⊢
            clear hW7 wc
            rcases hcut with ⟨rfl, n2, t2, pre2, hn20, hn2f, ht20, hm20, hI2⟩ | ⟨rfl, hI2⟩
            rotate_left
            · gi_wp2
              refine bodyPost_ret (results_none rfl _ _ _) rfl ?_
              exact ⟨⟨_, rfl⟩, .inr hI2.out⟩
            have S2 := hid hI2.out.2.1
            have J2 := hid hI2.out.2.2
            have G2 := hid hI2.out.1
            clear hI2
            obtain ⟨r1, r2, r3, r4, r5, r6, r7, r8⟩ := S2.out.1.cells
            rw [HPP.out] at r1
            obtain ⟨s1, s2, s3, s4⟩ := S2.out.1.lt
            have x0 := cell_of_heap (i := 0) S2.out.2.2 rfl
            have x1 := cell_of_heap (i := 1) S2.out.2.2 rfl
            have x2 := cell_of_heap (i := 2) S2.out.2.2 rfl
            gi_upto_if 69 with fail
            gi_cut [69] from 131 (fun _ wc => Hid (RX w0 own pb yb nb tb l p fr (.slice (some ⟨b, o, none⟩) ws.length cap) (some ⟨b, o, none⟩) ws first t2 xb x wc ∧ J pre2 wc))
            case first =>
              by_cases hL : n2 < first
              · have hd : decide (n2 < first) = true := by simp [hL]
                gi_wp2_with fail
                gi_meet
                case rel => exact ⟨RX.setN S2.out Hpl.out first, HJ.out _ _ _ J2.out ((Below.refl yb _).setCell (p := ⟨nb, 0, none⟩) (by show yb ≤ nb; omega) (.int .u64 first))⟩
              · have hd : decide (n2 < first) = false := by simp [hL]
                have he : Hid (n2 = first) := by show n2 = first; omega
                gi_wp2_with fail
                gi_meet
                case rel => exact ⟨by rw [← he.out]; exact S2.out, J2.out⟩
            case rest =>
              clear r1 r2 r3 r4 r5 r6 r7 r8 s1 s2 s3 s4 x0 x1 x2 S2 J2
              obtain ⟨W8, hW8⟩ : ∃ W8, wc = W8 := ⟨_, rfl⟩
              rw [hW8] at hcut ⊢
              clear hW8 wc
              have S3 := hid hcut.out.1
              have J3 := hid hcut.out.2
              clear hcut
              obtain ⟨r1, r2, r3, r4, r5, r6, r7, r8⟩ := S3.out.1.cells
              rw [HPP.out] at r1
              obtain ⟨s1, s2, s3, s4⟩ := S3.out.1.lt
              have x0 := cell_of_heap (i := 0) S3.out.2.2 rfl
              have x1 := cell_of_heap (i := 1) S3.out.2.2 rfl
              have x2 := cell_of_heap (i := 2) S3.out.2.2 rfl
              by_cases hC : first = last
              · have hCb : (first == last) = true := by simpa using hC
                have hC1 : last ≤ first := by omega
                have HC := hid hC
                have hmt1 : t2 + x.len ≤ 18446744073709551615 := by omega
                clear hC
                gi_wp2
                refine ⟨⟨j + 1, first, t2 + x.len, pre2, by go_num, by omega, by omega, by omega, ?_⟩, by simp [intOf]; omega⟩
                refine ⟨⟨x.start + x.len, by rw [hrest]; exact Hc4.out, by rw [Hm3.out]; omega⟩, ?_, (RX.setT S3.out Hpl.out (t2 + x.len)).1, HJ.out _ _ _ J3.out ((Below.refl yb _).setCell (p := ⟨tb, 0, none⟩) (by show yb ≤ tb; omega) _)⟩
                rw [hrest, ← G2.out, genC_eq (by rw [hfirst, hlast]; exact HC.out), hfirst]
              · have hCb : (first == last) = false := by simpa using hC
                have hC1 : first < last := by omega
                have HC := hid hC
                have hmt0 := step_le hP hC1
                rw [Hm3.out, Hm2.out] at hmt0
                have hmt1 : t2 + m1 ≤ 18446744073709551615 := by omega
                have hmt2 : 0 ≤ t2 + m1 - x.start := by omega
                have hmt3 : 0 ≤ m1 := by omega
                have hmt4 : m1 ≤ 18446744073709551615 := by omega
                have G3 := hid ((G2.out.symm.trans (by rw [genC_ne (by rw [hfirst, hlast]; exact HC.out), hfirst, Hm1.out])).symm : pre2 ++ (first, t2 + m1 - x.start) :: genD P count x rest = yields p count ws)
                clear hC
                gi_wp2_with fail
                clear r1 r2 r3 r4 r5 r6 r7 r8 s1 s2 s3 s4 x0 x1 x2
                refine ⟨trivial, fun h => (by cases h), ?_⟩
                have hcall := done_c (m - 1) (m - 1) l yb nb tb yb own J Jx HJ.out HYY.out (by omega) (by omega) hne1 (by omega) (by omega) _ pre2 (first) (t2 + m1 - x.start) _ _ (by omega) (by omega) S3.out.1.nbox S3.out.1.tbox S3.out.1.ybox J3.out
                with_reducible refine hcall.mono ?_
                clear hcall
                rintro e V4 (⟨rfl, hJn, hKn⟩ | ⟨rfl, hXn⟩)
                rotate_left
                · have HXn := hid hXn
                  clear hXn
                  gi_wp2
                  refine bodyPost_ret (results_none rfl _ _ _) rfl ?_
                  exact ⟨⟨_, rfl⟩, .inr ⟨_, ⟨_, (List.append_assoc _ _ _).trans G3.out, by simp⟩, HXn.out⟩⟩
                have S4 := hid (RX.kpm (RX.setT (RX.setN S3.out Hpl.out (first + 1)) Hpl.out 0) Hpl.out hKn)
                have J4 := hid hJn
                have G4 := hid ((List.append_assoc _ [(first, t2 + m1 - x.start)] _).trans G3.out)
                clear hJn hKn S3 J3 G3 G2
                obtain ⟨r1, r2, r3, r4, r5, r6, r7, r8⟩ := S4.out.1.cells
                rw [HPP.out] at r1
                obtain ⟨s1, s2, s3, s4⟩ := S4.out.1.lt
                have x0 := cell_of_heap (i := 0) S4.out.2.2 rfl
                have x1 := cell_of_heap (i := 1) S4.out.2.2 rfl
                have x2 := cell_of_heap (i := 2) S4.out.2.2 rfl
                gi_upto_region 18 with fail
                gi_cut [91, 102] from 131 (fun _ s102 wc => (s102 = .bool false ∧ Hid (∃ (n3 t3 : Int) (pre3 : List (Int × Int)), pre3 ++ genA P count rest last (x.start + x.len - m2) = yields p count ws ∧
                  RX w0 own pb yb nb tb l p fr (.slice (some ⟨b, o, none⟩) ws.length cap) (some ⟨b, o, none⟩) ws n3 t3 xb x wc ∧ J pre3 wc)) ∨ (s102 = .bool true ∧ Hid (∃ pre2, (∃ post, pre2 ++ post = yields p count ws ∧ pre2 ≠ []) ∧ Jx pre2 wc)))
                case first =>
                  by_cases hD : first + 1 < last
                  · have GD := hid ((G4.out.symm.trans (by rw [genD_yes (by rw [hfirst, hlast]; exact hD), hfirst, hlast, Hm2.out])).symm : (pre2 ++ [(first, t2 + m1 - x.start)]) ++ (first + 1, P) :: genA P count rest last (x.start + x.len - m2) = yields p count ws)
                    gi_wp2_with fail
                    clear r1 r2 r3 r4 r5 r6 r7 r8 s1 s2 s3 s4 x0 x1 x2
                    refine ⟨trivial, fun h => (by cases h), ?_⟩
                    have hcall := done_c (m - 1) (m - 1) l yb nb tb yb own J Jx HJ.out HYY.out (by omega) (by omega) hne1 (by omega) (by omega) _ _ (first + 1) P _ _ (by omega) (by omega) S4.out.1.nbox S4.out.1.tbox S4.out.1.ybox J4.out
                    with_reducible refine hcall.mono ?_
                    clear hcall
                    rintro e V5 (⟨rfl, hJn, hKn⟩ | ⟨rfl, hXn⟩)
                    · have S5 := hid (RX.kpm (RX.setT (RX.setN S4.out Hpl.out (first + 1 + 1)) Hpl.out 0) Hpl.out hKn)
                      have J5 := hid hJn
                      clear hJn hKn
                      gi_wp2_with fail
                      gi_meet
                      case rel => exact .inl ⟨rfl, first + 1 + 1, 0, _, (List.append_assoc _ [(first + 1, P)] _).trans GD.out, S5.out, J5.out⟩
                    · have HXn := hid hXn
                      clear hXn
                      gi_wp2_with fail
                      gi_meet
                      case rel => exact .inr ⟨rfl, _, ⟨_, (List.append_assoc _ _ _).trans GD.out, by simp⟩, HXn.out⟩
                  · have GD := hid ((G4.out.symm.trans (by rw [genD_no (by rw [hfirst, hlast]; exact hD), hlast, Hm2.out])).symm : (pre2 ++ [(first, t2 + m1 - x.start)]) ++ genA P count rest last (x.start + x.len - m2) = yields p count ws)
                    gi_wp2_with fail
                    refine ⟨fun _ h => (by cases h), ?_⟩
                    gi_wp2_with fail
                    gi_meet
                    case rel => exact .inl ⟨rfl, first + 1, 0, _, GD.out, S4.out, J4.out⟩
                case rest =>
                  clear r1 r2 r3 r4 r5 r6 r7 r8 s1 s2 s3 s4 x0 x1 x2 S4 J4 G4
                  obtain ⟨W9, hW9⟩ : ∃ W9, wc = W9 := ⟨_, rfl⟩
                  rw [hW9] at hcut ⊢
                  clear hW9 wc
                  rcases hcut with ⟨rfl, hI5⟩ | ⟨rfl, hI5⟩
                  rotate_left
                  · gi_wp2
                    refine bodyPost_ret (results_none rfl _ _ _) rfl ?_
                    exact ⟨⟨_, rfl⟩, .inr hI5.out⟩
                  obtain ⟨n3, t3, pre3, hI6⟩ := hI5.out
                  have S5 := hid hI6.2.1
                  have J5 := hid hI6.2.2
                  have G5 := hid hI6.1
                  clear hI5 hI6
                  have hmt5 : 0 ≤ x.start + x.len - m2 := by omega
                  have hmt6 : 0 ≤ m2 := by omega
                  obtain ⟨r1, r2, r3, r4, r5, r6, r7, r8⟩ := S5.out.1.cells
                  rw [HPP.out] at r1
                  obtain ⟨s1, s2, s3, s4⟩ := S5.out.1.lt
                  have x0 := cell_of_heap (i := 0) S5.out.2.2 rfl
                  have x1 := cell_of_heap (i := 1) S5.out.2.2 rfl
                  have x2 := cell_of_heap (i := 2) S5.out.2.2 rfl
                  gi_wp2
                  gi_region
                  gi_wp2
                  refine ⟨⟨j + 1, last, x.start + x.len - m2, pre3, by go_num, by omega, by omega, by omega, ?_⟩, by simp [intOf]; omega⟩
                  refine ⟨⟨x.start + x.len, by rw [hrest]; exact Hc4.out, by rw [Hm2.out]; omega⟩, by rw [hrest]; exact G5.out, (RX.setT (RX.setN (RX.drew S5.out) Hpl.out last) Hpl.out (x.start + x.len - m2)).1, HJ.out _ _ _ J5.out ((((Below.refl yb _).drew).setCell (p := ⟨nb, 0, none⟩) (by show yb ≤ nb; omega) _).setCell (p := ⟨tb, 0, none⟩) (by show yb ≤ tb; omega) _)⟩
    · have hke : j = ws.length := by omega
      subst hke
      obtain ⟨-, hgen, hrdy, hJp⟩ := hI.out
      rw [List.drop_length] at hgen
      obtain ⟨r1, r2, r3, r4, r5, r6, r7, r8⟩ := hrdy.cells
      rw [HPP.out] at r1
      have Hrdy := hid hrdy
      have HJp := hid hJp
      have Hgen := hid hgen
      have hne1 : nb ≠ tb := by omega
      have hne2 : tb ≠ nb := by omega
      have hne5 : pb ≠ yb := by have := Hpl.out.p1; have := Hpl.out.p5; have := Hpl.out.p6; omega
      clear hrdy hJp hgen hI
      by_cases hE : next < count ∧ 0 < ticks
      · obtain ⟨hE1, hE2⟩ := hE
        have GE := hid ((Hgen.out.symm.trans (by rw [genA, if_pos ⟨hE1, hE2⟩])).symm : pre ++ (next, ticks) :: genE P count (next + 1) = yields p count ws)
        gi_wp2_with fail
        clear r1 r2 r3 r4 r5 r6 r7 r8
        refine ⟨trivial, fun h => (by cases h), ?_⟩
        have hcall := done_c (m - 1) (m - 1) l yb nb tb yb own J Jx HJ.out HYY.out (by omega) (by omega) hne1 (by omega) (by omega) wr pre next ticks _ _ (by omega) (by omega) Hrdy.out.nbox Hrdy.out.tbox Hrdy.out.ybox HJp.out
        with_reducible refine hcall.mono ?_
        clear hcall
        rintro e V1 (⟨rfl, hJn, hKn⟩ | ⟨rfl, hXn⟩)
        rotate_left
        · have HXn := hid hXn
          clear hXn
          gi_wp2
          refine bodyPost_ret (results_none rfl _ _ _) rfl ?_
          exact ⟨⟨_, rfl⟩, .inr ⟨_, ⟨_, (List.append_assoc _ _ _).trans GE.out, by simp⟩, HXn.out⟩⟩
        have S1 := hid (((Hrdy.out.setN Hpl.out (next + 1)).setT Hpl.out 0).kpm Hpl.out hKn)
        have J1 := hid hJn
        have G1 : Hid ((pre ++ [(next, ticks)]) ++ genE P count (next + 1) = yields p count ws) := (List.append_assoc _ [(next, ticks)] _).trans GE.out
        clear hJn hKn
        obtain ⟨r1, r2, r3, r4, r5, r6, r7, r8⟩ := S1.out.cells
        by_cases hE3 : next + 1 < count
        · obtain ⟨fn, tmps, assign, body, hy, hR⟩ := anyYield (F := Fence.wide) rfl (m - 1) (HYY.out _ (next + 1, 0) _ J1.out)
          dsimp only at hy
          have GF := hid ((G1.out.symm.trans (by rw [genE_yes hE3])).symm : (pre ++ [(next, ticks)]) ++ [(next + 1, 0)] = yields p count ws)
          gi_wp2_with fail
          refine ⟨fun h => (by cases h), ?_⟩
          refine hR.mono ?_
          rintro e V2 (⟨rfl, hJ3, -⟩ | ⟨rfl, hx3, -⟩)
          · have HJ3 := hid hJ3
            clear hJ3
            gi_wp2
            go_end0
            exact ⟨⟨_, rfl⟩, .inl ⟨_, GF.out, HJ3.out⟩⟩
          · have Hx3 := hid hx3
            clear hx3
            gi_wp2
            go_end0
            exact ⟨⟨_, rfl⟩, .inr ⟨_, ⟨[], by rw [List.append_nil]; exact GF.out, by simp⟩, Hx3.out⟩⟩
        · have GF := hid ((G1.out.symm.trans (by rw [genE_no hE3, List.append_nil])).symm : pre ++ [(next, ticks)] = yields p count ws)
          gi_wp2_with fail
          go_end0
          exact ⟨⟨_, rfl⟩, .inl ⟨_, GF.out, J1.out⟩⟩
      · have GE := hid ((Hgen.out.symm.trans (by rw [genA, if_neg hE])).symm : pre ++ genE P count next = yields p count ws)
        by_cases hE3 : next < count
        · obtain rfl : ticks = 0 := by omega
          obtain ⟨fn, tmps, assign, body, hy, hR⟩ := anyYield (F := Fence.wide) rfl (m - 1) (HYY.out _ (next, 0) _ HJp.out)
          dsimp only at hy
          have GF := hid ((GE.out.symm.trans (by rw [genE_yes hE3])).symm : pre ++ [(next, 0)] = yields p count ws)
          clear hE
          gi_wp2_with fail
          refine ⟨fun _ h => (by cases h), ?_⟩
          gi_wp2_with fail
          refine ⟨fun h => (by cases h), ?_⟩
          refine hR.mono ?_
          rintro e V2 (⟨rfl, hJ3, -⟩ | ⟨rfl, hx3, -⟩)
          · have HJ3 := hid hJ3
            clear hJ3
            gi_wp2
            go_end0
            exact ⟨⟨_, rfl⟩, .inl ⟨_, GF.out, HJ3.out⟩⟩
          · have Hx3 := hid hx3
            clear hx3
            gi_wp2
            go_end0
            exact ⟨⟨_, rfl⟩, .inr ⟨_, ⟨[], by rw [List.append_nil]; exact GF.out, by simp⟩, Hx3.out⟩⟩
        · have GF := hid ((GE.out.symm.trans (by rw [genE_no hE3, List.append_nil])).symm : pre = yields p count ws)
          clear hE
          gi_wp2_with fail
          refine ⟨fun _ h => (by cases h), ?_⟩
          gi_wp2_with fail
          go_end0
          exact ⟨⟨_, rfl⟩, .inl ⟨_, GF.out, HJp.out⟩⟩
end Go.Proofs.Ytlccbejhamkdoaa
