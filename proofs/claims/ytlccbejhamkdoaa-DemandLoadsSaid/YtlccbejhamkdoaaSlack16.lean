/- the ticks that a partition demands in a frame, and those that it does not demand -/
import Derived.Test.YtlccbejhamkdoaaMul16
namespace Go.Proofs.Ytlccbejhamkdoaa
open Go.RowKit

theorem mulN_two {d q : Int} (hd : U64 d) (hq : U64 q) : mulN [d, q] = if d * q ≤ 18446744073709551615 then (d * q, true) else (0, false) := by
  unfold U64 at hd hq
  unfold mulN
  by_cases h0 : d = 0
  · subst h0; simp
  · by_cases h1 : q = 0
    · subst h1; simp
    · rw [if_neg (by simp [Ne.symm h0, Ne.symm h1])]
      unfold mulF
      rw [if_pos (by omega), Int.one_mul]
      unfold mulF
      split
      · unfold mulF; rfl
      · rfl
/-- what a partition demands in a frame -/
def totP (p : Part) (fr : Int) : Int × Bool := if divs p.period fr = true then (if p.dur * (fr / p.period) ≤ 18446744073709551615 then (p.dur * (fr / p.period), true) else (0, false)) else (0, false)

theorem quo_u64 {a b : Int} (ha : U64 a) (hb : 0 < b) : U64 (a / b) := by
  unfold U64 at *
  have h0 := Int.ediv_nonneg ha.1 (Int.le_of_lt hb)
  have h1 : a / b ≤ a := Int.ediv_le_self _ ha.1
  omega

theorem total_c (w : World) (p : Part) (fr : Int) (a : Option Addr) (n cap : Nat) (hp : p.ok) (hf : U64 fr) :
    Calls Try.prog 66 #[ofVal p fr (.slice a n cap)] w fun e w' => e = .returned (.tuple #[.int .u64 (totP p fr).1, .bool (totP p fr).2]) ∧ Below w.heap.size w w' := by
  obtain ⟨e0, e1, hm⟩ : ∃ e0 e1, totP p fr = (e0, e1) := ⟨_, _, rfl⟩
  rw [hm]
  unfold totP at hm
  have hcall := hid (fun W => divides_c W p fr (.slice a n cap) hp.2.2.1 hf)
  simp only [ofVal]
  cases hdv : divs p.period fr
  · rw [hdv] at hm hcall
    rw [if_neg (by decide)] at hm
    have Hm := hid hm
    clear hm hdv
    go_enter Try.func66, Try.ntmps66
    go_wp2_with fail
    refine (hcall.out _).mono ?_
    rintro e w2 ⟨rfl, hb2⟩
    have hbf := bthen (below_new w _) hb2
    clear hb2 hcall
    go_wp2
    go_ret2
    have hf := Hm.out
    simp only [Prod.mk.injEq] at hf
    obtain ⟨rfl, rfl⟩ := hf
    exact ⟨rfl, hbf⟩
  · obtain ⟨hP, -⟩ := divs_facts hdv
    have hq := quo_u64 hf hP
    rw [hdv] at hm hcall
    rw [if_pos rfl, ← mulN_two hp.2.2.2 hq] at hm
    have hne : ¬ p.period = 0 := by omega
    have hE : IntKind.u64.wrap (fr.tdiv p.period) = fr / p.period := by
      have hf2 := hf
      unfold U64 at hf2 hq
      rw [Int.tdiv_eq_ediv_of_nonneg hf2.1]
      exact wrap_id hq.1 hq.2
    rw [← hE] at hm hq
    clear hE
    have hmul := hid (fun (W : World) (b : Nat) (hrow : RowAt 1 (fun n => [.int .u64 n]) W (some ⟨b, 0, none⟩) [p.dur, IntKind.u64.wrap (fr.tdiv p.period)]) => mulNum_c W (some ⟨b, 0, none⟩) 2 [p.dur, IntKind.u64.wrap (fr.tdiv p.period)] hrow (by simp) (by
      intro x hx
      simp only [List.mem_cons, List.not_mem_nil, or_false] at hx
      rcases hx with rfl | rfl
      · exact hp.2.2.2
      · exact hq))
    rw [hm] at hmul
    unfold U64 at hq
    have hf' := hf
    unfold U64 at hf'
    clear hm hdv
    go_enter Try.func66, Try.ntmps66
    go_wp2_with fail
    refine (hcall.out _).mono ?_
    rintro e w2 ⟨rfl, hb2⟩
    have hbf := bthen (below_new w _) hb2
    have hbox := heap_keep (heap_new w (.cells #[.int .u16 p.id, .string p.name, .int .u64 p.period, .int .u64 p.dur, .int .u64 fr, .slice a n cap] 94)) hb2
    have Hbox := hid hbox
    clear hb2 hcall hbox
    go_wp2_with fail
    have q2 : ∀ W, Below w2.heap.size w2 W → W.cell? ⟨w.heap.size, 2, none⟩ = some (.int .u64 p.period) := cells_later Hbox.out 2 rfl
    have q3 : ∀ W, Below w2.heap.size w2 W → W.cell? ⟨w.heap.size, 3, none⟩ = some (.int .u64 p.dur) := cells_later Hbox.out 3 rfl
    have q4 : ∀ W, Below w2.heap.size w2 W → W.cell? ⟨w.heap.size, 4, none⟩ = some (.int .u64 fr) := cells_later Hbox.out 4 rfl
    go_region_held3 (fun W => Below w2.heap.size w2 W) (first | assumption | exact (Below.refl _ _).drew | exact bthen (by assumption) (below_new _ _)) (first
      | (go_at_call 88; refine (hmul.out _ w2.heap.size ((row_new w2 (Value.int .u64) [p.dur, IntKind.u64.wrap (fr.tdiv p.period)] 22).below (Below.refl _ _).drew)).mono ?_; rintro e w6 ⟨rfl, hb6⟩; have hS := bthen (w := w2) (below_new w2 _).drew hb6))
    have hbf2 := bthen hbf hS
    clear hS hb6 hmul q2 q3 q4
    go_wp2
    go_ret2
    exact ⟨rfl, hbf2⟩

/-! ### the demand of a partition is at most its ticks -/
theorem term_add {id a b c : Int} {x : Win} (hl : 0 < x.len) (h1 : a ≤ b) (h2 : b ≤ c) : term id a b x + term id b c x = term id a c x := by
  unfold term
  split
  · unfold ovl
    split <;> split <;> split <;> omega
  · rfl
theorem usedP_add {ws : List Win} {id a b c : Int} (hl : ∀ x ∈ ws, 0 < x.len) (h1 : a ≤ b) (h2 : b ≤ c) : usedP ws id a b + usedP ws id b c = usedP ws id a c := by
  induction ws with
  | nil => rfl
  | cons x ws ih =>
    have := ih (fun y hy => hl y (List.mem_cons_of_mem _ hy))
    have h3 := term_add (id := id) (hl x (by simp)) h1 h2
    rw [usedP_cons, usedP_cons, usedP_cons]
    omega
theorem short_none {c : Cfg} {p : Part} {count : Int} (h : (firstShort p.dur (allOf (inC c p) count)).2 = false) : ∀ k, 0 ≤ k → k < count → p.dur ≤ inC c p k := by
  intro k h0 h1
  rcases Int.lt_or_le (inC c p k) p.dur with hlt | hle
  · exfalso
    have hm : (k, inC c p k) ∈ allOf (inC c p) count := List.mem_map.2 ⟨k, mem_periodsOf.2 ⟨h0, h1⟩, rfl⟩
    cases hf : (allOf (inC c p) count).find? (fun y => decide (y.2 < p.dur)) with
    | none =>
      rw [List.find?_eq_none] at hf
      have := hf _ hm
      simp only [decide_eq_true_eq] at this
      exact this hlt
    | some y => simp [firstShort, hf] at h
  · exact hle
theorem busy_ge {c : Cfg} (hR : RightW c) {p : Part} {count : Int} (hP : 0 < p.period) (hF : c.frame = count * p.period) (hs : (firstShort p.dur (allOf (inC c p) count)).2 = false) : p.dur * count ≤ usedP c.wins p.id 0 c.frame := by
  have hpos : ∀ x ∈ c.wins, 0 < x.len := fun x hx => (hR.apart.each x hx).2.1
  have hc0 : 0 ≤ count := by
    rcases Int.lt_or_le count 0 with h' | h'
    · have := mul_mono hP (Int.le_of_lt h'); have := hR.pos; omega
    · exact h'
  have key : ∀ k : Nat, (k : Int) ≤ count → p.dur * k ≤ usedP c.wins p.id 0 (k * p.period) := by
    intro k
    induction k with
    | zero => intro _; simp; exact usedP_nonneg _ _ _ _
    | succ k ih =>
      intro hk
      have h1 := ih (by omega)
      have h2 := short_none hs k (by omega) (by omega)
      have h3 := usedP_add (id := p.id) hpos (a := 0) (b := (k : Int) * p.period) (c := ((k + 1 : Nat) : Int) * p.period) (Int.mul_nonneg (by omega) (by omega)) (mul_mono hP (by omega))
      unfold inC at h2
      have e : (((k + 1 : Nat) : Int)) = (k : Int) + 1 := by omega
      rw [e] at h3 ⊢
      rw [Int.mul_add, Int.mul_one, ← h3]
      omega
  have := key count.toNat (by omega)
  rw [show ((count.toNat : Nat) : Int) = count by omega, ← hF] at this
  exact this

theorem totP_good {c : Cfg} (hR : RightW c) (hfr : U64 c.frame) {p : Part} (hd : divs p.period c.frame = true) (hs : (firstShort p.dur (allOf (inC c p) (c.frame / p.period))).2 = false) :
    totP p c.frame = (p.dur * (c.frame / p.period), true) ∧ p.dur * (c.frame / p.period) ≤ usedP c.wins p.id 0 c.frame := by
  obtain ⟨hP, hF⟩ := divs_facts hd
  have h1 := busy_ge hR hP hF hs
  have h2 := hR.apart.used_le p.id (Int.le_refl 0) (Int.le_of_lt hR.pos)
  unfold U64 at hfr
  exact ⟨by rw [totP, if_pos hd, if_pos (by omega)], h1⟩
theorem badOf_zero {c : Cfg} {p : Part} (h : badOf c p = 0) : divs p.period c.frame = true ∧ ¬ p.period < p.dur ∧ (firstShort p.dur (allOf (inC c p) (c.frame / p.period))).2 = false := by
  unfold badOf at h
  split at h
  · cases h
  · rename_i h1
    split at h
    · cases h
    · rename_i h2
      refine ⟨?_, ?_, by simpa using h2⟩
      · cases hd : divs p.period c.frame
        · rw [hd] at h1; simp at h1
        · rfl
      · intro hl; simp [hl] at h1
theorem dchk_zero {c : Cfg} (h : (dchk c).1 = 0) : ∀ p ∈ c.parts, badOf c p = 0 := by
  intro p hp
  cases hf : c.parts.findIdx? (fun p => decide (badOf c p ≠ 0)) with
  | none =>
    rw [List.findIdx?_eq_none_iff] at hf
    simpa using hf p hp
  | some i =>
    exfalso
    have hf' := hf
    rw [List.findIdx?_eq_some_iff_getElem] at hf'
    obtain ⟨hi, h1, _⟩ := hf'
    rw [dchk, hf] at h
    simp only [List.getElem?_eq_getElem hi, Option.map_some, Option.getD_some] at h
    simp [h] at h1

set_option maxHeartbeats 2000000 in
theorem slack_c (w : World) (c : Cfg) (A : Adr) (hc : CfgAt w c A) (hR : RightW c) (i : Nat) (hi : i < c.parts.length) (N B : Int) (hN : (totP c.parts[i] c.frame).1 = N) (hB : usedP c.wins c.parts[i].id 0 c.frame = B) (h0 : 0 ≤ N) (hNB : N ≤ B) (hBm : B ≤ 18446744073709551615) :
    Calls Try.prog 29 #[cfgVal c A, .int .i64 i] w fun e w' => e = .returned (.int .u64 (B - N)) ∧ Below w.heap.size w w' := by
  have hok := hid (hc.ok.parts _ (List.getElem_mem hi))
  have hn := hc.ok.nparts
  have hfr := hid hc.ok.frame
  obtain ⟨p, hp⟩ : ∃ p, c.parts[i] = p := ⟨_, rfl⟩
  rw [hp] at hok hN hB
  obtain ⟨okk, hokk⟩ : ∃ okk, (totP p c.frame).2 = okk := ⟨_, rfl⟩
  have hof := hid (fun W (h : CfgAt W c A) => of_c W c A h p)
  have hbu := hid (fun W (h : CfgAt W c A) => busy_c W c A h hR p.id)
  have htot := hid (fun W a n cap => total_c W p c.frame a n cap hok.out hfr.out)
  rw [hN, hokk] at htot
  rw [hB] at hbu
  have hcc := hc
  obtain ⟨a1, k1, a2, k2, a3, k3, a4, k4, a5, k5⟩ := A
  obtain ⟨b, o, ha, hb0, h00, h1, h2, h3⟩ := hc.parts.part hi
  simp only at ha
  subst ha
  rw [hp] at h00 h1 h2 h3
  simp only [cfgVal, cfgCells] at hof hbu ⊢
  have HR := hid hR
  clear hN hB hokk hc hR hp
  go_enter Try.func29, Try.ntmps29
  go_wp2_with fail
  refine wp_name (fun W => Below w.heap.size w W ∧ W.heap[w.heap.size]? = some (.cells (cfgCells c ⟨some ⟨b, o, none⟩, k1, a2, k2, a3, k3, a4, k4, a5, k5⟩) 29 (0, 0))) ⟨below_new _ _, heap_new _ _⟩ ?_
  rintro w5 ⟨hb5, hbox⟩
  have hc5 := hid (hcc.below hb5)
  have Hbox := hid hbox
  obtain ⟨z0, z1, z2, z3, z4, z5⟩ := box_later hbox
  have y0 : ∀ W, Below w5.heap.size w5 W → W.cell? ⟨b, o + i * 4, none⟩ = some (.int .u16 p.id) := fun W hW => cell_below hW (cell_below hb5 h00)
  have y1 : ∀ W, Below w5.heap.size w5 W → W.cell? ⟨b, o + i * 4 + 1, none⟩ = some (.string p.name) := fun W hW => cell_below hW (cell_below hb5 h1)
  have y2 : ∀ W, Below w5.heap.size w5 W → W.cell? ⟨b, o + i * 4 + 2, none⟩ = some (.int .u64 p.period) := fun W hW => cell_below hW (cell_below hb5 h2)
  have y3 : ∀ W, Below w5.heap.size w5 W → W.cell? ⟨b, o + i * 4 + 3, none⟩ = some (.int .u64 p.dur) := fun W hW => cell_below hW (cell_below hb5 h3)
  have Y0 := hid y0
  have Hb5 := hid hb5
  clear hcc hbox h00 h1 h2 h3
  go_region_held3 (fun W => Below w5.heap.size w5 W) (first | assumption | exact (Below.refl _ _).drew) (first
    | (go_at_call 59; refine (hof.out _ (hc5.out.below (by assumption))).mono ?_; rintro e w6 ⟨a', cap', m, rfl, hm1, hm2, hm3, hm4, hm5, hm6, hb6⟩; have hS := bthen (w := w5) (by assumption) hb6)
    | (go_at_call 66; refine (htot.out _ a' m.length cap').mono ?_; rintro e w7 ⟨rfl, hb7⟩; have hS := bthen (w := w5) (by assumption) hb7))
  clear z0 z1 z2 z3 z4 z5 y0 y1 y2 y3 hm1 hm2 hm3 hm4 hm5 hm6 hb6 hb7
  have HS := hid hS
  clear hS
  go_wp2_with fail
  obtain ⟨wt, hwt⟩ : ∃ wt, w7 = wt := ⟨_, rfl⟩
  rw [hwt] at HS ⊢
  have hc7 := hid (hc5.out.below HS.out)
  obtain ⟨z0, z1, z2, z3, z4, z5⟩ := box_later (heap_keep Hbox.out HS.out)
  have y0 : ∀ W, Below wt.heap.size wt W → W.cell? ⟨b, o + i * 4, none⟩ = some (.int .u16 p.id) := fun W hW => Y0.out W (bthen HS.out hW)
  go_region_held3 (fun W => Below wt.heap.size wt W) (first | assumption | exact (Below.refl _ _).drew) (first
    | (go_at_call 31; refine (hbu.out _ (hc7.out.below (by assumption))).mono ?_; rintro e w8 ⟨rfl, hb8⟩; have hS := bthen (w := wt) (by assumption) hb8))
  rw [wrap_id (x := B - N) (by omega) (by omega)]
  have hbf := bthen Hb5.out (bthen HS.out hS)
  clear z0 z1 z2 z3 z4 z5 y0 hb8 hS
  go_wp2
  go_ret
  exact ⟨rfl, hbf⟩
end Go.Proofs.Ytlccbejhamkdoaa
