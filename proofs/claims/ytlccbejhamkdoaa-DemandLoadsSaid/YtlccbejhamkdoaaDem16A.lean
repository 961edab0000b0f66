/- the demands of a partition, as the program reckons them -/
import Derived.Test.YtlccbejhamkdoaaPer16C
import Derived.Test.YtlccbejhamkdoaaRef16A
import Derived.Test.YtlccbejhamkdoaaWins16C
namespace Go.Proofs.Ytlccbejhamkdoaa
open Go.RowKit

theorem numDivides_c (w : World) (a b : Int) (ha : U64 a) (hb : U64 b) :
    Calls Try.prog 100 #[.int .u64 a, .int .u64 b] w fun e w' => e = .returned (.bool (divs a b)) ∧ Below w.heap.size w w' := by
  unfold U64 at ha hb
  obtain ⟨r, hr⟩ : ∃ r, divs a b = r := ⟨_, rfl⟩
  rw [hr]
  go_enter Try.func100, Try.ntmps100
  by_cases h0 : 0 < a
  · have hne : ¬ a = 0 := by omega
    have hnb : (a != 0) = true := by simp [bne, hne]
    rw [← divs_pos h0] at hr
    have Hr := hid hr
    clear hr
    go_wp2
    go_ret
    exact ⟨ret_bool Hr.out, Below.refl _ _⟩
  · have hz : a = 0 := by omega
    subst hz
    rw [divs_zero] at hr
    subst hr
    go_wp2
    go_ret
    exact ⟨rfl, Below.refl _ _⟩

theorem divides_c (w : World) (p : Part) (fr : Int) (s : Value) (hp : U64 p.period) (hf : U64 fr) :
    Calls Try.prog 85 #[.agg #[.int .u16 p.id, .string p.name, .int .u64 p.period, .int .u64 p.dur, .int .u64 fr, s]] w fun e w' => e = .returned (.bool (divs p.period fr)) ∧ Below w.heap.size w w' := by
  go_enter Try.func85, Try.ntmps85
  go_wp2_with fail
  refine (numDivides_c _ _ _ hp hf).mono ?_
  rintro e w2 ⟨rfl, hb2⟩
  have hbf := bthen (below_new w _) hb2
  clear hb2
  go_wp2
  go_ret
  exact ⟨rfl, hbf⟩

theorem wrongPeriod_c (w : World) (p : Part) (fr : Int) (a : Option Addr) (n cap : Nat) (hp : U64 p.period) (hf : U64 fr) :
    Calls Try.prog 60 #[.agg #[.int .u16 p.id, .string p.name, .int .u64 p.period, .int .u64 p.dur, .int .u64 fr, .slice a n cap]] w fun e w' => e = .returned (.bool (!divs p.period fr || decide (p.period < p.dur))) ∧ Below w.heap.size w w' := by
  have hcall := fun w => divides_c w p fr (.slice a n cap) hp hf
  obtain ⟨dv, hdv⟩ : ∃ dv, divs p.period fr = dv := ⟨_, rfl⟩
  rw [hdv] at hcall ⊢
  obtain ⟨r, hr⟩ : ∃ r, (!dv || decide (p.period < p.dur)) = r := ⟨_, rfl⟩
  rw [hr]
  have Hr := hid hr
  have Hcall := hid hcall
  clear hr hdv hcall
  go_enter Try.func60, Try.ntmps60
  go_wp2_with fail
  refine (Hcall.out _).mono ?_
  rintro e w2 ⟨rfl, hb2⟩
  have hbf := bthen (below_new w _) hb2
  have hbox := heap_keep (heap_new w (.cells #[.int .u16 p.id, .string p.name, .int .u64 p.period, .int .u64 p.dur, .int .u64 fr, .slice a n cap] 94)) hb2
  have q2 := cell_of_heap (i := 2) hbox rfl
  have q3 := cell_of_heap (i := 3) hbox rfl
  clear hb2 hbox Hcall
  cases dv
  · go_wp2
    go_ret
    exact ⟨ret_bool (by rw [← Hr.out]; rfl), hbf⟩
  · by_cases hlt : p.period < p.dur
    · have hb : decide (p.period < p.dur) = true := by simpa using hlt
      have Hr2 : Hid (true = r) := by show true = r; rw [← Hr.out, hb]; rfl
      clear hb
      go_wp2
      go_ret
      exact ⟨ret_bool Hr2.out, hbf⟩
    · have hb : decide (p.period < p.dur) = false := by simpa using hlt
      have Hr2 : Hid (decide (p.period < p.dur) = r) := Hr.out
      clear hb
      go_wp2
      go_ret
      exact ⟨ret_bool Hr2.out, hbf⟩

theorem wrongTime_c (w : World) (p : Part) (fr count : Int) (a : Option Addr) (cap : Nat) (ws : List Win) (hP : 0 < p.period) (hok : U64 p.period) (hfr : U64 fr) (hF : fr = count * p.period) (hlen : ws.length * 24 ≤ 140737488351232) (hch : Chain fr 0 ws) (hrow : RowAt 3 encWin w a ws) (ha : ∀ b o, a = some ⟨b, o, none⟩ → b < w.heap.size) :
    Calls Try.prog 61 #[.agg #[.int .u16 p.id, .string p.name, .int .u64 p.period, .int .u64 p.dur, .int .u64 fr, .slice a ws.length cap]] w fun e w' => e = .returned (.bool (firstShort p.dur (yields p count ws)).2) ∧ Below w.heap.size w w' := by
  have hcall := hid (short_c (w.alloc (.cells #[.int .u16 p.id, .string p.name, .int .u64 p.period, .int .u64 p.dur, .int .u64 fr, .slice a ws.length cap] 94)) p fr count a cap ws hP hok hfr hF hlen hch (hrow.below (below_new _ _)) (fun b o e => by have := ha b o e; simp; omega))
  obtain ⟨k, sh, hks⟩ : ∃ k sh, firstShort p.dur (yields p count ws) = (k, sh) := ⟨_, _, rfl⟩
  rw [hks] at hcall ⊢
  clear hF hks
  go_enter Try.func61, Try.ntmps61
  go_wp2_with fail
  refine hcall.out.mono ?_
  rintro e w2 ⟨rfl, hb2⟩
  have hbf := bthen (below_new w _) hb2
  clear hb2 hcall
  go_wp2
  go_ret
  exact ⟨rfl, hbf⟩

/-- right windows in a frame -/
structure RightW (c : Cfg) : Prop where
  pos : 0 < c.frame
  apart : Apart c.frame c.wins

theorem inP_inC {c : Cfg} {p : Part} {m : List Win} (hm : (ofPart c.wins p.id).Perm m) : inP p.period m = inC c p := by
  funext k
  unfold inP inC
  rw [usedP_filter, ← usedL_perm hm]
  rfl
theorem RightW.chain {c : Cfg} (h : RightW c) {p : Part} {m : List Win} (hm : (ofPart c.wins p.id).Perm m) (hs : m.Pairwise fun a b => a.start ≤ b.start) : Chain c.frame 0 m := by
  have ha := (h.apart.filter (fun x => decide (x.part = p.id))).perm hm
  exact ha.chain hs (fun w hw => (ha.each w hw).1)
theorem RightW.cover {c : Cfg} (h : RightW c) {p : Part} {count : Int} (hP : 0 < p.period) (hF : c.frame = count * p.period) {m : List Win} (hm : (ofPart c.wins p.id).Perm m) (hs : m.Pairwise fun a b => a.start ≤ b.start) : Cover (inC c p) count 0 (yields p count m) := by
  have hc : 0 < count := by
    rcases Int.lt_or_le 0 count with h' | h'
    · exact h'
    · have := mul_mono hP h'; have := h.pos; omega
  have := visits hP hF hc (h.chain hm hs)
  rw [inP_inC hm] at this
  exact this

set_option maxHeartbeats 2000000 in
theorem demShort_c (w : World) (c : Cfg) (A : Adr) (hc : CfgAt w c A) (hR : RightW c) (i : Nat) (hi : i < c.parts.length) (hP : 0 < c.parts[i].period) (count : Int) (hF : c.frame = count * c.parts[i].period) :
    Calls Try.prog 25 #[cfgVal c A, .int .i64 i] w fun e w' => e = .returned (.tuple #[.int .u64 (firstShort c.parts[i].dur (allOf (inC c c.parts[i]) count)).1, .bool (firstShort c.parts[i].dur (allOf (inC c c.parts[i]) count)).2]) ∧ Below w.heap.size w w' := by
  have hfr := hc.ok.frame
  have hok := hc.ok.parts _ (List.getElem_mem hi)
  have hn := hc.ok.nparts
  obtain ⟨p, hp⟩ : ∃ p, c.parts[i] = p := ⟨_, rfl⟩
  rw [hp] at hP hok hF ⊢
  obtain ⟨k, sh, hks⟩ : ∃ k sh, firstShort p.dur (allOf (inC c p) count) = (k, sh) := ⟨_, _, rfl⟩
  rw [hks]
  have Hks := hid hks
  have hcc := hc
  obtain ⟨a1, k1, a2, k2, a3, k3, a4, k4, a5, k5⟩ := A
  obtain ⟨b, o, rfl, hb0, h0, h1, h2, h3⟩ := hc.parts.part hi
  rw [hp] at h0 h1 h2 h3
  simp only [cfgVal, cfgCells]
  have HF := hid hF
  have HR := hid hR
  have hokd := hid hok
  have hfrd := hid hfr
  clear hF hc hR hp hks hok hfr
  go_enter Try.func25, Try.ntmps25
  go_wp2_with fail
  refine wp_name (fun W => Below w.heap.size w W ∧ W.heap[w.heap.size]? = some (.cells (cfgCells c ⟨some ⟨b, o, none⟩, k1, a2, k2, a3, k3, a4, k4, a5, k5⟩) 29 (0, 0))) ⟨below_new _ _, heap_new _ _⟩ ?_
  rintro w5 ⟨hb5, hbox⟩
  have hc5 := hid (hcc.below hb5)
  obtain ⟨z0, z1, z2, z3, z4, z5⟩ := box_later hbox
  have y0 : ∀ W, Below w5.heap.size w5 W → W.cell? ⟨b, o + i * 4, none⟩ = some (.int .u16 p.id) := fun W hW => cell_below hW (cell_below hb5 h0)
  have y1 : ∀ W, Below w5.heap.size w5 W → W.cell? ⟨b, o + i * 4 + 1, none⟩ = some (.string p.name) := fun W hW => cell_below hW (cell_below hb5 h1)
  have y2 : ∀ W, Below w5.heap.size w5 W → W.cell? ⟨b, o + i * 4 + 2, none⟩ = some (.int .u64 p.period) := fun W hW => cell_below hW (cell_below hb5 h2)
  have y3 : ∀ W, Below w5.heap.size w5 W → W.cell? ⟨b, o + i * 4 + 3, none⟩ = some (.int .u64 p.dur) := fun W hW => cell_below hW (cell_below hb5 h3)
  clear hcc hbox h0 h1 h2 h3
  go_region_held3 (fun W => Below w5.heap.size w5 W) (first | assumption | exact (Below.refl _ _).drew) (first
    | (go_at_call 59; refine (of_c _ c ⟨some ⟨b, o, none⟩, k1, a2, k2, a3, k3, a4, k4, a5, k5⟩ (hc5.out.below (by assumption)) p).mono ?_; rintro e w6 ⟨a', cap', m, rfl, hm1, hm2, hm3, hm4, hm5, hm6, hb6⟩; have hS := bthen (w := w5) (by assumption) hb6)
    | (go_at_call 63; refine (short_c _ p c.frame count a' cap' m hP hokd.out.2.2.1 hfrd.out HF.out hm5 (HR.out.chain hm1 hm2) hm3 hm6).mono ?_; rintro e w7 ⟨rfl, hb7⟩; have hS := bthen (w := w5) (by assumption) hb7))
  have he := short_eq (d := p.dur) (HR.out.cover hP HF.out hm1 hm2)
  rw [Hks.out] at he
  rw [he]
  have hbf := bthen hb5 hS
  clear he hS hb7 hb6 hm1 hm2 hm3 hm4 hm5 hm6 z0 z1 z2 z3 z4 z5 y0 y1 y2 y3
  go_wp2
  go_ret2
  exact ⟨rfl, hbf⟩

set_option maxHeartbeats 2000000 in
theorem demLeast_c (w : World) (c : Cfg) (A : Adr) (hc : CfgAt w c A) (hR : RightW c) (i : Nat) (hi : i < c.parts.length) (hP : 0 < c.parts[i].period) (count : Int) (hF : c.frame = count * c.parts[i].period) :
    Calls Try.prog 27 #[cfgVal c A, .int .i64 i] w fun e w' => e = .returned (.int .u64 (leastOf c.parts[i].period ((periodsOf count).map (inC c c.parts[i])))) ∧ Below w.heap.size w w' := by
  have hfr := hc.ok.frame
  have hok := hc.ok.parts _ (List.getElem_mem hi)
  have hn := hc.ok.nparts
  obtain ⟨p, hp⟩ : ∃ p, c.parts[i] = p := ⟨_, rfl⟩
  rw [hp] at hP hok hF ⊢
  obtain ⟨k, hks⟩ : ∃ k, leastOf p.period ((periodsOf count).map (inC c p)) = k := ⟨_, rfl⟩
  rw [hks]
  have Hks := hid hks
  have hcc := hc
  obtain ⟨a1, k1, a2, k2, a3, k3, a4, k4, a5, k5⟩ := A
  obtain ⟨b, o, rfl, hb0, h0, h1, h2, h3⟩ := hc.parts.part hi
  rw [hp] at h0 h1 h2 h3
  simp only [cfgVal, cfgCells]
  have HF := hid hF
  have HR := hid hR
  have hokd := hid hok
  have hfrd := hid hfr
  clear hF hc hR hp hks hok hfr
  go_enter Try.func27, Try.ntmps27
  go_wp2_with fail
  refine wp_name (fun W => Below w.heap.size w W ∧ W.heap[w.heap.size]? = some (.cells (cfgCells c ⟨some ⟨b, o, none⟩, k1, a2, k2, a3, k3, a4, k4, a5, k5⟩) 29 (0, 0))) ⟨below_new _ _, heap_new _ _⟩ ?_
  rintro w5 ⟨hb5, hbox⟩
  have hc5 := hid (hcc.below hb5)
  obtain ⟨z0, z1, z2, z3, z4, z5⟩ := box_later hbox
  have y0 : ∀ W, Below w5.heap.size w5 W → W.cell? ⟨b, o + i * 4, none⟩ = some (.int .u16 p.id) := fun W hW => cell_below hW (cell_below hb5 h0)
  have y1 : ∀ W, Below w5.heap.size w5 W → W.cell? ⟨b, o + i * 4 + 1, none⟩ = some (.string p.name) := fun W hW => cell_below hW (cell_below hb5 h1)
  have y2 : ∀ W, Below w5.heap.size w5 W → W.cell? ⟨b, o + i * 4 + 2, none⟩ = some (.int .u64 p.period) := fun W hW => cell_below hW (cell_below hb5 h2)
  have y3 : ∀ W, Below w5.heap.size w5 W → W.cell? ⟨b, o + i * 4 + 3, none⟩ = some (.int .u64 p.dur) := fun W hW => cell_below hW (cell_below hb5 h3)
  clear hcc hbox h0 h1 h2 h3
  go_region_held3 (fun W => Below w5.heap.size w5 W) (first | assumption | exact (Below.refl _ _).drew) (first
    | (go_at_call 59; refine (of_c _ c ⟨some ⟨b, o, none⟩, k1, a2, k2, a3, k3, a4, k4, a5, k5⟩ (hc5.out.below (by assumption)) p).mono ?_; rintro e w6 ⟨a', cap', m, rfl, hm1, hm2, hm3, hm4, hm5, hm6, hb6⟩; have hS := bthen (w := w5) (by assumption) hb6)
    | (go_at_call 65; refine (least_c _ p c.frame count a' cap' m hP hokd.out.2.2.1 hfrd.out HF.out hm5 (HR.out.chain hm1 hm2) hm3 hm6).mono ?_; rintro e w7 ⟨rfl, hb7⟩; have hS := bthen (w := w5) (by assumption) hb7))
  have he := least_eq (p := p.period) (HR.out.cover hP HF.out hm1 hm2)
  rw [Hks.out] at he
  rw [he]
  have hbf := bthen hb5 hS
  clear he hS hb7 hb6 hm1 hm2 hm3 hm4 hm5 hm6 z0 z1 z2 z3 z4 z5 y0 y1 y2 y3
  go_wp2
  go_ret
  exact ⟨rfl, hbf⟩
end Go.Proofs.Ytlccbejhamkdoaa
