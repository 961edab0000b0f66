/-
  the walk of FrameCounts
  arrays that came in, laid open
-/
import Derived.Test.YtmoignbaphddeaaB7Law15A
import Derived.Test.YtmoignbaphddeaaB6Law15A
import Derived.OpenShut
set_option linter.unusedVariables false
namespace Go.Proofs.Ytmoignbaphddeaa
open Go.RowKit

set_option maxHeartbeats 1000000 in
theorem refUsedG_c (w : World) (c : Cfg) (A : Adr) (hc : CfgAt w c A) (hap : Apart c.frame c.wins) (id a b : Int) (_hid' : U16 id) (ha : 0 ≤ a) (hb : b ≤ 18446744073709551615) :
    Calls Try.prog 13 #[cfgVal c A, .int .u16 id, .int .u64 a, .int .u64 b] w fun e w' => e = .returned (.int .u64 (usedP c.wins id a b)) ∧ Below w.heap.size w w' := by
  have htop := hap.used_le' id ha hb
  have hfr := hc.ok.frame
  unfold U64 at hfr
  obtain ⟨a1, k1, a2, k2, a3, k3, a4, k4, a5, k5⟩ := A
  have hn := hc.ok.nwins
  have hall := hap.each
  have hmost : ∀ k, usedP (c.wins.take k) id a b ≤ 18446744073709551615 := fun k => by have := usedP_take_le c.wins id a b k; omega
  simp only [cfgVal, cfgCells]
  go_enter Try.func13, Try.ntmps13
  go_wp2
  refine wp_name (fun W => Below w.heap.size w W ∧ W.heap[w.heap.size]? = some (.cells (cfgCells c ⟨a1, k1, a2, k2, a3, k3, a4, k4, a5, k5⟩) 29 (0, 0))) ⟨below_new _ _, heap_new _ _⟩ ?_
  rintro w1 ⟨hb1, hbox⟩
  have hrow := (hc.below hb1).wins
  have hb2 := (box_cfg hbox).2.2.1
  simp only at hb2 hrow
  have Hall := hid hall
  have Hmost := hid hmost
  clear hbox hc hall hmost hap htop
  go_loopw [9, 10] (fun n i wr => ∃ k : Nat, k ≤ c.wins.length ∧ i = .int .i64 k ∧ n = .int .u64 (usedP (c.wins.take k) id a b) ∧ Below w1.heap.size w1 wr) (fun _ i _ => c.wins.length - (intOf i).toNat)
  case atStart => exact ⟨0, Nat.zero_le _, rfl, rfl, Below.refl _ _⟩
  case round =>
    obtain ⟨k, hkn, rfl, rfl, hbr⟩ := hrel
    have hb2 := cell_below hbr hb2
    by_cases hlt : k < c.wins.length
    · obtain ⟨bb, o, rfl, hb0, h0, h1, h2⟩ := (hrow.below hbr).win hlt
      have hsucc := hid (usedP_take c.wins id a b hlt)
      obtain ⟨e1, e2, e3⟩ := Hall.out _ (List.getElem_mem hlt)
      have m1 := Hmost.out (k + 1)
      rw [hsucc.out] at m1
      have m0 := usedP_nonneg (c.wins.take k) id a b
      obtain ⟨U, hU⟩ : ∃ U, usedP (c.wins.take k) id a b = U := ⟨_, rfl⟩
      rw [hU] at m0 m1 hsucc ⊢
      clear hrow
      by_cases hp : c.wins[k].part = id
      · have hpe : (c.wins[k].part == id) = true := by simpa using hp
        by_cases hlo : max c.wins[k].start a < min (c.wins[k].start + c.wins[k].len) b
        · have ht : term id a b c.wins[k] = min (c.wins[k].start + c.wins[k].len) b - max c.wins[k].start a := by unfold term ovl; rw [if_pos hp, if_pos hlo]
          rw [ht] at hsucc m1
          go_wp2
          all_goals (try (refine ⟨⟨k + 1, by omega, by go_num, ?_, hbr.alloc hbr.size _⟩, by simp [intOf]; omega⟩; rw [hsucc.out]; try (congr 1; omega)))
        · have ht : term id a b c.wins[k] = 0 := by unfold term ovl; rw [if_pos hp, if_neg hlo]
          rw [ht] at hsucc m1
          have hno : ¬ (if c.wins[k].start < a then a else c.wins[k].start) < if b < c.wins[k].start + c.wins[k].len then b else c.wins[k].start + c.wins[k].len := by omega
          go_wp2
          all_goals (try (refine ⟨⟨k + 1, by omega, by go_num, ?_, hbr.alloc hbr.size _⟩, by simp [intOf]; omega⟩; rw [hsucc.out]; try (congr 1; omega)))
      · have hpe : (c.wins[k].part == id) = false := by simpa using hp
        have ht : term id a b c.wins[k] = 0 := by unfold term; rw [if_neg hp]
        rw [ht] at hsucc m1
        go_wp2
        all_goals (try (refine ⟨⟨k + 1, by omega, by go_num, ?_, hbr.alloc hbr.size _⟩, by simp [intOf]; omega⟩; rw [hsucc.out]; try (congr 1; omega)))
    · have hke : k = c.wins.length := by omega
      subst hke
      rw [List.take_length]
      have hbf := bthen hb1 hbr
      clear hrow
      go_wp2
      go_ret
      exact ⟨rfl, hbf⟩


theorem usedP_top {F : Int} {ws : List Win} (h : Apart F ws) (id : Int) (h0 : 0 ≤ F) (hF : F ≤ 18446744073709551615) : usedP ws id 0 18446744073709551615 = usedP ws id 0 F := by
  have h1 := usedP_add (id := id) (a := 0) (b := F) (c := 18446744073709551615) (fun x hx => (h.each x hx).2.1) h0 hF
  have h2 : usedP ws id F 18446744073709551615 = 0 := by
    have : ∀ l : List Win, (∀ x ∈ l, x.start + x.len ≤ F) → usedP l id F 18446744073709551615 = 0 := by
      intro l
      induction l with
      | nil => intro _; rfl
      | cons x l ih =>
        intro hl
        rw [usedP_cons, ih (fun y hy => hl y (List.mem_cons_of_mem _ hy))]
        have := hl x (by simp)
        unfold term ovl
        split
        · split <;> omega
        · rfl
    exact this ws (fun x hx => (h.each x hx).2.2)
  omega
theorem usedP_self {F : Int} {ws : List Win} (h : Apart F ws) (id : Int) {a : Int} (ha : 0 ≤ a) : usedP ws id a a = 0 := by
  have h1 := h.used_le id ha (Int.le_refl a)
  have h2 := usedP_nonneg ws id a a
  omega

set_option maxHeartbeats 8000000 in
set_option maxRecDepth 20000 in
theorem FrameCounts_walk (w : World) (c : Cfg) (A : Adr) (hc : CfgAt w c A) (id : Int) (hid' : U16 id) (x0 x1 x2 : Int) (h0 : U64 x0) (h1 : U64 x1) (h2 : U64 x2) :
    Calls Try.prog 4 #[cfgVal c A, .int .u16 id, .agg #[.int .u64 x0, .int .u64 x1, .int .u64 x2]] w fun e w' => e = .returned (.bool true) ∧ Below w.heap.size w w' := by
  have Hr := hid (fun W (h : CfgAt W c A) => right15_c W c A h)
  have hokw := hid hc.ok.wins
  have hfr := hid hc.ok.frame
  have hbox := heap_alloc' (heap_new w (.cells (cfgCells c A) 29)) (.cells #[.int .u64 x0, .int .u64 x1, .int .u64 x2] 39)
  have hbA := (below_new w (.cells (cfgCells c A) 29)).alloc (by simp) (.cells #[.int .u64 x0, .int .u64 x1, .int .u64 x2] 39)
  have hc1 := hid (hc.below hbA)
  have HU := hid (fun W (h : CfgAt W c A) (hR : RightW c) a b (ha : U64 a) (hb : U64 b) => used_c W c A h hR id a b ha hb)
  have HB := hid (fun W (h : CfgAt W c A) (hR : RightW c) => busy_c W c A h hR id)
  have HRU := hid (fun W (h : CfgAt W c A) (hR : RightW c) a b (ha : U64 a) (hb : U64 b) => refUsedG_c W c A h hR.apart id a b hid' ha.1 hb.2)
  have HRB := hid (fun W (h : CfgAt W c A) (hR : RightW c) => refBusy_c W c A h hR id hid')
  have H0 := hid h0
  have H1 := hid h1
  have H2 := hid h2
  have hxb : ((w.alloc (.cells (cfgCells c A) 29)).alloc (.cells #[.int .u64 x0, .int .u64 x1, .int .u64 x2] 39)).heap[w.heap.size + 1]? = some (.cells #[.int .u64 x0, .int .u64 x1, .int .u64 x2] 39 (0, 0)) := heap_at (by simp)
  obtain ⟨a1, k1, a2, k2, a3, k3, a4, k4, a5, k5⟩ := A
  simp only [cfgVal, cfgCells] at Hr HU HB HRU HRB ⊢
  have Hbox := hid hbox
  have Hxb := hid hxb
  have HbA := hid hbA
  clear hc hbox hxb hbA h0 h1 h2
  go_enter Try.func4, Try.ntmps4
  go_wp2_with fail
  refine (Hr.out _ hc1.out).mono ?_
  rintro e w2 ⟨r, rfl, hr, hb2⟩
  have hb02 := HbA.out.trans (hb2.mono HbA.out.size)
  have hc2 := hid (hc1.out.below hb2)
  have hbox2 := heap_keep Hbox.out hb2
  have hxb2 := heap_keep Hxb.out hb2
  have Hrr := hid hr
  clear hb2 hc1 Hbox Hxb HbA hr
  cases r
  · clear hbox2 hxb2
    go_wp2_with fail
    refine (alive15_c _).mono ?_
    rintro e w3 ⟨rfl, hb3⟩
    have hb03 := bthen hb02 hb3
    clear hb3
    go_wp2
    go_ret
    exact ⟨rfl, hb03⟩
  have HR : Hid (RightW c) := (Hrr.out.1 rfl).2.right hokw.out
  have v0 := cell_of_heap (i := 0) hxb2 rfl
  have v1 := cell_of_heap (i := 1) hxb2 rfl
  have v2 := cell_of_heap (i := 2) hxb2 rfl
  have vl := lt_of_block hxb2
  obtain ⟨z0, z1, z2, z3, z4, z5⟩ := box_cfg hbox2
  have zl := lt_of_block hbox2
  simp only at z0 z1 z2 z3 z4 z5
  go_wp2_with fail
  go_quiet (fail)
  have Hb02 := hid (below_drewN hb02 nq)
  have Hc2 := hid (hc2.out.below (w' := w2.drewN nq) ⟨rfl, rfl, rfl, Nat.le_refl _, fun _ _ => rfl⟩)
  have Hbx2 : Hid ((w2.drewN nq).heap[w.heap.size]? = some (.cells (cfgCells c ⟨a1, k1, a2, k2, a3, k3, a4, k4, a5, k5⟩) 29 (0, 0))) := hbox2
  have Hxb2 : Hid ((w2.drewN nq).heap[w.heap.size + 1]? = some (.cells #[.int .u64 x0, .int .u64 x1, .int .u64 x2] 39 (0, 0))) := hxb2
  clear hb02 hc2 hbox2 hxb2
  obtain ⟨xa, hxa⟩ : ∃ xa, min x0 x1 = xa := ⟨_, rfl⟩
  obtain ⟨xb, hxbb⟩ : ∃ xb, max x0 x1 = xb := ⟨_, rfl⟩
  have hab : Hid (U64 xa ∧ U64 xb ∧ xa ≤ xb) := by
    have g0 := H0.out
    have g1 := H1.out
    show U64 xa ∧ U64 xb ∧ xa ≤ xb
    unfold U64 at *
    omega
  rw [hxa, hxbb]
  clear hxa hxbb
  revert Hb02 Hc2 Hbx2 Hxb2
  clear z0 z1 z2 z3 z4 z5 v0 v1 v2 vl zl
  generalize w2.drewN nq = w3
  intro Hb3 Hc3 Hbx3 Hxb3
  obtain ⟨z0, z1, z2, z3, z4, z5⟩ := box_cfg Hbx3.out
  have zl := lt_of_block Hbx3.out
  have v0 := cell_of_heap (i := 0) Hxb3.out rfl
  have v1 := cell_of_heap (i := 1) Hxb3.out rfl
  have vl := lt_of_block Hxb3.out
  simp only at z0 z1 z2 z3 z4 z5
  go_wp2_with fail
  refine (HU.out w3 Hc3.out HR.out x0 x1 H0.out H1.out).mono ?_
  rintro e w4 ⟨rfl, hb4⟩
  have Hb4 := hid (bthen Hb3.out hb4)
  have Hc4 := hid (Hc3.out.below hb4)
  have Hbx4 := hid (heap_keep Hbx3.out hb4)
  have Hxb4 := hid (heap_keep Hxb3.out hb4)
  clear hb4 Hb3 Hc3 Hbx3 Hxb3 z0 z1 z2 z3 z4 z5 v0 v1 vl zl
  obtain ⟨z0, z1, z2, z3, z4, z5⟩ := box_later Hbx4.out
  have zl := lt_of_block Hbx4.out
  have v0 := cells_later Hxb4.out 0 rfl
  have v1 := cells_later Hxb4.out 1 rfl
  have v2 := cells_later Hxb4.out 2 rfl
  have vl := lt_of_block Hxb4.out
  obtain ⟨n0, hn0⟩ : ∃ n0, usedP c.wins id x0 x1 = n0 := ⟨_, rfl⟩
  obtain ⟨b0, hb0⟩ : ∃ b0, usedP c.wins id 0 c.frame = b0 := ⟨_, rfl⟩
  obtain ⟨u1, hu1⟩ : ∃ u1, usedP c.wins id 0 xa = u1 := ⟨_, rfl⟩
  obtain ⟨u2, hu2⟩ : ∃ u2, usedP c.wins id xa xb = u2 := ⟨_, rfl⟩
  obtain ⟨u3, hu3⟩ : ∃ u3, usedP c.wins id xb 18446744073709551615 = u3 := ⟨_, rfl⟩
  have hsum : Hid (0 ≤ u1 ∧ 0 ≤ u2 ∧ 0 ≤ u3 ∧ u1 + u2 + u3 = b0 ∧ b0 ≤ 18446744073709551615) := by
    have hap := HR.out.apart
    have hF := hfr.out
    have g := hab.out
    unfold U64 at g hF
    have hl : ∀ x ∈ c.wins, 0 < x.len := fun x hx => (hap.each x hx).2.1
    have e1 := usedP_add (id := id) (a := 0) (b := xa) (c := xb) hl g.1.1 g.2.2
    have e2 := usedP_add (id := id) (a := 0) (b := xb) (c := 18446744073709551615) hl g.2.1.1 g.2.1.2
    have e3 := usedP_top hap id (Int.le_of_lt HR.out.pos) hF.2
    have e4 := hap.used_le' id (Int.le_refl 0) hF.2
    have e5 := usedP_nonneg c.wins id 0 xa
    have e6 := usedP_nonneg c.wins id xa xb
    have e7 := usedP_nonneg c.wins id xb 18446744073709551615
    rw [hu1] at e1 e5
    rw [hu2] at e1 e6
    rw [hu3] at e2 e7
    rw [hb0] at e3 e4
    exact ⟨e5, e6, e7, by omega, e4⟩
  have hself := usedP_self HR.out.apart id H2.out.1
  have c1 := hid (fun W (hW : Below w4.heap.size w4 W) => HRU.out W (Hc4.out.below hW) HR.out x0 x1 H0.out H1.out)
  have c2 := hid (fun W (hW : Below w4.heap.size w4 W) => HB.out W (Hc4.out.below hW) HR.out)
  have c3 := hid (fun W (hW : Below w4.heap.size w4 W) => HRB.out W (Hc4.out.below hW) HR.out)
  have c4 := hid (fun W (hW : Below w4.heap.size w4 W) => HU.out W (Hc4.out.below hW) HR.out 0 xa (by simp [U64]) hab.out.1)
  have c5 := hid (fun W (hW : Below w4.heap.size w4 W) => HU.out W (Hc4.out.below hW) HR.out xa xb hab.out.1 hab.out.2.1)
  have c6 := hid (fun W (hW : Below w4.heap.size w4 W) => HU.out W (Hc4.out.below hW) HR.out xb 18446744073709551615 hab.out.2.1 (by simp [U64]))
  have c7 := hid (fun W (hW : Below w4.heap.size w4 W) => HU.out W (Hc4.out.below hW) HR.out x2 x2 H2.out H2.out)
  rw [hn0] at c1 ⊢
  rw [hb0] at c2 c3
  rw [hu1] at c4
  rw [hu2] at c5
  rw [hu3] at c6
  rw [hself] at c7
  have w12 : IntKind.u64.wrap (u1 + u2) = u1 + u2 := wrap_id (by have := hsum.out; omega) (by have := hsum.out; omega)
  have w123 : IntKind.u64.wrap (u1 + u2 + u3) = b0 := by rw [hsum.out.2.2.2.1]; exact wrap_id (by have := hsum.out; omega) (by have := hsum.out; omega)
  clear hn0 hb0 hu1 hu2 hu3 hself HU HB HRU HRB Hc4 Hbx4 Hxb4
  go_wp2_with fail
  go_region_held3 (fun W => Below w4.heap.size w4 W) (first | assumption | exact (Below.refl _ _).drew) (first
    | (go_at_call 8; refine (alive15_c _).mono ?_; rintro e w6 ⟨rfl, hb6⟩; have hS := bthen (w := w4) (by first | assumption | exact (Below.refl _ _).drew) hb6)
    | (go_at_call 13; refine (c1.out _ (by first | assumption | exact (Below.refl _ _).drew)).mono ?_; rintro e w6 ⟨rfl, hb6⟩; have hS := bthen (w := w4) (by first | assumption | exact (Below.refl _ _).drew) hb6)
    | (go_at_call 14; refine (c2.out _ (by first | assumption | exact (Below.refl _ _).drew)).mono ?_; rintro e w6 ⟨rfl, hb6⟩; have hS := bthen (w := w4) (by first | assumption | exact (Below.refl _ _).drew) hb6)
    | (go_at_call 15; refine (c3.out _ (by first | assumption | exact (Below.refl _ _).drew)).mono ?_; rintro e w6 ⟨rfl, hb6⟩; have hS := bthen (w := w4) (by first | assumption | exact (Below.refl _ _).drew) hb6)
    | (go_at_call 12; with_reducible refine (c4.out _ (by first | assumption | exact (Below.refl _ _).drew)).mono ?_; rintro e w6 ⟨rfl, hb6⟩; have hS := bthen (w := w4) (by first | assumption | exact (Below.refl _ _).drew) hb6)
    | (go_at_call 12; with_reducible refine (c5.out _ (by first | assumption | exact (Below.refl _ _).drew)).mono ?_; rintro e w6 ⟨rfl, hb6⟩; have hS := bthen (w := w4) (by first | assumption | exact (Below.refl _ _).drew) hb6)
    | (go_at_call 12; with_reducible refine (c6.out _ (by first | assumption | exact (Below.refl _ _).drew)).mono ?_; rintro e w6 ⟨rfl, hb6⟩; have hS := bthen (w := w4) (by first | assumption | exact (Below.refl _ _).drew) hb6)
    | (go_at_call 12; with_reducible refine (c7.out _ (by first | assumption | exact (Below.refl _ _).drew)).mono ?_; rintro e w6 ⟨rfl, hb6⟩; have hS := bthen (w := w4) (by first | assumption | exact (Below.refl _ _).drew) hb6))
  have Hfin := hid (Hb4.out.trans (hS.mono Hb4.out.size))
  clear hS hb6 c1 c2 c3 c4 c5 c6 c7 z0 z1 z2 z3 z4 z5 v0 v1 v2
  go_wp2
  go_ret
  exact ⟨rfl, Hfin.out⟩
end Go.Proofs.Ytmoignbaphddeaa
namespace Go.Proofs.Ytmoignbaphddeaa
open Go.RowKit Go.ChangeShapes Go.WideShapes Go.Deep

section
variable {H : Type} {enc : TypeId × Value → H} {W : World}
theorem okWide_array {P : Program} {n : Nat} {e t : TypeId} {r : Reach} {base : Nat} {v : Value} (ht : P.underlying t = some (.array n e)) (h : Value.okWide P W r base t v) : ∃ cs, v = .agg cs ∧ cs.size = P.cellsOf t := by
  simp only [Value.okWide, ht] at h
  obtain ⟨cs, h1, h2, _⟩ := h
  exact ⟨cs, h1, h2⟩
theorem cells_three : Try.prog.cellsOf 39 = 3 := by kernel_rfl
set_option maxRecDepth 100000 in
theorem open_three {v : Value} {d : DataW H} {p : List MemPlace} {base : Nat} (hv : Value.okWide Try.prog W .any base 39 v) (h : DataW.Trod enc Try.prog W 0 (fun _ => true) true 39 v d p) :
    ∃ x y z : Int, v = .agg #[.int .u64 x, .int .u64 y, .int .u64 z] ∧ U64 x ∧ U64 y ∧ U64 z := by
  obtain ⟨cs, rfl, hsz⟩ := okWide_array Try.underlying39 hv
  obtain ⟨fuel, hf⟩ := h
  obtain ⟨xs, m, _, hx, _, hlen, hg⟩ := DataW.trod_array Try.underlying39 hf
  rw [cells_three] at hsz
  obtain ⟨cl⟩ := cs
  obtain ⟨c0, c1, c2, rfl⟩ := len3 (l := cl) hsz
  obtain ⟨x0, x1, x2, rfl⟩ := len3 hlen
  have f0 : DataW.trod enc Try.prog W 0 (fun _ => true) true m 22 [c0] = some x0 := by simpa [cells_u64, Value.cells] using hg 0 (by decide)
  have f1 : DataW.trod enc Try.prog W 0 (fun _ => true) true m 22 [c1] = some x1 := by simpa [cells_u64, Value.cells] using hg 1 (by decide)
  have f2 : DataW.trod enc Try.prog W 0 (fun _ => true) true m 22 [c2] = some x2 := by simpa [cells_u64, Value.cells] using hg 2 (by decide)
  obtain ⟨n0, e0, _, w0⟩ := DataW.trod_int Try.underlying22 f0
  obtain ⟨n1, e1, _, w1⟩ := DataW.trod_int Try.underlying22 f1
  obtain ⟨n2, e2, _, w2⟩ := DataW.trod_int Try.underlying22 f2
  simp only [List.cons.injEq, and_true] at e0 e1 e2
  subst e0 e1 e2
  exact ⟨n0, n1, n2, rfl, wf_u64 w0, wf_u64 w1, wf_u64 w2⟩
end
end Go.Proofs.Ytmoignbaphddeaa
