/-
  frame.spans, the check of one window
  frame.Check
  frame.Idle
  the idle windows: what sweep.Gaps leaves is what lies between the windows in their order. Plain law
  the ticks of windows in a part of a frame: plain law
  frame.Used
  the example of chapter 15
  Counts and Few of fenestraref05
  a configuration that came in, laid open
-/
import Derived.Test.YtmoignbaphddeaaB2Law15A
import Derived.Test.YtmoignbaphddeaaB3Law15A
import Derived.Test.YtmoignbaphddeaaB5Law15A
import Derived.Test.YtmoignbaphddeaaB1Law15A
import Derived.Test.YtmoignbaphddeaaChecked
import Derived.ProofKit
import Derived.Deep.Slices
import Derived.SizedLaws
import Derived.KernelRfl
set_option linter.unusedVariables false
namespace Go.Proofs.Ytmoignbaphddeaa
open Go.RowKit

/-- a window as a span -/
def spn (x : Win) : Spn := ⟨x.start, x.len⟩
theorem spn_ok {F : Int} {x : Win} (hF : F ≤ 18446744073709551615) (h : 0 ≤ x.start ∧ 0 < x.len ∧ x.start + x.len ≤ F) : (spn x).ok := by
  unfold Spn.ok spn; simp only; omega

set_option maxHeartbeats 2000000 in
theorem spans_c (w : World) (d : Option Addr) (cap : Nat) (l : List Win) (hrow : RowAt 3 encWin w d l) (hlen : l.length * 24 ≤ 140737488351232) :
    Calls Try.prog 27 #[.slice d l.length cap] w fun e w' => ∃ s, e = .returned s ∧ w'.ownsRow w.heap.size 75 2 s l.length ((l.map spn).flatMap encSpn) ∧ Below w.heap.size w w' := by
  have Hrow := hid hrow
  clear hrow
  go_enter Try.func27, Try.ntmps27
  go_wp2_with fail
  go_loopw [3, 8] (fun v i wr => ∃ k : Nat, k ≤ l.length ∧ i = .int .i64 k ∧ wr.ownsRow w.heap.size 75 2 v k (((l.take k).map spn).flatMap encSpn) ∧ Below w.heap.size w wr) (fun _ i _ => l.length - (intOf i).toNat)
  case atStart => exact ⟨0, Nat.zero_le _, rfl, World.ownsRow_nil _ _ _ _, Below.refl _ _⟩
  case round =>
    obtain ⟨k, hkn, rfl, hown, hbr⟩ := hrel
    by_cases hlt : k < l.length
    · obtain ⟨b, o, rfl, hb0, g0, g1, g2⟩ := (Hrow.out.below hbr).win hlt
      obtain ⟨x, hx⟩ : ∃ x, l[k] = x := ⟨_, rfl⟩
      rw [hx] at g0 g1 g2
      have Hx := hid hx
      obtain ⟨ad, c, rfl, hcap⟩ := own_slice hown
      have hbig := hbr.size
      have Hown := hid (hown.alloc (.cells #[.int .u64 x.start, .int .u64 x.len, .int .u16 x.part] 45))
      have Hb := hid (hbr.trans ((below_new wr (.cells #[.int .u64 x.start, .int .u64 x.len, .int .u16 x.part] 45)).mono hbr.size))
      clear hx hown hbr
      go_wp2_with (at_builtin; refine stop ?_)
      refine go_on ?_
      refine wp_append_lit rfl _ _ 68 75 rfl (z := .agg #[.int .u64 0, .int .u64 0]) (size := 2) (bytes := 16) Try.underlying68 infoSpn rfl (by decide) (wr.alloc (.cells #[.int .u64 x.start, .int .u64 x.len, .int .u16 x.part] 45)) w.heap.size _ k _ (encSpn (spn x)) 1 rfl (by rw [World.size_alloc]; rfl) (by exact Hown.out) rfl (by simp [encSpn, Value.oneCell']) (by omega) (by omega) (by rw [World.size_alloc]; omega) ?_
      intro v' w' hown' hg _
      have hnx : w'.ownsRow w.heap.size 75 2 v' (k + 1) (((l.take (k + 1)).map spn).flatMap encSpn) := by
        rw [List.take_add_one, List.getElem?_eq_getElem hlt, Hx.out, List.map_append, List.flatMap_append]
        simpa using hown'
      have Hnx := hid hnx
      have Hbf := hid (below_own Hb.out Hown.out (Nat.le_refl _) hg)
      clear hown' hg hnx g0 g1 g2
      go_wp2
      exact ⟨⟨k + 1, by omega, by go_num, Hnx.out, Hbf.out⟩, by simp [intOf]; omega⟩
    · have hke : k = l.length := by omega
      subst hke
      rw [List.take_length] at hown
      have Hown := hid hown
      have Hb := hid hbr
      clear hown hbr
      go_wp2
      go_ret
      exact ⟨_, rfl, Hown.out, Hb.out⟩

theorem addF_two {a b : Int} (ha : U64 a) (_hb : U64 b) : addF 0 [a, b] = if a + b ≤ 18446744073709551615 then (a + b, true) else (0, false) := by
  unfold U64 at ha
  unfold addF
  rw [if_pos (by omega)]
  unfold addF
  rw [Int.zero_add]
  split
  · unfold addF; rfl
  · rfl

set_option maxHeartbeats 4000000 in
set_option maxRecDepth 20000 in
theorem window_c (w : World) (x : Nat) (c : Cfg) (r1 r2 r3 r4 : Nat) (hx : IdxAt w x c r1 r2 r3 r4) (hf : U64 c.frame) (y : Win) (hy : y.ok) :
    Calls Try.prog 25 #[.agg #[.int .u64 c.frame, .pointer (some ⟨x, 0, none⟩)], .agg #[.int .u64 y.start, .int .u64 y.len, .int .u16 y.part]] w fun e w' => e = .returned (.int .i64 (winE c y)) ∧ Below w.heap.size w w' := by
  obtain ⟨u0, u1, u2⟩ := hy
  have hadd := addF_two u0 u1
  have hfU := hf
  unfold U64 at hf
  obtain ⟨ix, hix⟩ : ∃ ix, ixOf (c.parts.map (·.id)) y.part = ix := ⟨_, rfl⟩
  have hwe : winE c y = if ix < 0 then 19 else if y.len = 0 ∨ c.frame < y.len ∨ c.frame - y.len < y.start then 20 else 0 := by unfold winE; rw [hix]
  obtain ⟨r, hr⟩ : ∃ r, winE c y = r := ⟨_, rfl⟩
  rw [hr] at hwe ⊢
  have Hwe := hid hwe
  have hcall := hid (fun W (hb : Below w.heap.size w W) => xPartition_c W x c r1 r2 r3 r4 (hx.below hb) y.part)
  rw [hix] at hcall
  clear hx hix hr hwe
  go_enter Try.func25, Try.ntmps25
  go_wp2_with fail
  refine (hcall.out _ ((below_new _ _).alloc (by simp) _)).mono ?_
  rintro e w2 ⟨rfl, hb2⟩
  have hkb := heap_keep (heap_alloc' (heap_new w (.cells #[.int .u64 c.frame, .pointer (some ⟨x, 0, none⟩)] 65)) (.cells #[.int .u64 y.start, .int .u64 y.len, .int .u16 y.part] 45)) hb2
  have hyb : w2.heap[w.heap.size + 1]? = some (.cells #[.int .u64 y.start, .int .u64 y.len, .int .u16 y.part] 45 (0, 0)) := heap_keep (heap_at (by simp)) hb2
  have Hb2 := hid (((below_new w _).alloc (by simp) _).trans (hb2.mono (by simp; omega)))
  have Hkb := hid hkb
  have y0 := cell_of_heap (i := 0) hyb rfl
  have y1 := cell_of_heap (i := 1) hyb rfl
  have yl := lt_of_block hyb
  have Hyb := hid hyb
  clear hkb hyb hb2 hcall
  by_cases hneg : ix < 0
  · have hfin := Hwe.out
    rw [if_pos hneg] at hfin
    subst hfin
    go_wp2
    go_ret
    exact ⟨rfl, Hb2.out⟩
  have hadd' := hid (addNum_c (w2.alloc (.cells #[.int .u64 y.start, .int .u64 y.len] 22)) (some ⟨w2.heap.size, 0, none⟩) 2 [y.start, y.len] (by
    intro k z hk
    have hz := heap_new w2 (.cells #[.int .u64 y.start, .int .u64 y.len] 22)
    refine ⟨w2.heap.size, 0, rfl, fun j v hj => ?_⟩
    have hj0 : j = 0 := by
      have := (List.getElem?_eq_some_iff.1 hj).1
      simp only [List.length_cons, List.length_nil] at this
      omega
    subst hj0
    simp only [List.getElem?_cons_zero, Option.some.injEq] at hj
    subst hj
    match k, hk with
    | 0, hk => simp only [List.getElem?_cons_zero, Option.some.injEq] at hk; subst hk; exact cell_of_heap (i := 0) hz rfl
    | 1, hk => simp only [List.getElem?_cons_succ, List.getElem?_cons_zero, Option.some.injEq] at hk; subst hk; exact cell_of_heap (i := 1) hz rfl
    | k + 2, hk => simp at hk) (by simp) (by
    intro z hz
    simp only [List.mem_cons, List.not_mem_nil, or_false] at hz
    rcases hz with rfl | rfl
    · exact u0
    · exact u1))
  rw [hadd] at hadd'
  have v0 := u0
  have v1 := u1
  unfold U64 at v0 v1
  clear hadd u0 u1 hfU
  have hwf := Hwe.out
  rw [if_neg hneg] at hwf
  have hb3f := hid (fun (w3 : World) (hb : Below (w2.alloc (.cells #[.int .u64 y.start, .int .u64 y.len] 22)).heap.size (w2.alloc (.cells #[.int .u64 y.start, .int .u64 y.len] 22)) w3) => (below_new w2 (.cells #[.int .u64 y.start, .int .u64 y.len] 22)).trans (hb.mono (by simp)))
  by_cases hs : y.start + y.len ≤ 18446744073709551615
  · rw [if_pos hs] at hadd'
    obtain ⟨en, hen⟩ : ∃ en, y.start + y.len = en := ⟨_, rfl⟩
    rw [hen] at hadd' hs
    have Hen := hid hen
    clear hen Hwe
    by_cases hbad : y.len = 0 ∨ c.frame < y.len ∨ c.frame - y.len < y.start
    · rw [if_pos hbad] at hwf
      subst hwf
      by_cases hl0 : y.len = 0
      · have hl0b : (y.len == 0) = true := by simp [hl0]
        clear hl0 hbad
        go_wp2_with fail
        refine hadd'.out.mono ?_
        rintro e w3 ⟨rfl, hb3⟩
        have hyb3 := heap_keep Hyb.out (hb3f.out w3 hb3)
        have y0' := cell_of_heap (i := 0) hyb3 rfl
        have y1' := cell_of_heap (i := 1) hyb3 rfl
        have yl' := lt_of_block hyb3
        have hkb3 := heap_keep Hkb.out (hb3f.out w3 hb3)
        have k0' := cell_of_heap (i := 0) hkb3 rfl
        have kl' := lt_of_block hkb3
        have Hbf := hid (Hb2.out.trans ((hb3f.out w3 hb3).mono Hb2.out.size))
        clear y0 y1 hyb3 hkb3 hb3
        go_wp2
        go_ret
        exact ⟨rfl, Hbf.out⟩
      · have hl0b : (y.len == 0) = false := by simp [hl0]
        have hgt : c.frame < en := by have := Hen.out; omega
        clear hl0 hbad
        go_wp2_with fail
        refine hadd'.out.mono ?_
        rintro e w3 ⟨rfl, hb3⟩
        have hyb3 := heap_keep Hyb.out (hb3f.out w3 hb3)
        have y0' := cell_of_heap (i := 0) hyb3 rfl
        have y1' := cell_of_heap (i := 1) hyb3 rfl
        have yl' := lt_of_block hyb3
        have hkb3 := heap_keep Hkb.out (hb3f.out w3 hb3)
        have k0' := cell_of_heap (i := 0) hkb3 rfl
        have kl' := lt_of_block hkb3
        have Hbf := hid (Hb2.out.trans ((hb3f.out w3 hb3).mono Hb2.out.size))
        clear y0 y1 hyb3 hkb3 hb3
        go_wp2
        go_ret
        exact ⟨rfl, Hbf.out⟩
    · rw [if_neg hbad] at hwf
      subst hwf
      have hl0b : (y.len == 0) = false := by simp; omega
      have hgt : ¬ c.frame < en := by have := Hen.out; omega
      clear hbad
      go_wp2_with fail
      refine hadd'.out.mono ?_
      rintro e w3 ⟨rfl, hb3⟩
      have hyb3 := heap_keep Hyb.out (hb3f.out w3 hb3)
      have y0' := cell_of_heap (i := 0) hyb3 rfl
      have y1' := cell_of_heap (i := 1) hyb3 rfl
      have yl' := lt_of_block hyb3
      have hkb3 := heap_keep Hkb.out (hb3f.out w3 hb3)
      have k0' := cell_of_heap (i := 0) hkb3 rfl
      have kl' := lt_of_block hkb3
      have Hbf := hid (Hb2.out.trans ((hb3f.out w3 hb3).mono Hb2.out.size))
      clear y0 y1 hyb3 hkb3 hb3
      go_wp2
      go_ret
      exact ⟨rfl, Hbf.out⟩
  · rw [if_neg hs] at hadd'
    rw [if_pos (by omega)] at hwf
    subst hwf
    clear hs Hwe
    go_wp2_with fail
    refine hadd'.out.mono ?_
    rintro e w3 ⟨rfl, hb3⟩
    have hyb3 := heap_keep Hyb.out (hb3f.out w3 hb3)
    have y0' := cell_of_heap (i := 0) hyb3 rfl
    have y1' := cell_of_heap (i := 1) hyb3 rfl
    have yl' := lt_of_block hyb3
    have hkb3 := heap_keep Hkb.out (hb3f.out w3 hb3)
    have k0' := cell_of_heap (i := 0) hkb3 rfl
    have kl' := lt_of_block hkb3
    have Hbf := hid (Hb2.out.trans ((hb3f.out w3 hb3).mono Hb2.out.size))
    clear y0 y1 hyb3 hkb3 hb3
    go_wp2
    go_ret
    exact ⟨rfl, Hbf.out⟩
end Go.Proofs.Ytmoignbaphddeaa
namespace Go.Proofs.Ytmoignbaphddeaa
open Go.RowKit

theorem over_free {x y : Win} (_hx : 0 < x.len) (_hy : 0 < y.len) : Over (spn x) (spn y) ↔ ¬ Free x y := by
  unfold Over spn Free; simp only; omega
theorem first_fault {c : Cfg} (hpos : 0 < c.frame) (hall : ∀ x ∈ c.wins, winE c x = 0) (hok : ∀ x ∈ c.wins, x.ok) (hF : c.frame ≤ 18446744073709551615) {m : List (Int × Int)} (hm : PairsOk (c.wins.map spn) m) :
    ((firstF (fun _ _ => false) m).2 = -1 ∧ FaultW c (0, 0, 0)) ∨ (∃ q : Nat, (firstF (fun _ _ => false) m).2 = (q : Int) ∧ FaultW c (21, 2, (q : Int))) := by
  have hlen : ∀ x ∈ c.wins, 0 ≤ x.start ∧ 0 < x.len ∧ x.start + x.len ≤ c.frame := by
    intro x hx
    have h1 := winE_len (hall x hx) (hok x hx)
    have h2 := (hok x hx).1
    unfold U64 at h2
    omega
  have hsok : ∀ s ∈ c.wins.map spn, s.ok := by
    intro s hs
    obtain ⟨x, hx, rfl⟩ := List.mem_map.1 hs
    exact spn_ok hF (hlen x hx)
  have hmem : ∀ p : Int × Int, p ∈ m ↔ ∃ (i j : Nat) (_ : i < j) (hi : i < c.wins.length) (hj : j < c.wins.length), ¬ Free c.wins[i] c.wins[j] ∧ p = ((i : Int), (j : Int)) := by
    intro p
    rw [← hm.1.mem_iff, pairsI_mem hsok]
    constructor
    · rintro ⟨i, j, hij, hj, ho, rfl⟩
      rw [List.length_map] at hj
      refine ⟨i, j, hij, by omega, hj, ?_, rfl⟩
      rw [List.getElem_map, List.getElem_map] at ho
      exact (over_free (hlen _ (List.getElem_mem _)).2.1 (hlen _ (List.getElem_mem _)).2.1).1 ho
    · rintro ⟨i, j, hij, hi, hj, ho, rfl⟩
      refine ⟨i, j, hij, by rw [List.length_map]; exact hj, ?_, rfl⟩
      rw [List.getElem_map, List.getElem_map]
      exact (over_free (hlen _ (List.getElem_mem _)).2.1 (hlen _ (List.getElem_mem _)).2.1).2 ho
  have h0 : ∀ p ∈ m, 0 ≤ p.2 := by
    intro p hp
    obtain ⟨i, j, -, -, -, -, rfl⟩ := (hmem p).1 hp
    simp
  rcases firstF_spec (fun _ _ => false) m h0 with ⟨h1, h2⟩ | ⟨h1, ⟨p, hp, -, hp2⟩, h3⟩
  · refine .inl ⟨h1, .ok hpos hall fun j hj i hij => ?_⟩
    refine Classical.byContradiction fun hn => ?_
    have := h2 _ ((hmem ((i : Int), (j : Int))).2 ⟨i, j, hij, by omega, hj, hn, rfl⟩)
    cases this
  · obtain ⟨i, q, hij, hi, hj, hn, rfl⟩ := (hmem p).1 hp
    simp only at hp2
    refine .inr ⟨q, hp2.symm, .over q hj hpos hall (fun j hjq i' hi' hil hjl => ?_) ⟨i, hij, hi, hn⟩⟩
    refine Classical.byContradiction fun hn' => ?_
    have := h3 _ ((hmem ((i' : Int), (j : Int))).2 ⟨i', j, hi', hil, hjl, hn', rfl⟩) rfl
    simp only at this
    omega

set_option maxHeartbeats 8000000 in
set_option maxRecDepth 20000 in
theorem frameCheck_c (w : World) (c : Cfg) (A : Adr) (hc : CfgAt w c A) (hn : c.wins.length ≤ 1048576) :
    Calls Try.prog 10 #[cfgVal c A] w fun e w' => ∃ f : Int × Int × Int, FaultW c f ∧ e = .returned (.agg #[.int .i64 f.1, .int .i64 f.2.1, .int .i64 f.2.2]) ∧ Below w.heap.size w w' := by
  obtain ⟨a1, k1, a2, k2, a3, k3, a4, k4, a5, k5⟩ := A
  have hokw := hid hc.ok.wins
  have hfr := hid hc.ok.frame
  simp only [cfgVal, cfgCells]
  by_cases hz : c.frame = 0
  · have hzb : (c.frame == 0) = true := by simp [hz]
    have hfz := hid (FaultW.zero (c := c) hz)
    clear hc hz
    go_enter Try.func10, Try.ntmps10
    go_wp2
    exact bodyPost_fault (b := w.heap.size + 1) rfl rfl rfl (by repeat (first | (refine heap_at ?_; simp; done) | refine heap_alloc' ?_ _)) ⟨(17, 0, 0), hfz.out, rfl, (below_new _ _).alloc (by simp) _⟩
  have hzb : (c.frame == 0) = false := by simp [hz]
  have hpos := hid (show 0 < c.frame by have := hfr.out; unfold U64 at this; omega)
  clear hz
  go_enter Try.func10, Try.ntmps10
  go_wp2_with fail
  refine wp_name (fun W => Below w.heap.size w W ∧ W.heap.size = w.heap.size + 2 ∧ W.heap[w.heap.size]? = some (.cells (cfgCells c ⟨a1, k1, a2, k2, a3, k3, a4, k4, a5, k5⟩) 29 (0, 0)) ∧ W.heap[w.heap.size + 1]? = some (.cells #[.int .i64 0, .int .i64 0, .int .i64 0] 36 (0, 0)))
    ⟨(below_new _ _).alloc (by simp) _, by simp, by repeat (first | (refine heap_at ?_; simp; done) | refine heap_alloc' ?_ _), by repeat (first | (refine heap_at ?_; simp; done) | refine heap_alloc' ?_ _)⟩ ?_
  rintro w1 ⟨hb1, hs1, hbox, hres⟩
  obtain ⟨z0, z1, z2, z3, z4, z5⟩ := box_later hbox
  have hwl := lt_of_block hbox
  have hsz := hid hs1
  clear hs1
  have hnew := hid (fun W (hW : Below w1.heap.size w1 W) => New_c W c ⟨a1, k1, a2, k2, a3, k3, a4, k4, a5, k5⟩ (hc.below (hb1.trans (hW.mono hb1.size))))
  have Hc := hid hc
  have Hb1 := hid hb1
  have Hbox := hid hbox
  have Hres := hid hres
  clear hc hb1 hbox hres
  simp only [cfgVal, cfgCells] at hnew
  go_region_held3 (fun W => Below w1.heap.size w1 W) (first | assumption | exact (Below.refl _ _).drew) (first
    | (go_at_call 24; refine (hnew.out _ (by first | assumption | exact (Below.refl _ _).drew)).mono ?_; rintro e w6 ⟨x, r1, r2, r3, r4, rfl, hidx, hb6⟩; have hS := bthen (w := w1) (by first | assumption | exact (Below.refl _ _).drew) hb6))
  have Hidx := hid hidx
  have Hb6 := hid (Hb1.out.trans (hS.mono Hb1.out.size))
  have HS := hid hS
  have Hc6 := hid (Hc.out.below Hb6.out)
  clear hidx hb6 hS hnew z0 z1 z2 z3 z4 z5
  have z2 := cell_of_heap (i := 2) (heap_keep Hbox.out HS.out) rfl
  have hwl6 := lt_of_block (heap_keep Hbox.out HS.out)
  simp only [cfgCells] at z2
  go_wp2_with fail
  go_loopw [22] (fun i wr => ∃ k : Nat, k ≤ c.wins.length ∧ i = .int .i64 k ∧ Hid (∀ j (_ : j < k) (hj : j < c.wins.length), winE c c.wins[j] = 0) ∧ Below w6.heap.size w6 wr) (fun i _ => c.wins.length - (intOf i).toNat)
  case atStart => exact ⟨0, Nat.zero_le _, rfl, fun j hj => by omega, Below.refl _ _⟩
  case round =>
    obtain ⟨k, hkn, rfl, Hk, hbr⟩ := hrel
    have Hbw := hid (bthen Hb6.out hbr)
    have hres := heap_keep Hres.out (bthen HS.out hbr)
    have q0 := cell_of_heap (i := 0) hres rfl
    have q1 := cell_of_heap (i := 1) hres rfl
    have q2 := cell_of_heap (i := 2) hres rfl
    have ql := lt_of_block hres
    have qf : ∀ i, wr.frozen? ⟨w.heap.size + 1, i, none⟩ = false := fun i => free_of_heap hres
    have Hresr := hid hres
    clear hres
    by_cases hlt : k < c.wins.length
    · obtain ⟨b, o, ha, hb0, h0, h1, h2⟩ := (Hc6.out.below hbr).wins.win hlt
      simp only at ha
      subst ha
      obtain ⟨y, hy⟩ : ∃ y, c.wins[k] = y := ⟨_, rfl⟩
      rw [hy] at h0 h1 h2
      have Hy := hid hy
      have hoky := hid (hokw.out y (by rw [← hy]; exact List.getElem_mem hlt))
      have hcall := hid (window_c (wr.alloc (.cells #[.int .u64 y.start, .int .u64 y.len, .int .u16 y.part] 45)) x c r1 r2 r3 r4 ((Hidx.out.below hbr).below (below_new _ _)) hfr.out y hoky.out)
      obtain ⟨r, hr⟩ : ∃ r, winE c y = r := ⟨_, rfl⟩
      rw [hr] at hcall
      have Hr := hid hr
      clear hy hr z2
      go_wp2_with fail
      refine hcall.out.mono ?_
      rintro e w8 ⟨rfl, hb8⟩
      have hb8w := hid ((below_new wr (.cells #[.int .u64 y.start, .int .u64 y.len, .int .u16 y.part] 45)).trans (hb8.mono (by simp)))
      have hres8 := heap_keep Hresr.out hb8w.out
      clear q0 q1 q2 ql qf hcall hb8 h0 h1 h2 hb0
      have q0 := cell_of_heap (i := 0) hres8 rfl
      have q1 := cell_of_heap (i := 1) hres8 rfl
      have q2 := cell_of_heap (i := 2) hres8 rfl
      have ql := lt_of_block hres8
      have qf : ∀ i, w8.frozen? ⟨w.heap.size + 1, i, none⟩ = false := fun i => free_of_heap hres8
      have Hres8 := hid hres8
      have Hbf := hid (bthen hbr hb8w.out)
      clear hres8
      by_cases hr0 : r = 0
      · subst hr0
        have hnext : Hid (∀ j (_ : j < k + 1) (hj : j < c.wins.length), winE c c.wins[j] = 0) := by
          intro j hj hjl
          rcases Nat.lt_succ_iff_lt_or_eq.1 hj with h | rfl
          · exact Hk.out j h hjl
          · rw [Hy.out]; exact Hr.out
        clear q0 q1 q2 ql qf
        go_wp2
        exact ⟨⟨k + 1, by omega, by go_num, hnext, Hbf.out⟩, by simp [intOf]; omega⟩
      · have hrb : (r == 0) = false := by simpa using hr0
        have hft : Hid (FaultW c (r, 2, (k : Int))) := by
          have := FaultW.win (c := c) k hlt hpos.out (fun j hj => Hk.out j hj (by omega)) (by rw [Hy.out, Hr.out]; exact hr0)
          rw [Hy.out, Hr.out] at this
          exact this
        have Hbw8 := hid (bthen Hb6.out Hbf.out)
        go_wp2
        exact bodyPost_fault rfl rfl rfl (set3 Hres8.out _ _ _) ⟨_, hft.out, rfl, bset (bset (bset Hbw8.out (by simp) _ _) (by simp) _ _) (by simp) _ _⟩
    · have hke : k = c.wins.length := by omega
      have HallE : Hid (∀ x ∈ c.wins, winE c x = 0) := by
        intro x hx
        obtain ⟨j, hj, rfl⟩ := List.getElem_of_mem hx
        exact Hk.out j (by omega) hj
      clear Hk
      have z2' := cell_of_heap (i := 2) (heap_keep Hbox.out (bthen HS.out hbr)) rfl
      have hwlr := lt_of_block (heap_keep Hbox.out (bthen HS.out hbr))
      simp only [cfgCells] at z2'
      have Hbr := hid hbr
      have hsp := hid (spans_c wr a2 k2 c.wins (Hc6.out.below hbr).wins (by omega))
      clear z2 hbr
      go_wp2_with fail
      refine hsp.out.mono ?_
      rintro e w8 ⟨s, rfl, hown, hb8⟩
      obtain ⟨ad, cp, rfl, _⟩ := own_slice hown
      have hlen2 : ∀ y ∈ c.wins, 0 ≤ y.start ∧ 0 < y.len ∧ y.start + y.len ≤ c.frame := by
        intro y hy
        have h1 := winE_len (HallE.out y hy) (hokw.out y hy)
        have h2 := (hokw.out y hy).1
        unfold U64 at h2
        omega
      have hFle : c.frame ≤ 18446744073709551615 := by have := hfr.out; unfold U64 at this; exact this.2
      have hfirst := firstNil_c w8 ad cp (c.wins.map spn) (own_row hown (fun _ _ => rfl) (by simp)) (by
        intro q hq
        obtain ⟨y, hy, rfl⟩ := List.mem_map.1 hq
        exact spn_ok hFle (hlen2 y hy)) (by rw [List.length_map]; exact hn)
      rw [List.length_map] at hfirst
      have Hfirst := hid hfirst
      have Hb8 := hid (bthen Hbr.out hb8)
      have Hres8 := hid (heap_keep Hresr.out hb8)
      clear hown hb8 hsp hfirst hlen2 q0 q1 q2 ql qf z2' hwlr
      go_wp2_with fail
      refine Hfirst.out.mono ?_
      rintro e w9 ⟨m, hm, rfl, hb9⟩
      have hcase := first_fault hpos.out HallE.out hokw.out hFle hm
      obtain ⟨f1, hf1⟩ : ∃ f1, (firstF (fun _ _ => false) m).1 = f1 := ⟨_, rfl⟩
      obtain ⟨f2, hf2⟩ : ∃ f2, (firstF (fun _ _ => false) m).2 = f2 := ⟨_, rfl⟩
      rw [hf1, hf2]
      rw [hf2] at hcase
      have hres9 := heap_keep Hres8.out hb9
      have q0 := cell_of_heap (i := 0) hres9 rfl
      have q1 := cell_of_heap (i := 1) hres9 rfl
      have q2 := cell_of_heap (i := 2) hres9 rfl
      have ql := lt_of_block hres9
      have qf : ∀ i, w9.frozen? ⟨w.heap.size + 1, i, none⟩ = false := fun i => free_of_heap hres9
      have Hres9 := hid hres9
      have Hbw9 := hid (bthen Hb6.out (bthen Hb8.out hb9))
      have Hcase := hid hcase
      clear hm hf1 hf2 hcase hres9 hb9 Hfirst
      by_cases hf0 : 0 ≤ f2
      · have hft : Hid (FaultW c (21, 2, f2)) := by
          rcases Hcase.out with ⟨h1, -⟩ | ⟨q, h1, h2⟩
          · omega
          · rw [h1]; exact h2
        go_wp2
        exact bodyPost_fault rfl rfl rfl (set3 Hres9.out _ _ _) ⟨_, hft.out, rfl, bset (bset (bset Hbw9.out (by simp) _ _) (by simp) _ _) (by simp) _ _⟩
      · have hft : Hid (FaultW c (0, 0, 0)) := by
          rcases Hcase.out with ⟨h1, h2⟩ | ⟨q, h1, h2⟩
          · exact h2
          · omega
        go_wp2
        exact bodyPost_fault rfl rfl rfl (set3 Hres9.out _ _ _) ⟨_, hft.out, rfl, bset (bset (bset Hbw9.out (by simp) _ _) (by simp) _ _) (by simp) _ _⟩
end Go.Proofs.Ytmoignbaphddeaa
namespace Go.Proofs.Ytmoignbaphddeaa
open Go.RowKit

/-- the idle windows, as the program reckons them -/
def asWin (s : Spn) : Win := ⟨s.lo, s.len, 0⟩
def idleL (c : Cfg) : List Win := (gEnd c.frame ((visitT (c.wins.map spn)).map Prod.fst)).map asWin
theorem RightW.spans {c : Cfg} (h : RightW c) (hF : U64 c.frame) : ∀ s ∈ c.wins.map spn, s.ok := by
  intro s hs
  obtain ⟨x, hx, rfl⟩ := List.mem_map.1 hs
  unfold U64 at hF
  exact spn_ok hF.2 (h.apart.each x hx)
theorem gEnd_len (total : Int) (l : List Itm) : (gEnd total l).length ≤ l.length + 1 := by
  unfold gEnd
  have h1 := gAdd_len total (gFold total l)
  have h2 := gFold_len total l
  omega
theorem visitT_len {l : List Spn} (hok : ∀ s ∈ l, s.ok) : (visitT l).length = l.length := by
  have := (visitT_visits hok).perm.length_eq
  simpa [itsA_size] using this

theorem infoWin : (Try.prog.info? 45).map (fun i => (i.zero, i.size, i.bytes)) = some (some (.agg #[.int .u64 0, .int .u64 0, .int .u16 0]), 3, 24) := by kernel_rfl

set_option maxHeartbeats 4000000 in
set_option maxRecDepth 20000 in
theorem idle_c (w : World) (c : Cfg) (A : Adr) (hc : CfgAt w c A) (hR : RightW c) (hn : c.wins.length ≤ 1048576) :
    Calls Try.prog 17 #[cfgVal c A] w fun e w' => ∃ s, e = .returned s ∧ w'.ownsRow w.heap.size 45 3 s (idleL c).length ((idleL c).flatMap encWin) ∧ Below w.heap.size w w' := by
  obtain ⟨a1, k1, a2, k2, a3, k3, a4, k4, a5, k5⟩ := A
  have hF := hc.ok.frame
  have hsp := hR.spans hF
  have hspans := hid (fun W (hW : Below w.heap.size w W) => spans_c W a2 k2 c.wins (hc.below hW).wins (by omega))
  have hgaps : Hid (∀ (W : World) (ad : Option Addr) (cp : Nat), RowAt 2 encSpn W ad (c.wins.map spn) → Calls Try.prog 32 #[.int .u64 c.frame, .slice ad c.wins.length cp] W fun e w' => ∃ s, e = .returned s ∧ w'.ownsRow W.heap.size 75 2 s (gEnd c.frame ((visitT (c.wins.map spn)).map Prod.fst)).length ((gEnd c.frame ((visitT (c.wins.map spn)).map Prod.fst)).flatMap encSpn) ∧ Below W.heap.size W w') := by
    intro W ad cp hr
    have := gaps_c W c.frame hF ad cp (c.wins.map spn) hr hsp (by rw [List.length_map]; exact hn)
    rw [List.length_map] at this
    exact this
  obtain ⟨G, hG⟩ : ∃ G, gEnd c.frame ((visitT (c.wins.map spn)).map Prod.fst) = G := ⟨_, rfl⟩
  have hGl : G.length ≤ 1048577 := by
    rw [← hG]
    have := gEnd_len c.frame ((visitT (c.wins.map spn)).map Prod.fst)
    rw [List.length_map, visitT_len hsp, List.length_map] at this
    omega
  have hI : idleL c = G.map asWin := by unfold idleL; rw [hG]
  rw [hG] at hgaps
  rw [hI]
  clear hc hR hsp hG hI
  simp only [cfgVal, cfgCells]
  go_enter Try.func17, Try.ntmps17
  go_wp2_with fail
  refine wp_name (fun W => Below w.heap.size w W ∧ W.heap[w.heap.size]? = some (.cells (cfgCells c ⟨a1, k1, a2, k2, a3, k3, a4, k4, a5, k5⟩) 29 (0, 0))) ⟨below_new _ _, heap_new _ _⟩ ?_
  rintro w1 ⟨hb1, hbox⟩
  obtain ⟨z0, z1, z2, z3, z4, z5⟩ := box_later hbox
  have hwl := lt_of_block hbox
  have Hb1 := hid hb1
  clear hb1 hbox
  go_region_held3 (fun W => Below w1.heap.size w1 W) (first | assumption | exact (Below.refl _ _).drew) (first
    | (go_at_call 27; refine (hspans.out _ (Hb1.out.trans (RowKit.Below.mono (by first | assumption | exact (Below.refl _ _).drew) Hb1.out.size))).mono ?_; rintro e w6 ⟨s6, rfl, hown6, hb6⟩; obtain ⟨ad6, cp6, rfl, _⟩ := own_slice hown6; have hrow6 := own_row hown6 (fun _ _ => rfl) (by simp); have hS := bthen (w := w1) (by first | assumption | exact (Below.refl _ _).drew) hb6)
    | (go_at_call 32; refine (hgaps.out _ _ _ hrow6).mono ?_; rintro e w7 ⟨s7, rfl, hown7, hb7⟩; obtain ⟨ad7, cp7, rfl, _⟩ := own_slice hown7; have hS7 := bthen (w := w1) hS hb7))
  have Hrow7 := hid (own_row hown7 (fun _ _ => rfl) rfl)
  have Hb7 := hid (Hb1.out.trans (hS7.mono Hb1.out.size))
  clear hown7 hown6 hrow6 hS hS7 hb6 hb7 hspans hgaps z0 z1 z2 z3 z4 z5
  go_wp2_with fail
  go_loopw [3, 13] (fun v i wr => ∃ k : Nat, k ≤ G.length ∧ i = .int .i64 k ∧ wr.ownsRow w7.heap.size 45 3 v k (((G.take k).map asWin).flatMap encWin) ∧ Below w7.heap.size w7 wr) (fun _ i _ => G.length - (intOf i).toNat)
  case atStart => exact ⟨0, Nat.zero_le _, rfl, World.ownsRow_nil _ _ _ _, Below.refl _ _⟩
  case round =>
    obtain ⟨k, hkn, rfl, hown, hbr⟩ := hrel
    by_cases hlt : k < G.length
    · obtain ⟨b, o, rfl, hb0, g0, g1⟩ := (Hrow7.out.below hbr).spn hlt
      obtain ⟨x, hx⟩ : ∃ x, G[k] = x := ⟨_, rfl⟩
      rw [hx] at g0 g1
      have Hx := hid hx
      obtain ⟨ad, cq, rfl, hcap⟩ := own_slice hown
      have hbig := hbr.size
      have Hown := hid (hown.alloc (.cells #[.int .u64 x.lo, .int .u64 x.len] 75))
      have Hb := hid (hbr.trans ((below_new wr (.cells #[.int .u64 x.lo, .int .u64 x.len] 75)).mono hbr.size))
      clear hx hown hbr
      go_wp2_with (at_builtin; refine stop ?_)
      refine go_on ?_
      refine wp_append_lit rfl _ _ 24 45 rfl (z := .agg #[.int .u64 0, .int .u64 0, .int .u16 0]) (size := 3) (bytes := 24) Try.underlying24 infoWin rfl (by decide) (wr.alloc (.cells #[.int .u64 x.lo, .int .u64 x.len] 75)) w7.heap.size _ k _ (encWin (asWin x)) 1 rfl (by rw [World.size_alloc]; rfl) (by exact Hown.out) rfl (by simp [encWin, Value.oneCell']) (by omega) (by omega) (by rw [World.size_alloc]; omega) ?_
      intro v' w' hown' hg _
      have hnx : w'.ownsRow w7.heap.size 45 3 v' (k + 1) (((G.take (k + 1)).map asWin).flatMap encWin) := by
        rw [List.take_add_one, List.getElem?_eq_getElem hlt, Hx.out, List.map_append, List.flatMap_append]
        simpa using hown'
      have Hnx := hid hnx
      have Hbf := hid (below_own Hb.out Hown.out (Nat.le_refl _) hg)
      clear hown' hg hnx g0 g1
      go_wp2
      exact ⟨⟨k + 1, by omega, by go_num, Hnx.out, Hbf.out⟩, by simp [intOf]; omega⟩
    · have hke : k = G.length := by omega
      subst hke
      rw [List.take_length] at hown
      have Hown := hid (own_base hown Hb7.out.size)
      have Hb := hid (bthen Hb7.out hbr)
      clear hown hbr
      go_wp2
      go_ret
      exact ⟨_, rfl, by rw [List.length_map]; exact Hown.out, Hb.out⟩
end Go.Proofs.Ytmoignbaphddeaa
namespace Go.Proofs.Ytmoignbaphddeaa
open Go.RowKit

def itmOf (x : Win) : Itm := ⟨x.start, x.len, 0⟩
theorem gVis_idx (total : Int) (st : GSt) (x y : Itm) (h1 : x.lo = y.lo) (h2 : x.len = y.len) : gVis total st x = gVis total st y := by
  unfold gVis Itm.last; rw [h1, h2]
theorem gFold_idx (total : Int) : ∀ (l m : List Itm) (st : GSt), l.map (fun x => (x.lo, x.len)) = m.map (fun x => (x.lo, x.len)) → l.foldl (gVis total) st = m.foldl (gVis total) st
  | [], [], _, _ => rfl
  | [], _ :: _, _, h => by simp at h
  | _ :: _, [], _, h => by simp at h
  | x :: l, y :: m, st, h => by
    simp only [List.map_cons, List.cons.injEq, Prod.mk.injEq] at h
    rw [List.foldl_cons, List.foldl_cons, gVis_idx total st x y h.1.1 h.1.2]
    exact gFold_idx total l m _ h.2

/-- what lies between windows -/
def idleR (F : Int) : Int → List Win → List Win
  | at_, [] => if at_ < F then [⟨at_, F - at_, 0⟩] else []
  | at_, x :: r => (if at_ < x.start then [⟨at_, x.start - at_, 0⟩] else []) ++ idleR F (x.start + x.len) r

theorem RightW.start_inj {c : Cfg} (h : RightW c) {a b : Win} (ha : a ∈ c.wins) (hb : b ∈ c.wins) (he : a.start = b.start) : a = b := by
  obtain ⟨i, hi, rfl⟩ := List.getElem_of_mem ha
  obtain ⟨j, hj, rfl⟩ := List.getElem_of_mem hb
  have h1 := h.apart.each _ ha
  have h2 := h.apart.each _ hb
  rcases Nat.lt_trichotomy i j with hij | rfl | hij
  · have := List.pairwise_iff_getElem.1 h.apart.free i j hi hj hij
    unfold Free at this; omega
  · rfl
  · have := List.pairwise_iff_getElem.1 h.apart.free j i hj hi hij
    unfold Free at this; omega
theorem RightW.sorted_eq {c : Cfg} (h : RightW c) {l m : List Win} (hl : c.wins.Perm l) (hm : c.wins.Perm m) (sl : l.Pairwise fun a b => a.start ≤ b.start) (sm : m.Pairwise fun a b => a.start ≤ b.start) : l = m :=
  List.Perm.eq_of_pairwise (fun a b ha hb h1 h2 => h.start_inj (hl.mem_iff.2 ha) (hm.mem_iff.2 hb) (Int.le_antisymm h1 h2)) sl sm (hl.symm.trans hm)

theorem gEnd_chain {F : Int} (hF : F ≤ 18446744073709551615) : ∀ (m : List Win) (E : Int) (out : List Spn), (∀ x ∈ m, 0 ≤ x.start) → Chain F E m → E ≤ F → (∀ x ∈ m, 0 < x.len) →
    ((gAdd F ((m.map itmOf).foldl (gVis F) ⟨E, false, out⟩)).out).map asWin = out.map asWin ++ idleR F E m
  | [], E, out, _, _, _, _ => by
    unfold idleR gAdd
    simp only [List.map_nil, List.foldl_nil]
    by_cases h : E < F
    · rw [if_pos ⟨trivial, h⟩, if_pos h]; simp [asWin]
    · rw [if_neg (fun h' => h h'.2), if_neg h]; simp
  | x :: m, E, out, h0, hc, hE, hl => by
    have hc' := hc
    unfold Chain at hc'
    obtain ⟨h1, h2, h2', h3⟩ := hc'
    have hxl := hl x (by simp)
    have hx0 := h0 x (by simp)
    have hlast : (itmOf x).last = x.start + x.len - 1 := rfl
    have hxF : x.start + x.len ≤ F := h2'
    rw [List.map_cons, List.foldl_cons]
    have hmin : min (itmOf x).lo F = x.start := by show min x.start F = x.start; omega
    have hstep : gVis F ⟨E, false, out⟩ (itmOf x) = ⟨x.start + x.len, false, out ++ (if E < x.start then [⟨E, x.start - E⟩] else [])⟩ := by
      unfold gVis
      rw [if_neg (by rw [hlast]; omega), hmin]
      unfold gAdd
      simp only
      by_cases h : E < x.start
      · rw [if_pos ⟨trivial, h⟩, if_pos h]
        simp only [GSt.mk.injEq, and_true]
        rw [hlast]; omega
      · rw [if_neg (fun h' => h h'.2), if_neg h]
        simp only [GSt.mk.injEq, and_true, List.append_nil]
        rw [hlast]; omega
    rw [hstep, gEnd_chain hF m (x.start + x.len) _ (fun y hy => h0 y (List.mem_cons_of_mem _ hy)) h3 hxF (fun y hy => hl y (List.mem_cons_of_mem _ hy))]
    rw [idleR, List.map_append, List.append_assoc]
    congr 2
    split <;> rfl

/-- the program's idle windows, by any order of the windows -/
theorem idleL_eq {c : Cfg} (h : RightW c) (hF : U64 c.frame) {m : List Win} (hm : c.wins.Perm m) (hs : m.Pairwise fun a b => a.start ≤ b.start) : idleL c = idleR c.frame 0 m := by
  have hsp := h.spans hF
  have hv := visitT_visits hsp
  have hap := h.apart.perm hm
  have hperm : (((visitT (c.wins.map spn)).map Prod.fst).map fun x => (x.lo, x.len)).Perm (m.map fun x => (x.start, x.len)) := by
    refine (hv.perm.map _).trans ?_
    have : (itsA (c.wins.map spn)).toList.map (fun x => (x.lo, x.len)) = c.wins.map fun x => (x.start, x.len) := by
      apply List.ext_getElem?
      intro k
      show ((itemsL 0 (c.wins.map spn)).map fun x => (x.lo, x.len))[k]? = _
      rw [List.getElem?_map, itemsL_get, List.getElem?_map, List.getElem?_map]
      cases c.wins[k]? <;> rfl
    rw [this]
    exact hm.map _
  have hlist : ((visitT (c.wins.map spn)).map Prod.fst).map (fun x => (x.lo, x.len)) = (m.map itmOf).map (fun x => (x.lo, x.len)) := by
    have e : (m.map itmOf).map (fun x => (x.lo, x.len)) = m.map fun x => (x.start, x.len) := by rw [List.map_map]; rfl
    rw [e]
    refine List.Perm.eq_of_pairwise (le := fun a b => a.1 ≤ b.1) ?_ ?_ ?_ hperm
    · intro a b ha hb h1 h2
      obtain ⟨y, hy, rfl⟩ := List.mem_map.1 hb
      obtain ⟨z, hz, rfl⟩ := List.mem_map.1 (hperm.mem_iff.1 ha)
      have := h.start_inj (hm.mem_iff.2 hz) (hm.mem_iff.2 hy) (Int.le_antisymm h1 h2)
      rw [this]
    · rw [List.pairwise_map]
      exact hv.asc
    · rw [List.pairwise_map]
      exact hs
  unfold idleL gEnd gFold
  rw [gFold_idx c.frame _ _ _ hlist]
  unfold U64 at hF
  have := gEnd_chain hF.2 m 0 [] (fun x hx => (hap.each x hx).1) (hap.chain hs (fun x hx => (hap.each x hx).1)) (Int.le_of_lt h.pos) (fun x hx => (hap.each x hx).2.1)
  simpa using this
end Go.Proofs.Ytmoignbaphddeaa
namespace Go.Proofs.Ytmoignbaphddeaa
open Go.RowKit

/-- the ticks of windows in a part of a frame, as 64 bits add them up -/
def stepU (a b n : Int) (y : Int × Int) : Int := if (if y.1 < a then a else y.1) < (if b < y.2 then b else y.2) then IntKind.u64.wrap (n + IntKind.u64.wrap ((if b < y.2 then b else y.2) - (if y.1 < a then a else y.1))) else n
def sumU (a b : Int) (pre : List (Int × Int)) : Int := pre.foldl (stepU a b) 0
theorem sumU_snoc (a b : Int) (pre : List (Int × Int)) (x : Int × Int) : sumU a b (pre ++ [x]) = stepU a b (sumU a b pre) x := by simp [sumU]

theorem ovl_step {a b : Int} (x : Win) : ovl x a b = if (if x.start < a then a else x.start) < (if b < x.start + x.len then b else x.start + x.len) then (if b < x.start + x.len then b else x.start + x.len) - (if x.start < a then a else x.start) else 0 := by
  unfold ovl
  have h1 : max x.start a = if x.start < a then a else x.start := by split <;> omega
  have h2 : min (x.start + x.len) b = if b < x.start + x.len then b else x.start + x.len := by split <;> omega
  rw [h1, h2]
theorem usedP_empty (ws : List Win) (id : Int) {a b : Int} (h : b < a) : usedP ws id a b = 0 := by
  induction ws with
  | nil => rfl
  | cons x ws ih =>
    rw [usedP_cons, ih]
    unfold term ovl
    split
    · split <;> omega
    · rfl
theorem Apart.used_le' {F : Int} {ws : List Win} (h : Apart F ws) (id : Int) {a b : Int} (ha : 0 ≤ a) (hb : b ≤ 18446744073709551615) : usedP ws id a b ≤ 18446744073709551615 := by
  rcases Int.lt_or_le b a with h1 | h1
  · rw [usedP_empty ws id h1]; decide
  · have := h.used_le id ha h1; omega
theorem sumU_used {F : Int} {ws : List Win} (h : Apart F ws) (id : Int) {a b : Int} (ha : 0 ≤ a) (hb : b ≤ 18446744073709551615) (hb0 : 0 ≤ b) (hF : F ≤ 18446744073709551615) : sumU a b (spansOf ws id) = usedP ws id a b := by
  have key : ∀ k, k ≤ ws.length → sumU a b (spansOf (ws.take k) id) = usedP (ws.take k) id a b := by
    intro k
    induction k with
    | zero => intro _; rfl
    | succ k ih =>
      intro hk
      have hlt : k < ws.length := by omega
      have hx := h.each _ (List.getElem_mem hlt)
      have hle := usedP_take_le ws id a b (k + 1)
      have hmax := h.used_le' id ha hb
      rw [usedP_take ws id a b hlt] at hle ⊢
      have ih := ih (by omega)
      have h0 := usedP_nonneg (ws.take k) id a b
      have ht := term_nonneg id a b ws[k]
      rw [List.take_add_one, List.getElem?_eq_getElem hlt, Option.toList_some]
      unfold spansOf at ih ⊢
      rw [List.filter_append, List.map_append]
      unfold term at hle ht ⊢
      by_cases hp : ws[k].part = id
      · rw [if_pos hp] at hle ht ⊢
        have e : ((([ws[k]] : List Win).filter fun x => decide (x.part = id)).map fun x => (x.start, x.start + x.len)) = [(ws[k].start, ws[k].start + ws[k].len)] := by simp [hp]
        rw [e, sumU_snoc, ih]
        rw [ovl_step] at hle ht ⊢
        unfold stepU
        simp only
        have g1 : a ≤ (if ws[k].start < a then a else ws[k].start) := by split <;> omega
        have g2 : (if b < ws[k].start + ws[k].len then b else ws[k].start + ws[k].len) ≤ b := by split <;> omega
        obtain ⟨m1, hm1⟩ : ∃ m1, (if ws[k].start < a then a else ws[k].start) = m1 := ⟨_, rfl⟩
        obtain ⟨m2, hm2⟩ : ∃ m2, (if b < ws[k].start + ws[k].len then b else ws[k].start + ws[k].len) = m2 := ⟨_, rfl⟩
        rw [hm1, hm2] at hle ht ⊢
        rw [hm1] at g1
        rw [hm2] at g2
        by_cases hlt2 : m1 < m2
        · rw [if_pos hlt2] at hle ht
          rw [if_pos hlt2, if_pos hlt2, wrap_id (x := m2 - m1) (by omega) (by omega), wrap_id (by omega) (by omega)]
        · rw [if_neg hlt2, if_neg hlt2, Int.add_zero]
      · rw [if_neg hp] at hle ht ⊢
        have e : ((([ws[k]] : List Win).filter fun x => decide (x.part = id)).map fun x => (x.start, x.start + x.len)) = [] := by simp [hp]
        rw [e, List.append_nil, ih]
        omega
  have := key ws.length (Nat.le_refl _)
  rwa [List.take_length] at this
end Go.Proofs.Ytmoignbaphddeaa
namespace Go.Proofs.Ytmoignbaphddeaa
open Go.RowKit Go.Shelf
attribute [local go_sem] Oper.semAt_some

set_option maxHeartbeats 4000000 in
set_option maxRecDepth 100000 in
theorem usedW_c (w : World) (c : Cfg) (A : Adr) (hc : CfgAt w c A) (id from_ to_ : Int) (hfr : U64 from_) (hto : U64 to_) (hall : ∀ x ∈ c.wins, 0 ≤ x.start ∧ 0 < x.len ∧ x.start + x.len ≤ 18446744073709551615) :
    Calls Try.prog 12 #[cfgVal c A, .int .u16 id, .int .u64 from_, .int .u64 to_] w fun e w' => e = .returned (.int .u64 (sumU from_ to_ (spansOf c.wins id))) ∧ Below w.heap.size w w' := by
  have hn := hc.ok.nwins
  have hrow := hid hc.wins
  have hA2 : Hid (c.wins ≠ [] → ∀ b o, A.a2 = some ⟨b, o, none⟩ → b < w.heap.size) := by
    intro hne b o hb
    cases hw : c.wins with
    | nil => exact absurd hw hne
    | cons x r =>
      obtain ⟨b', o', hb', hcs⟩ := hrow.out 0 x (by rw [hw]; rfl)
      rw [hb] at hb'
      cases hb'
      exact hcs.lt (by simp [encWin])
  have Hall := hid hall
  obtain ⟨ys, hys⟩ : ∃ ys, spansOf c.wins id = ys := ⟨_, rfl⟩
  rw [hys]
  have Hys := hid hys
  have hwin := hid (fun (W : World) => windowsOf_c W c A id)
  clear hc hall hys
  obtain ⟨a1, k1, a2, k2, a3, k3, a4, k4, a5, k5⟩ := A
  simp only [cfgVal, cfgCells] at hwin hrow hA2 ⊢
  refine (callsIn_wide (n := 9)).1 ?_
  refine callsIn_of_wp_marks Try.func12 rfl trivial ?_ rfl
  simp only [Try.ntmps12, List.size_toArray, List.length_cons, List.length_nil, Nat.reduceAdd, Nat.reduceSub, Array.replicate_succ, Array.replicate_zero, List.push_toArray, List.append_toArray, List.nil_append, List.cons_append]
  gi_wp2_with fail
  refine ⟨trivial, ?_⟩
  refine (callsIn_wide.2 (callsIn_wide.1 (hwin.out _))).mono ?_
  rintro e w' ⟨rfl, rfl⟩
  gi_wp2
  refine wp_cutIn (fun W => Below w.heap.size w W ∧ W.heap.size = w.heap.size + 6 ∧
    W.heap[w.heap.size + 1]? = some (.cells #[.int .u64 from_] 22 (0, 0)) ∧ W.heap[w.heap.size + 1 + 1]? = some (.cells #[.int .u64 to_] 22 (0, 0)) ∧ W.heap[w.heap.size + 1 + 1 + 1]? = some (.cells #[.int .u64 0] 22 (0, 0)) ∧
    W.heap[w.heap.size + 1 + 1 + 1 + 1]? = some (.cells (cfgCells c ⟨a1, k1, a2, k2, a3, k3, a4, k4, a5, k5⟩) 29 (0, 0)) ∧ W.heap[w.heap.size + 1 + 1 + 1 + 1 + 1]? = some (.cells #[.int .u16 id] 38 (0, 0)))
    ⟨(((((below_new _ _).alloc (by simp) _).alloc (by simp; omega) _).alloc (by simp; omega) _).alloc (by simp; omega) _).alloc (by simp; omega) _, by simp, by repeat (first | (refine heap_at ?_; simp; done) | refine heap_alloc' ?_ _), by repeat (first | (refine heap_at ?_; simp; done) | refine heap_alloc' ?_ _), by repeat (first | (refine heap_at ?_; simp; done) | refine heap_alloc' ?_ _), by repeat (first | (refine heap_at ?_; simp; done) | refine heap_alloc' ?_ _), by repeat (first | (refine heap_at ?_; simp; done) | refine heap_alloc' ?_ _)⟩ ?_
  rintro w1 ⟨hb1, hs1, hf1, ht1, hn1, hcb1, hib1⟩
  have hseq := windows_in 8 w1 (fun b => b = w.heap.size + 1 + 1 + 1) (w.heap.size + 1 + 1 + 1 + 1) (w.heap.size + 1 + 1 + 1 + 1 + 1) c ⟨a1, k1, a2, k2, a3, k3, a4, k4, a5, k5⟩ id (by omega) Hall.out hcb1 hib1 (hrow.out.below hb1) (by omega) (by omega) (fun h b o e => by have := hA2.out h b o e; omega)
  rw [Hys.out] at hseq
  refine wpIn_rangeB (α := Int × Int) rfl (by omega) (gf := 48) (lb := #[.pointer (some ⟨w.heap.size + 1 + 1 + 1 + 1, 0, none⟩), .pointer (some ⟨w.heap.size + 1 + 1 + 1 + 1 + 1, 0, none⟩)]) rfl trivial (enters_of Try.func48 (by kernel_rfl) rfl)
    hseq (fun h k => KpM.trans h k) (fun W o' => KpM.put _ _ W o') (Below.refl _ _) (fun _ => rfl)
    (fun pre W => (W.heap[w.heap.size + 1 + 1 + 1]? = some (.cells #[.int .u64 (sumU from_ to_ pre)] 22 (0, 0)) ∧ W.heap[w.heap.size + 1]? = some (.cells #[.int .u64 from_] 22 (0, 0)) ∧ W.heap[w.heap.size + 1 + 1]? = some (.cells #[.int .u64 to_] 22 (0, 0))) ∧ Below w.heap.size w W)
    (fun _ _ _ => False)
    (OwnFrom.and (fun s A B row hs hg hr => ⟨heap_from hs.1 hg hr, heap_from hs.2.1 hg hr, heap_from hs.2.2 hg hr⟩) (ownFrom_below (Nat.le_refl _) (by omega)))
    (fun _ _ _ _ _ hs _ _ => hs)
    (fun s A B hs hb => ⟨⟨(hb.block _ (by omega)).trans hs.1.1, (hb.block _ (by omega)).trans hs.1.2.1, (hb.block _ (by omega)).trans hs.1.2.2⟩, hs.2.trans (hb.mono (by omega))⟩)
    (fun c s A B hs hb => hs)
    ⟨⟨hn1, hf1, ht1⟩, hb1⟩
    (fun x => { tmps := #[.agg #[.int .u64 c.frame, .slice a1 c.parts.length k1, .slice a2 c.wins.length k2, .slice a3 c.regs.length k3, .slice a4 c.ports.length k4, .slice a5 c.chans.length k5], .int .u16 id, .int .u64 from_, .int .u64 to_, .pointer (some ⟨w.heap.size, 0, none⟩), undef, .pointer (some ⟨w.heap.size + 1, 0, none⟩), .pointer (some ⟨w.heap.size + 1 + 1, 0, none⟩), .int .u64 0, .pointer (some ⟨w.heap.size + 1 + 1 + 1, 0, none⟩), .int .u64 x.1, .int .u64 x.2,
      .agg #[.int .u64 c.frame, .slice a1 c.parts.length k1, .slice a2 c.wins.length k2, .slice a3 c.regs.length k3, .slice a4 c.ports.length k4, .slice a5 c.chans.length k5], .int .u16 id,
      .func (.func 48) #[] #[.pointer (some ⟨w.heap.size + 1 + 1 + 1 + 1, 0, none⟩), .pointer (some ⟨w.heap.size + 1 + 1 + 1 + 1 + 1, 0, none⟩)], .int .u64 x.1, .int .u64 x.2, undef, undef, undef, undef, undef, undef, undef, undef, undef, undef, undef, undef, undef, undef, undef], defers := [] }) ?assign ?body ?done ?stop
  case assign =>
    intro l x W K hK
    gi_wp2
    exact hK
  case body =>
    rintro l pre x W hlt ⟨⟨h1, h2, h3⟩, hB⟩
    have f0 := cell_of_heap (i := 0) h2 rfl
    have t0 := cell_of_heap (i := 0) h3 rfl
    have n0 := cell_of_heap (i := 0) h1 rfl
    have nf := free_of_heap (i := 0) h1
    have nl := lt_of_block h1
    clear hb1 hn1 hf1 ht1 hcb1 hib1 hseq hwin hrow hA2 Hall
    gi_wp2_with fail
    refine (show (?G : Prop) → _ from fun key => ?main) ?pf
    case main =>
      gi_region
      all_goals exact key
    case pf =>
      have hstep : Hid (sumU from_ to_ (pre ++ [x]) = stepU from_ to_ (sumU from_ to_ pre) x) := sumU_snoc _ _ _ _
      have hmax : max x.1 from_ = (if x.1 < from_ then from_ else x.1) := by split <;> omega
      have hmin : min x.2 to_ = (if to_ < x.2 then to_ else x.2) := by split <;> omega
      try rw [hmax]
      try rw [hmin]
      clear hmax hmin
      obtain ⟨m1, hm1⟩ : ∃ m1, (if x.1 < from_ then from_ else x.1) = m1 := ⟨_, rfl⟩
      obtain ⟨m2, hm2⟩ : ∃ m2, (if to_ < x.2 then to_ else x.2) = m2 := ⟨_, rfl⟩
      unfold stepU at hstep
      rw [hm1, hm2] at hstep ⊢
      clear hm1 hm2
      by_cases hm : m1 < m2
      · rw [if_pos hm] at hstep
        gi_wp2
        refine ⟨⟨(KeepsOthers.setCell W.drew _ _).size, (KeepsOthers.setCell W.drew _ _).same⟩, KpM.set (own := fun b => b = w.heap.size + 1 + 1 + 1) (W := W.drew) rfl _, ⟨?_, heap_set_ne (w := W.drew) h2 (by omega) _, heap_set_ne (w := W.drew) h3 (by omega) _⟩, hB.drew.setCell (p := ⟨w.heap.size + 1 + 1 + 1, 0, none⟩) (by show w.heap.size ≤ w.heap.size + 1 + 1 + 1; omega) _⟩
        rw [hstep.out]
        exact heap_set (w := W.drew) h1 _
      · rw [if_neg hm] at hstep
        gi_wp2
        refine ⟨⟨Nat.le_refl _, fun k o h _ => h⟩, ⟨Nat.le_refl _, fun _ _ _ _ => rfl⟩, ⟨?_, h2, h3⟩, hB.drew⟩
        rw [hstep.out]
        exact h1
  case done =>
    rintro D ys' W hD rfl ⟨⟨h1, h2, h3⟩, hB⟩ hK
    have n0 := cell_of_heap (i := 0) h1 rfl
    clear hb1 hn1 hf1 ht1 hcb1 hib1 hseq hwin hrow hA2 Hall
    gi_wp2
    refine ⟨by simp, .inl ⟨_, _, rfl, run_takeDeferred hK, ?_⟩⟩
    exact ⟨_, results_tmp rfl _ _ _, rfl, hB.trans (belowK_b (w := w) (Nat.le_refl _) W D _ _ (by omega) hK rfl rfl)⟩
  case stop =>
    rintro D c pre W hD _ h _
    exact h.elim

theorem used_c (w : World) (c : Cfg) (A : Adr) (hc : CfgAt w c A) (hR : RightW c) (id a b : Int) (ha : U64 a) (hb : U64 b) :
    Calls Try.prog 12 #[cfgVal c A, .int .u16 id, .int .u64 a, .int .u64 b] w fun e w' => e = .returned (.int .u64 (usedP c.wins id a b)) ∧ Below w.heap.size w w' := by
  have hok := hc.ok.frame
  have := usedW_c w c A hc id a b ha hb (fun x hx => by have := hR.apart.each x hx; unfold U64 at hok; omega)
  unfold U64 at ha hb hok
  rwa [sumU_used hR.apart id ha.1 hb.2 hb.1 hok.2] at this
end Go.Proofs.Ytmoignbaphddeaa
namespace Go.Proofs.Ytmoignbaphddeaa
open Go.RowKit

def aByt15 : ByteArray := { data := #[97] }
def part15 : Part := { id := 1, name := aByt15, period := 0, dur := 0 }
def cfg15 : Cfg := { frame := 100, parts := [part15], wins := [{ start := 50, len := 10, part := 1 }, { start := 10, len := 20, part := 1 }], regs := [], ports := [], chans := [] }
def adr15 (b1 b2 : Nat) : Adr := ⟨some ⟨b1, 0, none⟩, 1, some ⟨b2, 0, none⟩, 2, none, 0, none, 0, none, 0⟩

theorem cfg15_ok : cfg15.ok where
  frame := by simp [cfg15, U64]
  parts := by
    intro p hp
    simp only [cfg15, List.mem_singleton] at hp
    subst hp
    refine ⟨by simp [part15, U16], ?_, by simp [part15, U64], by simp [part15, U64]⟩
    show 1 ≤ _
    omega
  wins := by
    intro p hp
    simp only [cfg15, List.mem_cons, List.not_mem_nil, or_false] at hp
    rcases hp with rfl | rfl <;> exact ⟨by simp [U64], by simp [U64], by simp [U16]⟩
  regs := by simp [cfg15]
  ports := by simp [cfg15]
  chans := by simp [cfg15]
  nparts := by simp [cfg15]
  nwins := by simp [cfg15]
  nregs := by simp [cfg15]
  nports := by simp [cfg15]
  nchans := by simp [cfg15]
theorem cfg15_at {w : World} {b1 b2 : Nat} {t1 t2 : TypeId} (h1 : w.heap[b1]? = some (.cells #[.int .u16 1, .string aByt15, .int .u64 0, .int .u64 0] t1 (0, 0)))
    (h2 : w.heap[b2]? = some (.cells #[.int .u64 50, .int .u64 10, .int .u16 1, .int .u64 10, .int .u64 20, .int .u16 1] t2 (0, 0))) : CfgAt w cfg15 (adr15 b1 b2) where
  ok := cfg15_ok
  parts := by
    intro k x hx
    match k, hx with
    | 0, hx =>
      simp only [cfg15, List.getElem?_cons_zero, Option.some.injEq] at hx
      subst hx
      exact ⟨b1, 0, rfl, fun j u hj => cell_of_heap h1 (by simpa [encPart, part15] using hj)⟩
    | k + 1, hx => simp [cfg15] at hx
  wins := by
    intro k x hx
    match k, hx with
    | 0, hx =>
      simp only [cfg15, List.getElem?_cons_zero, Option.some.injEq] at hx
      subst hx
      refine ⟨b2, 0, rfl, fun j u hj => cell_of_heap h2 ?_⟩
      match j, hj with
      | 0, hj => simpa [encWin] using hj
      | 1, hj => simpa [encWin] using hj
      | 2, hj => simpa [encWin] using hj
      | j + 3, hj => simp [encWin] at hj
    | 1, hx =>
      simp only [cfg15, List.getElem?_cons_succ, List.getElem?_cons_zero, Option.some.injEq] at hx
      subst hx
      refine ⟨b2, 0, rfl, fun j u hj => cell_of_heap h2 ?_⟩
      match j, hj with
      | 0, hj => simpa [encWin] using hj
      | 1, hj => simpa [encWin] using hj
      | 2, hj => simpa [encWin] using hj
      | j + 3, hj => simp [encWin] at hj
    | k + 2, hx => simp [cfg15] at hx
  regs := RowAt.nil _ _ _ _
  ports := RowAt.nil _ _ _ _
  chans := by
    intro k x hx
    simp [cfg15] at hx
  k1 := by simp [cfg15, adr15]
  k2 := by simp [cfg15, adr15]
  k3 := by simp [cfg15, adr15]
  k4 := by simp [cfg15, adr15]
  k5 := by simp [cfg15, adr15]
theorem cfg15_right : RightW cfg15 where
  pos := by simp [cfg15]
  apart := by
    refine ⟨?_, ?_⟩
    · intro p hp
      simp only [cfg15, List.mem_cons, List.not_mem_nil, or_false] at hp
      rcases hp with rfl | rfl <;> simp [cfg15]
    · simp [cfg15, Free]
theorem cfg15_full : FaultW cfg15 (0, 0, 0) := by
  refine .ok (by simp [cfg15]) ?_ ?_
  · intro x hx
    simp only [cfg15, List.mem_cons, List.not_mem_nil, or_false] at hx
    rcases hx with rfl | rfl <;> decide +kernel
  · intro j hj i hij
    have h2 : j < 2 := hj
    match j, i, hj, hij with
    | 0, i, _, hij => omega
    | 1, 0, _, _ => exact Or.inr (show (10 : Int) + 20 ≤ 50 by decide)
    | 1, i + 1, _, hij => omega
    | j + 2, _, hj, _ => exact absurd h2 (by omega)
theorem cfg15_idle : idleL cfg15 = [⟨0, 10, 0⟩, ⟨30, 20, 0⟩, ⟨60, 40, 0⟩] := by
  have := idleL_eq cfg15_right (by simp [cfg15, U64]) (m := [⟨10, 20, 1⟩, ⟨50, 10, 1⟩]) (List.Perm.swap _ _ _) (by simp)
  rw [this]
  simp [idleR, cfg15]
theorem cfg15_busy : usedP cfg15.wins 1 0 cfg15.frame = 30 := by decide +kernel
theorem cfg15_used : usedP cfg15.wins 1 25 55 = 10 := by decide +kernel

theorem calls_name' {P : Program} {f : FuncId} {args : Array Value} {Q : Ending → World → Prop} {W : World} (F : World → Prop) (h : F W) (k : ∀ V, F V → Calls P f args V Q) : Calls P f args W Q := k W h

set_option maxHeartbeats 4000000 in
set_option maxRecDepth 20000 in
theorem alive15_c (w : World) : Calls Try.prog 8 #[] w fun e w' => e = .returned (.bool true) ∧ Below w.heap.size w w' := by
  have HI := hid (fun (W : World) (b1 b2 : Nat) (h : CfgAt W cfg15 (adr15 b1 b2)) => idle_c W cfg15 (adr15 b1 b2) h cfg15_right (by simp [cfg15]))
  have HC := hid (fun (W : World) (b1 b2 : Nat) (h : CfgAt W cfg15 (adr15 b1 b2)) => frameCheck_c W cfg15 (adr15 b1 b2) h (by simp [cfg15]))
  have HB := hid (fun (W : World) (b1 b2 : Nat) (h : CfgAt W cfg15 (adr15 b1 b2)) => busy_c W cfg15 (adr15 b1 b2) h cfg15_right 1)
  have HU := hid (fun (W : World) (b1 b2 : Nat) (h : CfgAt W cfg15 (adr15 b1 b2)) => used_c W cfg15 (adr15 b1 b2) h cfg15_right 1 25 55 (by simp [U64]) (by simp [U64]))
  rw [cfg15_idle] at HI
  rw [cfg15_busy] at HB
  rw [cfg15_used] at HU
  go_enter Try.func8, Try.ntmps8
  go_wp2_with fail
  refine calls_name' (fun W => Below w.heap.size w W ∧ W.heap.size = w.heap.size + 3 ∧ CfgAt W cfg15 (adr15 w.heap.size (w.heap.size + 1)) ∧ W.heap[w.heap.size + 1 + 1]? = some (.cells (cfgCells cfg15 (adr15 w.heap.size (w.heap.size + 1))) 29 (0, 0)))
    ⟨((below_new _ _).alloc (by simp) _).alloc (by simp; omega) _, by simp, cfg15_at (t1 := 47) (t2 := 45) (by repeat (first | (refine heap_at ?_; simp; done) | refine heap_alloc' ?_ _)) (by repeat (first | (refine heap_at ?_; simp; done) | refine heap_alloc' ?_ _)), by repeat (first | (refine heap_at ?_; simp; done) | refine heap_alloc' ?_ _)⟩ ?_
  rintro w1 ⟨hb1, hs1, hc1, hbox1⟩
  refine (HI.out w1 _ _ hc1).mono ?_
  rintro e w2 ⟨s, rfl, hown, hb2⟩
  obtain ⟨ad, cp, rfl, _⟩ := own_slice hown
  have Hrow := hid (own_row hown (fun _ _ => rfl) rfl)
  have hbox2 := heap_keep hbox1 hb2
  have hc2 := hid (hc1.below hb2)
  have hb02 := bthen hb1 hb2
  obtain ⟨z0, z1, z2, z3, z4, z5⟩ := box_cfg hbox2
  simp only [adr15] at z0 z1 z2 z3 z4 z5
  clear hb1 hb2 hc1 hbox1 hown hs1
  go_wp2_with fail
  refine (HC.out w2 _ _ hc2.out).mono ?_
  rintro e w3 ⟨f, hf, rfl, hb3⟩
  obtain rfl := hf.uniq cfg15_full
  have hbox3 := heap_keep hbox2 hb3
  have hc3 := hid (hc2.out.below hb3)
  have hb03 := bthen hb02 hb3
  have Hrow3 := hid (Hrow.out.below hb3)
  clear z0 z1 z2 z3 z4 z5 hb3 hb02 hc2 hbox2 hf Hrow
  obtain ⟨z0, z1, z2, z3, z4, z5⟩ := box_cfg hbox3
  simp only [adr15] at z0 z1 z2 z3 z4 z5
  go_wp2_with fail
  refine (HB.out w3 _ _ hc3.out).mono ?_
  rintro e w4 ⟨rfl, hb4⟩
  have hbox4 := heap_keep hbox3 hb4
  have hc4 := hid (hc3.out.below hb4)
  have hb04 := bthen hb03 hb4
  have Hrow4 := hid (Hrow3.out.below hb4)
  clear z0 z1 z2 z3 z4 z5 hb4 hb03 hc3 hbox3 Hrow3
  obtain ⟨z0, z1, z2, z3, z4, z5⟩ := box_cfg hbox4
  simp only [adr15] at z0 z1 z2 z3 z4 z5
  go_wp2_with fail
  refine (HU.out w4 _ _ hc4.out).mono ?_
  rintro e w5 ⟨rfl, hb5⟩
  have hb05 := bthen hb04 hb5
  have hrow5 := Hrow4.out.below hb5
  obtain ⟨b, o, rfl, hl1, g0, -, -⟩ := hrow5.win (k := 1) (by simp)
  obtain ⟨b', o', hbo, hl2, k0, -, -⟩ := hrow5.win (k := 2) (by simp)
  simp only [Option.some.injEq, Addr.mk.injEq, and_true] at hbo
  obtain ⟨rfl, rfl⟩ := hbo
  simp only [List.getElem_cons_succ, List.getElem_cons_zero] at g0 k0
  clear z0 z1 z2 z3 z4 z5 hb5 hb04 hc4 hbox4 Hrow4 hrow5
  go_wp2
  go_ret
  exact ⟨rfl, hb05⟩
end Go.Proofs.Ytmoignbaphddeaa
namespace Go.Proofs.Ytmoignbaphddeaa
open Go.RowKit

/-- the number of links, as 64 bits count it -/
def linksW (l : List Chn) : Nat → Int
  | 0 => 0
  | k + 1 => wrap64 (linksW l k + ((l[k]?.map (fun x => x.dests.length)).getD 0 : Nat))
theorem linksW_succ {l : List Chn} {k : Nat} (h : k < l.length) : linksW l (k + 1) = wrap64 (linksW l k + (l[k].dests.length : Nat)) := by
  simp [linksW, List.getElem?_eq_getElem h]

set_option maxHeartbeats 400000 in
theorem Counts_c (w : World) (c : Cfg) (A : Adr) (hc : CfgAt w c A) :
    Calls Try.prog 20 #[cfgVal c A] w fun e w' => e = .returned (.agg #[.int .i64 0, .int .i64 c.parts.length, .int .i64 c.wins.length, .int .i64 c.regs.length, .int .i64 c.ports.length, .int .i64 c.chans.length, .int .i64 (linksW c.chans c.chans.length)]) ∧ Below w.heap.size w w' := by
  obtain ⟨a1, k1, a2, k2, a3, k3, a4, k4, a5, k5⟩ := A
  have hn := hc.ok.nchans
  simp only [cfgVal, cfgCells]
  go_enter Try.func20, Try.ntmps20
  go_wp2
  refine wp_name (fun W => Below w.heap.size w W ∧ W.heap.size = w.heap.size + 2 ∧ W.heap[w.heap.size]? = some (.cells (cfgCells c ⟨a1, k1, a2, k2, a3, k3, a4, k4, a5, k5⟩) 29 (0, 0)) ∧ W.heap[w.heap.size + 1]? = some (.cells #[.int .i64 0, .int .i64 0, .int .i64 0, .int .i64 0, .int .i64 0, .int .i64 0, .int .i64 0] 51 (0, 0))) ⟨(below_new _ _).alloc (by simp) _, by simp, by repeat (first | (refine heap_at ?_; simp; done) | refine heap_alloc' ?_ _), by repeat (first | (refine heap_at ?_; simp; done) | refine heap_alloc' ?_ _)⟩ ?_
  rintro w1 ⟨hb1, -, hbox, hres⟩
  have hrow := (hc.below hb1).chans
  obtain ⟨e0, e1, e2, e3, e4, e5⟩ := box_cfg hbox
  simp only at e0 e1 e2 e3 e4 e5
  have Hres := hid hres
  clear hbox hc hres e0
  go_loop [3, 4] (fun n i => ∃ k : Nat, k ≤ c.chans.length ∧ i = .int .i64 k ∧ n = .int .i64 (linksW c.chans k)) (fun _ i => c.chans.length - (intOf i).toNat)
  case atStart => exact ⟨0, Nat.zero_le _, rfl, rfl⟩
  case round =>
    obtain ⟨k, hkn, rfl, rfl⟩ := hrel
    by_cases hlt : k < c.chans.length
    · obtain ⟨b, o, d, cc, rfl, hb0, h0, h1, h2, hcc, _⟩ := hrow.chn hlt
      have hs := linksW_succ hlt
      have Hs := hid hs
      clear hs hrow h0 h1 e1 e2 e3 e4
      go_wp2
      go_round
      case rel => exact ⟨k + 1, by omega, by go_num, by rw [Hs.out]⟩
      case measure => simp [intOf]; omega
    · have hke : k = c.chans.length := by omega
      subst hke
      have q0 := cell_of_heap (i := 0) Hres.out rfl
      have q1 := cell_of_heap (i := 1) Hres.out rfl
      have q2 := cell_of_heap (i := 2) Hres.out rfl
      have q3 := cell_of_heap (i := 3) Hres.out rfl
      have q4 := cell_of_heap (i := 4) Hres.out rfl
      have q5 := cell_of_heap (i := 5) Hres.out rfl
      have q6 := cell_of_heap (i := 6) Hres.out rfl
      have qf : ∀ i, w1.frozen? ⟨w.heap.size + 1, i, none⟩ = false := fun i => free_of_heap Hres.out
      clear hrow
      go_wp2
      refine bodyPost_seven rfl rfl rfl (set7 Hres.out _ _ _ _ _ _ _) ⟨rfl, ?_⟩
      exact bset (bset (bset (bset (bset (bset (bset hb1 (by simp) _ _) (by simp) _ _) (by simp) _ _) (by simp) _ _) (by simp) _ _) (by simp) _ _) (by simp) _ _

/-- whether a configuration has few records with short names, as the reference reckons it -/
def few (c : Cfg) : Bool := (c.parts.all fun p => decide (p.name.size ≤ 1000)) && (c.ports.all fun p => decide (p.name.size ≤ 1000)) &&
  decide (wrap64 ((c.parts.length : Int) + c.wins.length + c.regs.length + c.ports.length + c.chans.length + linksW c.chans c.chans.length) ≤ 120)

theorem all_no {α : Type} {l : List α} {p : α → Bool} {k : Nat} (h : k < l.length) (hp : p l[k] = false) : l.all p = false := by
  rw [List.all_eq_false]
  exact ⟨l[k], List.getElem_mem h, by simp [hp]⟩
theorem all_yes {α : Type} {l : List α} {p : α → Bool} (h : ∀ k (hk : k < l.length), p l[k] = true) : l.all p = true := by
  rw [List.all_eq_true]
  intro x hx
  obtain ⟨k, hk, rfl⟩ := List.getElem_of_mem hx
  exact h k hk

set_option maxHeartbeats 1000000 in
theorem Few_c (w : World) (c : Cfg) (A : Adr) (hc : CfgAt w c A) :
    Calls Try.prog 7 #[cfgVal c A] w fun e w' => e = .returned (.bool (few c)) ∧ Below w.heap.size w w' := by
  obtain ⟨a1, k1, a2, k2, a3, k3, a4, k4, a5, k5⟩ := A
  have n1 := hc.ok.nparts
  have n2 := hc.ok.nwins
  have n3 := hc.ok.nregs
  have n4 := hc.ok.nports
  have n5 := hc.ok.nchans
  have hok := hid hc.ok
  obtain ⟨f, hf⟩ : ∃ f, few c = f := ⟨_, rfl⟩
  rw [hf]
  have Hf := hid hf
  clear hf
  simp only [cfgVal, cfgCells]
  go_enter Try.func7, Try.ntmps7
  go_wp2_with fail
  have hc0 := hid hc
  have hcw := hc.below (below_new w (.cells (cfgCells c ⟨a1, k1, a2, k2, a3, k3, a4, k4, a5, k5⟩) 29))
  refine (Counts_c _ c ⟨a1, k1, a2, k2, a3, k3, a4, k4, a5, k5⟩ hcw).mono ?_
  rintro e w2 ⟨rfl, hb2⟩
  have hb02 : Below w.heap.size w w2 := bthen (below_new _ _) hb2
  have hbox2 := heap_keep (heap_new w (.cells (cfgCells c ⟨a1, k1, a2, k2, a3, k3, a4, k4, a5, k5⟩) 29)) hb2
  have hc2 := hc.below hb02
  clear hc hcw hb2
  go_wp2
  have hs2 := hb02.size
  have hlt2 := lt_of_block hbox2
  refine wp_name (fun W => Below w.heap.size w W ∧ W.heap[w.heap.size]? = some (.cells (cfgCells c ⟨a1, k1, a2, k2, a3, k3, a4, k4, a5, k5⟩) 29 (0, 0)) ∧ W.heap[w2.heap.size]? = some (.cells #[.int .i64 0, .int .i64 c.parts.length, .int .i64 c.wins.length, .int .i64 c.regs.length, .int .i64 c.ports.length, .int .i64 c.chans.length, .int .i64 (linksW c.chans c.chans.length)] 51 (0, 0))) ⟨hb02.alloc hs2 _, heap_alloc' hbox2 _, heap_new _ _⟩ ?_
  rintro w3 ⟨hb3, hbox3, hn3⟩
  obtain ⟨e0, e1, e2, e3, e4, e5⟩ := box_cfg hbox3
  simp only at e0 e1 e2 e3 e4 e5
  have hc3 := hid (hc0.out.below hb3)
  have hsev := hid hn3
  clear hc2 hbox2 hbox3 hn3 hb02 hs2 e0 e2 e3 e5
  go_loop [4] (fun i => ∃ k : Nat, k ≤ c.parts.length ∧ i = .int .i64 k ∧ Hid (∀ j (hj : j < c.parts.length), j < k → c.parts[j].name.size ≤ 1000)) (fun i => c.parts.length - (intOf i).toNat)
  case atStart => exact ⟨0, Nat.zero_le _, rfl, fun j _ hj => by omega⟩
  case round =>
    obtain ⟨k, hkn, rfl, Hk⟩ := hrel
    by_cases hlt : k < c.parts.length
    · obtain ⟨b, o, ha, hb0, h0, h1, h2, h3⟩ := hc3.out.parts.part hlt
      simp only at ha
      subst ha
      have hsz := (hok.out.parts c.parts[k] (List.getElem_mem hlt)).2.1
      clear h0 h2 h3 e4
      by_cases hl : 1000 < c.parts[k].name.size
      · have hfin : Hid (f = false) := by
          rw [← Hf.out]; unfold few
          rw [all_no (l := c.parts) hlt (by simpa using hl)]; rfl
        go_wp2
        go_ret
        exact ⟨ret_bool hfin.out.symm, hb3⟩
      · have hnext : Hid (∀ j (hj : j < c.parts.length), j < k + 1 → c.parts[j].name.size ≤ 1000) := by
          intro j hj hjk
          rcases Nat.lt_succ_iff_lt_or_eq.1 hjk with h | rfl
          · exact Hk.out j hj h
          · omega
        go_wp2
        go_round
        case rel => exact ⟨k + 1, by omega, by go_num, hnext⟩
        case measure => simp [intOf]; omega
    · have hp : Hid (∀ j (hj : j < c.parts.length), c.parts[j].name.size ≤ 1000) := fun j hj => Hk.out j hj (by omega)
      go_wp2
      go_loop [5] (fun i => ∃ k : Nat, k ≤ c.ports.length ∧ i = .int .i64 k ∧ Hid (∀ j (hj : j < c.ports.length), j < k → c.ports[j].name.size ≤ 1000)) (fun i => c.ports.length - (intOf i).toNat)
      case atStart => exact ⟨0, Nat.zero_le _, rfl, fun j _ hj => by omega⟩
      case round =>
        obtain ⟨k, hkn, rfl, Hk⟩ := hrel
        by_cases hlt : k < c.ports.length
        · obtain ⟨b, o, ha, hb0, h0, h1, h2, h3, h4, h5⟩ := hc3.out.ports.prt hlt
          simp only at ha
          subst ha
          have hsz := (hok.out.ports c.ports[k] (List.getElem_mem hlt)).2.2.1
          clear h0 h1 h3 h4 h5 e1
          by_cases hl : 1000 < c.ports[k].name.size
          · have hfin : Hid (f = false) := by
              show f = false
              rw [← Hf.out]; unfold few
              rw [all_no (l := c.ports) hlt (by simpa using hl)]; simp
            go_wp2
            go_ret
            exact ⟨ret_bool hfin.out.symm, hb3⟩
          · have hnext : Hid (∀ j (hj : j < c.ports.length), j < k + 1 → c.ports[j].name.size ≤ 1000) := by
              intro j hj hjk
              rcases Nat.lt_succ_iff_lt_or_eq.1 hjk with h | rfl
              · exact Hk.out j hj h
              · omega
            go_wp2
            go_round
            case rel => exact ⟨k + 1, by omega, by go_num, hnext⟩
            case measure => simp [intOf]; omega
        · have hq : Hid (∀ j (hj : j < c.ports.length), c.ports[j].name.size ≤ 1000) := fun j hj => Hk.out j hj (by omega)
          have q1 := cell_of_heap (i := 1) hsev.out rfl
          have q2 := cell_of_heap (i := 2) hsev.out rfl
          have q3 := cell_of_heap (i := 3) hsev.out rfl
          have q4 := cell_of_heap (i := 4) hsev.out rfl
          have q5 := cell_of_heap (i := 5) hsev.out rfl
          have q6 := cell_of_heap (i := 6) hsev.out rfl
          have hfin : Hid (f = decide (wrap64 ((c.parts.length : Int) + c.wins.length + c.regs.length + c.ports.length + c.chans.length + linksW c.chans c.chans.length) ≤ 120)) := by
            show f = _
            rw [← Hf.out]; unfold few
            rw [all_yes (l := c.parts) (fun k hk => by simpa using hp.out k hk), all_yes (l := c.ports) (fun k hk => by simpa using hq.out k hk)]
            simp
          go_wp2
          go_ret
          exact ⟨ret_bool hfin.out.symm, hb3⟩
end Go.Proofs.Ytmoignbaphddeaa
namespace Go.Proofs.Ytmoignbaphddeaa
open Go.RowKit Go.ChangeShapes Go.WideShapes Go.Deep

theorem list_of {α : Type} [Inhabited α] {Q : Nat → α → Prop} : ∀ n, (∀ i, i < n → ∃ x, Q i x) → ∃ l : List α, l.length = n ∧ ∀ i (h : i < l.length), Q i l[i]
  | 0, _ => ⟨[], rfl, fun i h => by simp at h⟩
  | n + 1, h => by
    obtain ⟨l, hl, hq⟩ := list_of n (fun i hi => h i (by omega))
    obtain ⟨x, hx⟩ := h n (by omega)
    refine ⟨l ++ [x], by simp [hl], fun i hi => ?_⟩
    by_cases hin : i < l.length
    · rw [List.getElem_append_left hin]; exact hq i hin
    · have : i = l.length := by simp at hi; omega
      subst this
      simp only [List.getElem_concat_length]
      rw [hl]; exact hx

theorem addr_add (b o n : Nat) : (⟨b, o, none⟩ : Addr).add n = ⟨b, o + n, none⟩ := by
  unfold Addr.add
  split
  · rename_i h; rw [h]; rfl
  · rfl

section
variable {H : Type} {enc : TypeId × Value → H} {P : Program} {W : World}

/-- what a section's datum is: so many elements -/
def SecD (d : DataW H) (n : Nat) (Q : Nat → DataW H → Prop) : Prop :=
  (d = .nil ∧ n = 0) ∨ ∃ (D : Nat → DataW H) (spare : List (DataW H)), d = .slice ((List.range n).map D) spare ∧ ∀ i, i < n → Q i (D i)

/-- a slice whose elements lie in sz cells each -/
theorem open_rows {t e : TypeId} {fuel sz : Nat} {v : Value} {x : DataW H × List MemPlace} (ht : P.underlying t = some (.slice e)) (hsz : P.cellsOf e = sz) (hpos : 0 < sz)
    (h : DataW.trod enc P W 0 (fun _ => true) true fuel t [v] = some x) :
    ∃ (a : Option Addr) (len cap n : Nat), v = .slice a len cap ∧ len ≤ cap ∧ cap ≤ maxLen ∧
      SecD x.1 len (fun i di => ∃ b o cs pl, a = some ⟨b, o, none⟩ ∧ CellsAt W b (o + i * sz) cs ∧ cs.length = sz ∧ DataW.trod enc P W 0 (fun _ => true) true n e cs = some (di, pl)) := by
  rcases open_slice ht h with ⟨hcs, hx⟩ | ⟨a, len, cap, m, n, D, Pl, hcs, _, hl, hm, hmm, hx, hi⟩
  · simp only [List.cons.injEq, and_true] at hcs
    subst hcs
    exact ⟨none, 0, 0, 0, rfl, Nat.le_refl _, Nat.zero_le _, .inl ⟨by rw [hx], rfl⟩⟩
  · simp only [List.cons.injEq, and_true] at hcs
    subst hcs
    refine ⟨some a, len, cap, n, rfl, hl, hm, .inr ⟨D, _, by rw [hx], fun i hil => ?_⟩⟩
    simp only [if_true] at hmm
    have hspot : a = ⟨a.block, a.off, none⟩ := by
      obtain ⟨cs, hc, _⟩ := hi 0 (by omega)
      obtain ⟨_, hcl, hat⟩ := World.cells?_some hc
      have h0 := hat 0 (by omega)
      rw [List.getElem?_eq_getElem (by omega)] at h0
      simp only [Nat.zero_mul, Addr.add, if_true] at h0
      obtain ⟨b, o, s⟩ := a
      cases s with
      | none => rfl
      | some s =>
        unfold World.cell? at h0
        simp only [Option.isSome_some, if_true] at h0
        split at h0 <;> cases h0
    obtain ⟨cs, hc, htr⟩ := hi i (by omega)
    rw [hsz] at hc
    obtain ⟨_, hcl, hat⟩ := World.cells?_some hc
    refine ⟨a.block, a.off, cs, Pl i, by rw [← hspot], fun j u hj => ?_, hcl, htr⟩
    have hjl : j < sz := by rw [← hcl]; exact (List.getElem?_eq_some_iff.1 hj).1
    have := hat j hjl
    rw [hspot, addr_add, addr_add, hj] at this
    exact this
end
/-! ### records -/
theorem len2 {α : Type} {l : List α} (h : l.length = 2) : ∃ c0 c1, l = [c0, c1] := by
  match l, h with
  | [c0, c1], _ => exact ⟨c0, c1, rfl⟩
theorem len3 {α : Type} {l : List α} (h : l.length = 3) : ∃ c0 c1 c2, l = [c0, c1, c2] := by
  match l, h with
  | [c0, c1, c2], _ => exact ⟨c0, c1, c2, rfl⟩
theorem len4 {α : Type} {l : List α} (h : l.length = 4) : ∃ c0 c1 c2 c3, l = [c0, c1, c2, c3] := by
  match l, h with
  | [c0, c1, c2, c3], _ => exact ⟨c0, c1, c2, c3, rfl⟩
theorem len5 {α : Type} {l : List α} (h : l.length = 5) : ∃ c0 c1 c2 c3 c4, l = [c0, c1, c2, c3, c4] := by
  match l, h with
  | [c0, c1, c2, c3, c4], _ => exact ⟨c0, c1, c2, c3, c4, rfl⟩
theorem len6 {α : Type} {l : List α} (h : l.length = 6) : ∃ c0 c1 c2 c3 c4 c5, l = [c0, c1, c2, c3, c4, c5] := by
  match l, h with
  | [c0, c1, c2, c3, c4, c5], _ => exact ⟨c0, c1, c2, c3, c4, c5, rfl⟩
theorem wf_u8 {n : Int} (h : (Lit.int .u8 n).wf = true) : U8 n := by simpa [Lit.wf, IntKind.min, IntKind.max, IntKind.signed, IntKind.bits, U8] using h
theorem wf_u16 {n : Int} (h : (Lit.int .u16 n).wf = true) : U16 n := by simpa [Lit.wf, IntKind.min, IntKind.max, IntKind.signed, IntKind.bits, U16] using h
theorem wf_u32 {n : Int} (h : (Lit.int .u32 n).wf = true) : U32 n := by simpa [Lit.wf, IntKind.min, IntKind.max, IntKind.signed, IntKind.bits, U32] using h
theorem wf_u64 {n : Int} (h : (Lit.int .u64 n).wf = true) : U64 n := by simpa [Lit.wf, IntKind.min, IntKind.max, IntKind.signed, IntKind.bits, U64] using h
theorem cells_u8 : Try.prog.cellsOf 5 = 1 := by kernel_rfl
theorem cells_u16 : Try.prog.cellsOf 38 = 1 := by kernel_rfl
theorem cells_u32 : Try.prog.cellsOf 53 = 1 := by kernel_rfl
theorem cells_u64 : Try.prog.cellsOf 22 = 1 := by kernel_rfl
theorem cells_bool : Try.prog.cellsOf 4 = 1 := by kernel_rfl
theorem cells_str : Try.prog.cellsOf 9 = 1 := by kernel_rfl
section
variable {H : Type} {enc : TypeId × Value → H} {W : World}

theorem open_Part {n : Nat} {cs : List Value} {x : DataW H × List MemPlace} (h : DataW.trod enc Try.prog W 0 (fun _ => true) true n 47 cs = some x) (hl : cs.length = 4) : ∃ p : Part, cs = encPart p ∧ p.ok := by
  obtain ⟨xs, m, _, _, _, hlen, hf⟩ := DataW.trod_struct Try.underlying47 h
  obtain ⟨c0, c1, c2, c3, rfl⟩ := len4 hl
  obtain ⟨x0, x1, x2, x3, rfl⟩ := len4 hlen
  have f0 : DataW.trod enc Try.prog W 0 (fun _ => true) true m 38 [c0] = some x0 := by simpa [cells_u16] using hf 0 _ rfl
  obtain ⟨n0, e0, _, w0⟩ := DataW.trod_int Try.underlying38 f0
  simp only [List.cons.injEq, and_true] at e0
  subst e0
  have f1 : DataW.trod enc Try.prog W 0 (fun _ => true) true m 9 [c1] = some x1 := by simpa [cells_str] using hf 1 _ rfl
  obtain ⟨n1, e1, _, w1⟩ := DataW.trod_string Try.underlying9 f1
  simp only [List.cons.injEq, and_true] at e1
  subst e1
  have f2 : DataW.trod enc Try.prog W 0 (fun _ => true) true m 22 [c2] = some x2 := by simpa [cells_u64] using hf 2 _ rfl
  obtain ⟨n2, e2, _, w2⟩ := DataW.trod_int Try.underlying22 f2
  simp only [List.cons.injEq, and_true] at e2
  subst e2
  have f3 : DataW.trod enc Try.prog W 0 (fun _ => true) true m 22 [c3] = some x3 := by simpa [cells_u64] using hf 3 _ rfl
  obtain ⟨n3, e3, _, w3⟩ := DataW.trod_int Try.underlying22 f3
  simp only [List.cons.injEq, and_true] at e3
  subst e3
  exact ⟨⟨n0, n1, n2, n3⟩, rfl, wf_u16 w0, w1, wf_u64 w2, wf_u64 w3⟩

theorem open_Win {n : Nat} {cs : List Value} {x : DataW H × List MemPlace} (h : DataW.trod enc Try.prog W 0 (fun _ => true) true n 45 cs = some x) (hl : cs.length = 3) : ∃ p : Win, cs = encWin p ∧ p.ok := by
  obtain ⟨xs, m, _, _, _, hlen, hf⟩ := DataW.trod_struct Try.underlying45 h
  obtain ⟨c0, c1, c2, rfl⟩ := len3 hl
  obtain ⟨x0, x1, x2, rfl⟩ := len3 hlen
  have f0 : DataW.trod enc Try.prog W 0 (fun _ => true) true m 22 [c0] = some x0 := by simpa [cells_u64] using hf 0 _ rfl
  obtain ⟨n0, e0, _, w0⟩ := DataW.trod_int Try.underlying22 f0
  simp only [List.cons.injEq, and_true] at e0
  subst e0
  have f1 : DataW.trod enc Try.prog W 0 (fun _ => true) true m 22 [c1] = some x1 := by simpa [cells_u64] using hf 1 _ rfl
  obtain ⟨n1, e1, _, w1⟩ := DataW.trod_int Try.underlying22 f1
  simp only [List.cons.injEq, and_true] at e1
  subst e1
  have f2 : DataW.trod enc Try.prog W 0 (fun _ => true) true m 38 [c2] = some x2 := by simpa [cells_u16] using hf 2 _ rfl
  obtain ⟨n2, e2, _, w2⟩ := DataW.trod_int Try.underlying38 f2
  simp only [List.cons.injEq, and_true] at e2
  subst e2
  exact ⟨⟨n0, n1, n2⟩, rfl, wf_u64 w0, wf_u64 w1, wf_u16 w2⟩

theorem open_Reg {n : Nat} {cs : List Value} {x : DataW H × List MemPlace} (h : DataW.trod enc Try.prog W 0 (fun _ => true) true n 179 cs = some x) (hl : cs.length = 5) : ∃ p : Reg, cs = encReg p ∧ p.ok := by
  obtain ⟨xs, m, _, _, _, hlen, hf⟩ := DataW.trod_struct Try.underlying179 h
  obtain ⟨c0, c1, c2, c3, c4, rfl⟩ := len5 hl
  obtain ⟨x0, x1, x2, x3, x4, rfl⟩ := len5 hlen
  have f0 : DataW.trod enc Try.prog W 0 (fun _ => true) true m 22 [c0] = some x0 := by simpa [cells_u64] using hf 0 _ rfl
  obtain ⟨n0, e0, _, w0⟩ := DataW.trod_int Try.underlying22 f0
  simp only [List.cons.injEq, and_true] at e0
  subst e0
  have f1 : DataW.trod enc Try.prog W 0 (fun _ => true) true m 22 [c1] = some x1 := by simpa [cells_u64] using hf 1 _ rfl
  obtain ⟨n1, e1, _, w1⟩ := DataW.trod_int Try.underlying22 f1
  simp only [List.cons.injEq, and_true] at e1
  subst e1
  have f2 : DataW.trod enc Try.prog W 0 (fun _ => true) true m 38 [c2] = some x2 := by simpa [cells_u16] using hf 2 _ rfl
  obtain ⟨n2, e2, _, w2⟩ := DataW.trod_int Try.underlying38 f2
  simp only [List.cons.injEq, and_true] at e2
  subst e2
  have f3 : DataW.trod enc Try.prog W 0 (fun _ => true) true m 5 [c3] = some x3 := by simpa [cells_u8] using hf 3 _ rfl
  obtain ⟨n3, e3, _, w3⟩ := DataW.trod_int Try.underlying5 f3
  simp only [List.cons.injEq, and_true] at e3
  subst e3
  have f4 : DataW.trod enc Try.prog W 0 (fun _ => true) true m 4 [c4] = some x4 := by simpa [cells_bool] using hf 4 _ rfl
  obtain ⟨n4, e4, _⟩ := DataW.trod_bool Try.underlying4 f4
  simp only [List.cons.injEq, and_true] at e4
  subst e4
  exact ⟨⟨n0, n1, n2, n3, n4⟩, rfl, wf_u64 w0, wf_u64 w1, wf_u16 w2, wf_u8 w3⟩

theorem open_Prt {n : Nat} {cs : List Value} {x : DataW H × List MemPlace} (h : DataW.trod enc Try.prog W 0 (fun _ => true) true n 55 cs = some x) (hl : cs.length = 6) : ∃ p : Prt, cs = encPrt p ∧ p.ok := by
  obtain ⟨xs, m, _, _, _, hlen, hf⟩ := DataW.trod_struct Try.underlying55 h
  obtain ⟨c0, c1, c2, c3, c4, c5, rfl⟩ := len6 hl
  obtain ⟨x0, x1, x2, x3, x4, x5, rfl⟩ := len6 hlen
  have f0 : DataW.trod enc Try.prog W 0 (fun _ => true) true m 38 [c0] = some x0 := by simpa [cells_u16] using hf 0 _ rfl
  obtain ⟨n0, e0, _, w0⟩ := DataW.trod_int Try.underlying38 f0
  simp only [List.cons.injEq, and_true] at e0
  subst e0
  have f1 : DataW.trod enc Try.prog W 0 (fun _ => true) true m 38 [c1] = some x1 := by simpa [cells_u16] using hf 1 _ rfl
  obtain ⟨n1, e1, _, w1⟩ := DataW.trod_int Try.underlying38 f1
  simp only [List.cons.injEq, and_true] at e1
  subst e1
  have f2 : DataW.trod enc Try.prog W 0 (fun _ => true) true m 9 [c2] = some x2 := by simpa [cells_str] using hf 2 _ rfl
  obtain ⟨n2, e2, _, w2⟩ := DataW.trod_string Try.underlying9 f2
  simp only [List.cons.injEq, and_true] at e2
  subst e2
  have f3 : DataW.trod enc Try.prog W 0 (fun _ => true) true m 4 [c3] = some x3 := by simpa [cells_bool] using hf 3 _ rfl
  obtain ⟨n3, e3, _⟩ := DataW.trod_bool Try.underlying4 f3
  simp only [List.cons.injEq, and_true] at e3
  subst e3
  have f4 : DataW.trod enc Try.prog W 0 (fun _ => true) true m 4 [c4] = some x4 := by simpa [cells_bool] using hf 4 _ rfl
  obtain ⟨n4, e4, _⟩ := DataW.trod_bool Try.underlying4 f4
  simp only [List.cons.injEq, and_true] at e4
  subst e4
  have f5 : DataW.trod enc Try.prog W 0 (fun _ => true) true m 53 [c5] = some x5 := by simpa [cells_u32] using hf 5 _ rfl
  obtain ⟨n5, e5, _, w5⟩ := DataW.trod_int Try.underlying53 f5
  simp only [List.cons.injEq, and_true] at e5
  subst e5
  exact ⟨⟨n0, n1, n2, n3, n4, n5⟩, rfl, wf_u16 w0, wf_u16 w1, w2, wf_u32 w5⟩

instance : Inhabited Part := ⟨⟨0, ByteArray.empty, 0, 0⟩⟩
instance : Inhabited Win := ⟨⟨0, 0, 0⟩⟩
instance : Inhabited Reg := ⟨⟨0, 0, 0, 0, false⟩⟩
instance : Inhabited Prt := ⟨⟨0, 0, ByteArray.empty, false, false, 0⟩⟩
instance : Inhabited Chn := ⟨⟨0, 0, []⟩⟩

theorem rows_of {α : Type} [Inhabited α] {e : TypeId} {sz n len : Nat} {encr : α → List Value} {ok : α → Prop} {a : Option Addr} {d : DataW H}
    (hopen : ∀ (cs : List Value) (x : DataW H × List MemPlace), DataW.trod enc Try.prog W 0 (fun _ => true) true n e cs = some x → cs.length = sz → ∃ p : α, cs = encr p ∧ ok p)
    (hs : SecD d len (fun i di => ∃ b o cs pl, a = some ⟨b, o, none⟩ ∧ CellsAt W b (o + i * sz) cs ∧ cs.length = sz ∧ DataW.trod enc Try.prog W 0 (fun _ => true) true n e cs = some (di, pl))) :
    ∃ l : List α, l.length = len ∧ RowAt sz encr W a l ∧ ∀ p ∈ l, ok p := by
  rcases hs with ⟨_, rfl⟩ | ⟨D, spare, _, hi⟩
  · exact ⟨[], rfl, RowAt.nil _ _ _ _, fun p hp => by simp at hp⟩
  · obtain ⟨l, hl, hq⟩ := list_of (Q := fun i (p : α) => ok p ∧ ∃ b o, a = some ⟨b, o, none⟩ ∧ CellsAt W b (o + i * sz) (encr p)) len (fun i hil => by
      obtain ⟨b, o, cs, pl, ha, hc, hlen, htr⟩ := hi i hil
      obtain ⟨p, rfl, hp⟩ := hopen _ _ htr hlen
      exact ⟨p, hp, b, o, ha, hc⟩)
    refine ⟨l, hl, fun k x hx => ?_, fun p hp => ?_⟩
    · obtain ⟨hk, rfl⟩ := List.getElem?_eq_some_iff.1 hx
      obtain ⟨_, b, o, ha, hc⟩ := hq k hk
      exact ⟨b, o, ha, hc⟩
    · obtain ⟨k, hk, rfl⟩ := List.getElem_of_mem hp
      exact (hq k hk).1

theorem open_u16 {n : Nat} (cs : List Value) (x : DataW H × List MemPlace) (h : DataW.trod enc Try.prog W 0 (fun _ => true) true n 38 cs = some x) (_ : cs.length = 1) : ∃ p : Int, cs = [.int .u16 p] ∧ U16 p := by
  obtain ⟨m, e, _, w⟩ := DataW.trod_int Try.underlying38 h
  exact ⟨m, e, wf_u16 w⟩

theorem cells_u16s : Try.prog.cellsOf 77 = 1 := by kernel_rfl

/-- a channel: its cells, and what its datum is -/
theorem open_Chn {n : Nat} {cs : List Value} {x : DataW H × List MemPlace} (h : DataW.trod enc Try.prog W 0 (fun _ => true) true n 79 cs = some x) (hl : cs.length = 3) :
    ∃ (p : Chn) (d : Option Addr) (cc : Nat), cs = [.int .u16 p.id, .int .u16 p.src, .slice d p.dests.length cc] ∧ p.dests.length ≤ cc ∧ RowAt 1 (fun n => [.int .u16 n]) W d p.dests ∧ p.ok ∧
      ∃ d0 d1 d2, x.1 = .agg [d0, d1, d2] ∧ SecD d2 p.dests.length (fun _ _ => True) := by
  obtain ⟨xs, m, _, hx, _, hlen, hf⟩ := DataW.trod_struct Try.underlying79 h
  obtain ⟨c0, c1, c2, rfl⟩ := len3 hl
  obtain ⟨x0, x1, x2, rfl⟩ := len3 hlen
  have f0 : DataW.trod enc Try.prog W 0 (fun _ => true) true m 38 [c0] = some x0 := by simpa [cells_u16] using hf 0 _ rfl
  have f1 : DataW.trod enc Try.prog W 0 (fun _ => true) true m 38 [c1] = some x1 := by simpa [cells_u16] using hf 1 _ rfl
  have f2 : DataW.trod enc Try.prog W 0 (fun _ => true) true m 77 [c2] = some x2 := by simpa [cells_u16s] using hf 2 _ rfl
  obtain ⟨n0, e0, _, w0⟩ := DataW.trod_int Try.underlying38 f0
  obtain ⟨n1, e1, _, w1⟩ := DataW.trod_int Try.underlying38 f1
  simp only [List.cons.injEq, and_true] at e0 e1
  subst e0 e1
  obtain ⟨d, len, cap, k, rfl, hcap, hmax, hs⟩ := open_rows Try.underlying77 cells_u16 (by decide) f2
  obtain ⟨l, hl2, hrow, hok⟩ := rows_of open_u16 hs
  subst hl2
  refine ⟨⟨n0, n1, l⟩, d, cap, rfl, hcap, hrow, ⟨wf_u16 w0, wf_u16 w1, hok, ?_⟩, x0.1, x1.1, x2.1, by rw [hx]; rfl, ?_⟩
  · unfold maxLen at hmax; exact Nat.le_trans hcap hmax
  · rcases hs with h0 | ⟨D, sp, hD, _⟩
    · exact .inl h0
    · exact .inr ⟨D, sp, hD, fun _ _ => trivial⟩

theorem chans_of {n len : Nat} {a : Option Addr} {d : DataW H}
    (hs : SecD d len (fun i di => ∃ b o cs pl, a = some ⟨b, o, none⟩ ∧ CellsAt W b (o + i * 3) cs ∧ cs.length = 3 ∧ DataW.trod enc Try.prog W 0 (fun _ => true) true n 79 cs = some (di, pl))) :
    ∃ l : List Chn, l.length = len ∧ ChnAt W a l ∧ (∀ p ∈ l, p.ok) ∧ SecD d len (fun i di => ∃ d0 d1 d2, di = .agg [d0, d1, d2] ∧ SecD d2 (l[i]?.getD default).dests.length (fun _ _ => True)) := by
  rcases hs with ⟨hn, rfl⟩ | ⟨D, spare, hD, hi⟩
  · exact ⟨[], rfl, fun k x hx => by simp at hx, fun p hp => by simp at hp, .inl ⟨hn, rfl⟩⟩
  · obtain ⟨l, hl, hq⟩ := list_of (Q := fun i (p : Chn) => p.ok ∧ (∃ b o dd cc, a = some ⟨b, o, none⟩ ∧ CellsAt W b (o + i * 3) [.int .u16 p.id, .int .u16 p.src, .slice dd p.dests.length cc] ∧ p.dests.length ≤ cc ∧ RowAt 1 (fun n => [.int .u16 n]) W dd p.dests) ∧
        ∃ d0 d1 d2, D i = .agg [d0, d1, d2] ∧ SecD d2 p.dests.length (fun _ _ => True)) len (fun i hil => by
      obtain ⟨b, o, cs, pl, ha, hc, hlen, htr⟩ := hi i hil
      obtain ⟨p, dd, cc, rfl, hcc, hr, hp, hd⟩ := open_Chn htr hlen
      exact ⟨p, hp, ⟨b, o, dd, cc, ha, hc, hcc, hr⟩, hd⟩)
    refine ⟨l, hl, fun k x hx => ?_, fun p hp => ?_, .inr ⟨D, spare, hD, fun i hil => ?_⟩⟩
    · obtain ⟨hk, rfl⟩ := List.getElem?_eq_some_iff.1 hx
      exact (hq k hk).2.1
    · obtain ⟨k, hk, rfl⟩ := List.getElem_of_mem hp
      exact (hq k hk).1
    · have hk : i < l.length := by omega
      simp only [List.getElem?_eq_getElem hk, Option.getD_some]
      exact (hq i hk).2.2

set_option maxRecDepth 100000 in
theorem sec_reach {t e : TypeId} {d : DataW H} {len : Nat} {Q : Nat → DataW H → Prop} (ht : Try.prog.underlying t = some (.slice e)) (hs : SecD d len Q) (hw : ∀ n ∈ d.weights Try.prog t, n ≤ reachBytes) : len * Try.prog.bytesOf e ≤ 140737488351232 := by
  rcases hs with ⟨_, rfl⟩ | ⟨D, spare, rfl, _⟩
  · simp
  · have := hw ((((List.range len).map D).length + spare.length) * Try.prog.bytesOf e) (by simp [DataW.weights, ht])
    have h2 : len * Try.prog.bytesOf e ≤ (((List.range len).map D).length + spare.length) * Try.prog.bytesOf e := Nat.mul_le_mul_right _ (by simp)
    unfold reachBytes at this
    omega

/-- what the datum of a configuration is -/
def CfgD (d : DataW H) (c : Cfg) : Prop := ∃ d0 d1 d2 d3 d4 d5, d = .agg [d0, d1, d2, d3, d4, d5] ∧ SecD d1 c.parts.length (fun _ _ => True) ∧ SecD d2 c.wins.length (fun _ _ => True) ∧ SecD d3 c.regs.length (fun _ _ => True) ∧
  SecD d4 c.ports.length (fun _ _ => True) ∧ SecD d5 c.chans.length (fun i di => ∃ e0 e1 e2, di = .agg [e0, e1, e2] ∧ SecD e2 (c.chans[i]?.getD default).dests.length (fun _ _ => True))

theorem SecD.any {d : DataW H} {len : Nat} {Q : Nat → DataW H → Prop} (h : SecD d len Q) : SecD d len (fun _ _ => True) := by
  rcases h with h0 | ⟨D, sp, hD, _⟩
  · exact .inl h0
  · exact .inr ⟨D, sp, hD, fun _ _ => trivial⟩

theorem cells_part : Try.prog.cellsOf 47 = 4 := by kernel_rfl
theorem cells_win : Try.prog.cellsOf 45 = 3 := by kernel_rfl
theorem cells_reg : Try.prog.cellsOf 179 = 5 := by kernel_rfl
theorem cells_prt : Try.prog.cellsOf 55 = 6 := by kernel_rfl
theorem cells_chn : Try.prog.cellsOf 79 = 3 := by kernel_rfl
theorem cells_s1 : Try.prog.cellsOf 23 = 1 := by kernel_rfl
theorem cells_s2 : Try.prog.cellsOf 24 = 1 := by kernel_rfl
theorem cells_s3 : Try.prog.cellsOf 25 = 1 := by kernel_rfl
theorem cells_s4 : Try.prog.cellsOf 26 = 1 := by kernel_rfl
theorem cells_s5 : Try.prog.cellsOf 27 = 1 := by kernel_rfl
theorem cells_cfg : Try.prog.cellsOf 29 = 6 := by kernel_rfl
theorem bytes_part : Try.prog.bytesOf 47 = 40 := by kernel_rfl
theorem bytes_win : Try.prog.bytesOf 45 = 24 := by kernel_rfl
theorem bytes_reg : Try.prog.bytesOf 179 = 24 := by kernel_rfl
theorem bytes_prt : Try.prog.bytesOf 55 = 32 := by kernel_rfl
theorem bytes_chn : Try.prog.bytesOf 79 = 32 := by kernel_rfl

set_option maxRecDepth 100000 in
/-- A CONFIGURATION THAT CAME IN lies in memory as 'CfgAt' says -/
theorem open_cfg {v : Value} {d : DataW H} {p : List MemPlace} {base : Nat} (hv : Value.okWide Try.prog W .any base 29 v) (h : DataW.Trod enc Try.prog W 0 (fun _ => true) true 29 v d p)
    (hw : ∀ n ∈ d.weights Try.prog 29, n ≤ reachBytes) : ∃ c A, v = cfgVal c A ∧ CfgAt W c A ∧ CfgD d c := by
  obtain ⟨cs, rfl, hsz⟩ := okWide_struct Try.underlying29 hv
  obtain ⟨fuel, hf⟩ := h
  obtain ⟨xs, m, _, hx, _, hlen, hg⟩ := DataW.trod_struct Try.underlying29 hf
  rw [cells_cfg] at hsz
  obtain ⟨cl⟩ := cs
  obtain ⟨c0, c1, c2, c3, c4, c5, rfl⟩ := len6 (l := cl) hsz
  obtain ⟨x0, x1, x2, x3, x4, x5, rfl⟩ := len6 hlen
  have f0 : DataW.trod enc Try.prog W 0 (fun _ => true) true m 22 [c0] = some x0 := by simpa [cells_u64, Value.cells] using hg 0 _ rfl
  have f1 : DataW.trod enc Try.prog W 0 (fun _ => true) true m 23 [c1] = some x1 := by simpa [cells_s1, Value.cells] using hg 1 _ rfl
  have f2 : DataW.trod enc Try.prog W 0 (fun _ => true) true m 24 [c2] = some x2 := by simpa [cells_s2, Value.cells] using hg 2 _ rfl
  have f3 : DataW.trod enc Try.prog W 0 (fun _ => true) true m 25 [c3] = some x3 := by simpa [cells_s3, Value.cells] using hg 3 _ rfl
  have f4 : DataW.trod enc Try.prog W 0 (fun _ => true) true m 26 [c4] = some x4 := by simpa [cells_s4, Value.cells] using hg 4 _ rfl
  have f5 : DataW.trod enc Try.prog W 0 (fun _ => true) true m 27 [c5] = some x5 := by simpa [cells_s5, Value.cells] using hg 5 _ rfl
  have hd : d = .agg [x0.1, x1.1, x2.1, x3.1, x4.1, x5.1] := by have := congrArg Prod.fst hx; simpa using this
  have hwe : DataW.weights Try.prog 29 (.agg [x0.1, x1.1, x2.1, x3.1, x4.1, x5.1] : DataW H) =
      x0.1.weights Try.prog 22 ++ (x1.1.weights Try.prog 23 ++ (x2.1.weights Try.prog 24 ++ (x3.1.weights Try.prog 25 ++ (x4.1.weights Try.prog 26 ++ (x5.1.weights Try.prog 27 ++ []))))) := by
    simp only [DataW.weights, Try.underlying29]
    rfl
  rw [hd, hwe] at hw
  clear hwe hg hx
  obtain ⟨n0, e0, _, w0⟩ := DataW.trod_int Try.underlying22 f0
  simp only [List.cons.injEq, and_true] at e0
  subst e0
  obtain ⟨a1, l1, k1, m1, rfl, hk1, _, s1⟩ := open_rows Try.underlying23 cells_part (by decide) f1
  obtain ⟨a2, l2, k2, m2, rfl, hk2, _, s2⟩ := open_rows Try.underlying24 cells_win (by decide) f2
  obtain ⟨a3, l3, k3, m3, rfl, hk3, _, s3⟩ := open_rows Try.underlying25 cells_reg (by decide) f3
  obtain ⟨a4, l4, k4, m4, rfl, hk4, _, s4⟩ := open_rows Try.underlying26 cells_prt (by decide) f4
  obtain ⟨a5, l5, k5, m5, rfl, hk5, _, s5⟩ := open_rows Try.underlying27 cells_chn (by decide) f5
  have r1 := sec_reach Try.underlying23 s1 (fun n hn => hw n (by simp [hn]))
  have r2 := sec_reach Try.underlying24 s2 (fun n hn => hw n (by simp [hn]))
  have r3 := sec_reach Try.underlying25 s3 (fun n hn => hw n (by simp [hn]))
  have r4 := sec_reach Try.underlying26 s4 (fun n hn => hw n (by simp [hn]))
  have r5 := sec_reach Try.underlying27 s5 (fun n hn => hw n (by simp [hn]))
  rw [bytes_part] at r1
  rw [bytes_win] at r2
  rw [bytes_reg] at r3
  rw [bytes_prt] at r4
  rw [bytes_chn] at r5
  obtain ⟨p1, rfl, row1, ok1⟩ := rows_of (fun cs x => open_Part) s1
  obtain ⟨p2, rfl, row2, ok2⟩ := rows_of (fun cs x => open_Win) s2
  obtain ⟨p3, rfl, row3, ok3⟩ := rows_of (fun cs x => open_Reg) s3
  obtain ⟨p4, rfl, row4, ok4⟩ := rows_of (fun cs x => open_Prt) s4
  obtain ⟨p5, rfl, row5, ok5, sd5⟩ := chans_of s5
  exact ⟨⟨n0, p1, p2, p3, p4, p5⟩, ⟨a1, k1, a2, k2, a3, k3, a4, k4, a5, k5⟩, rfl, ⟨⟨wf_u64 w0, ok1, ok2, ok3, ok4, ok5, r1, r2, r3, r4, r5⟩, row1, row2, row3, row4, row5, hk1, hk2, hk3, hk4, hk5⟩,
    x0.1, x1.1, x2.1, x3.1, x4.1, x5.1, hd, s1.any, s2.any, s3.any, s4.any, sd5⟩
end
end Go.Proofs.Ytmoignbaphddeaa
