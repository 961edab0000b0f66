/- frame.Busy: the windows of a partition, one behind the other -/
import Derived.Test.YtlccbejhamkdoaaPer16C
import Derived.Test.YtlccbejhamkdoaaRef16A
namespace Go.Proofs.Ytlccbejhamkdoaa
open Go.RowKit Go.Shelf
attribute [local go_sem] Oper.semAt_some

/-- the windows of a partition: their starts and ends -/
def spansOf (l : List Win) (id : Int) : List (Int × Int) := (l.filter fun x => decide (x.part = id)).map fun x => (x.start, x.start + x.len)
theorem spansOf_yes {x : Win} {l : List Win} {id : Int} (h : x.part = id) : spansOf (x :: l) id = (x.start, x.start + x.len) :: spansOf l id := by simp [spansOf, h]
theorem spansOf_no {x : Win} {l : List Win} {id : Int} (h : ¬ x.part = id) : spansOf (x :: l) id = spansOf l id := by simp [spansOf, h]

/-- what lies ready between two rounds -/
structure ReadyB (w0 : World) (cb ib l yb : Nat) (c : Cfg) (A : Adr) (id : Int) (W : World) : Prop where
  big : w0.heap.size ≤ W.heap.size
  cbox : W.heap[cb]? = some (.cells (cfgCells c A) 29 (0, 0))
  ibox : W.heap[ib]? = some (.cells #[.int .u16 id] 34 (0, 0))
  row : RowAt 3 encWin W A.a2 c.wins
  own : yb ≤ W.heap.size
theorem RowAt.kpm' {α : Type} {sz : Nat} {enc : α → List Value} {own : Nat → Prop} {l : Nat} {W W' : World} {a : Option Addr} {ws : List α} (h : RowAt sz enc W a ws) (hk : KpM own l W W') (ha : ws ≠ [] → ∀ b o, a = some ⟨b, o, none⟩ → b ≠ l ∧ ¬ own b) : RowAt sz enc W' a ws := by
  cases ws with
  | nil => exact RowAt.nil _ _ _ _
  | cons x r => exact h.kpm hk (ha (by simp))
theorem ReadyB.alloc {w0 W : World} {cb ib l yb : Nat} {c : Cfg} {A : Adr} {id : Int} (h : ReadyB w0 cb ib l yb c A id W) (o : Obj) : ReadyB w0 cb ib l yb c A id (W.alloc o) :=
  ⟨by have := h.big; simp; omega, heap_alloc' h.cbox o, heap_alloc' h.ibox o, h.row.below (below_new _ _), by have := h.own; simp; omega⟩
theorem ReadyB.kpm {w0 W W' : World} {own : Nat → Prop} {cb ib l yb : Nat} {c : Cfg} {A : Adr} {id : Int} (h : ReadyB w0 cb ib l yb c A id W) (hk : KpM own l W W') (h1 : cb ≠ l ∧ ¬ own cb) (h2 : ib ≠ l ∧ ¬ own ib) (h3 : c.wins ≠ [] → ∀ b o, A.a2 = some ⟨b, o, none⟩ → b ≠ l ∧ ¬ own b) : ReadyB w0 cb ib l yb c A id W' :=
  ⟨Nat.le_trans h.big hk.1, hk.heap h.cbox h1.1 h1.2, hk.heap h.ibox h2.1 h2.2, h.row.kpm' hk h3, Nat.le_trans h.own hk.1⟩

set_option maxHeartbeats 4000000 in
set_option maxRecDepth 100000 in
theorem windows_in (m : Nat) (w0 : World) (own : Nat → Prop) (cb ib : Nat) (c : Cfg) (A : Adr) (id : Int) (hlen : c.wins.length * 24 ≤ 140737488351232) (hall : ∀ x ∈ c.wins, 0 ≤ x.start ∧ 0 < x.len ∧ x.start + x.len ≤ 18446744073709551615)
    (hcb : w0.heap[cb]? = some (.cells (cfgCells c A) 29 (0, 0))) (hib : w0.heap[ib]? = some (.cells #[.int .u16 id] 34 (0, 0))) (hrow : RowAt 3 encWin w0 A.a2 c.wins)
    (ho1 : ¬ own cb) (ho2 : ¬ own ib) (hrown : c.wins ≠ [] → ∀ b o, A.a2 = some ⟨b, o, none⟩ → b < w0.heap.size ∧ ¬ own b) :
    SeqB Fence.wide m Try.prog 89 #[.pointer (some ⟨cb, 0, none⟩), .pointer (some ⟨ib, 0, none⟩)] (fun x : Int × Int => #[.int .u64 x.1, .int .u64 x.2]) (KpM own) (fun xs => xs = spansOf c.wins id) (fun pre => ∃ post, pre ++ post = spansOf c.wins id ∧ pre ≠ []) w0 := by
  intro l J Jx W hl hlW hbW hJ hJx hY h0
  have hlt1 := lt_of_block hcb
  have hlt2 := lt_of_block hib
  have HY : Rounds (m - 1) l own J Jx := hY
  have hR0 := hid (⟨hbW.size, heap_keep hcb hbW, heap_keep hib hbW, hrow.below hbW, Nat.le_refl _⟩ : ReadyB w0 cb ib l W.heap.size c A id W)
  have hK1 : cb ≠ l ∧ ¬ own cb := ⟨by omega, ho1⟩
  have hK2 : ib ≠ l ∧ ¬ own ib := ⟨by omega, ho2⟩
  have hK3 : Hid (c.wins ≠ [] → ∀ b o, A.a2 = some ⟨b, o, none⟩ → b ≠ l ∧ ¬ own b) := fun h b o e => ⟨by have := (hrown h b o e).1; omega, (hrown h b o e).2⟩
  have HK1 := hid hK1
  have HK2 := hid hK2
  have Hall := hid hall
  have HJ := hid hJ
  have HYY := hid HY
  have H0 := hid h0
  obtain ⟨a1, k1, a2, k2, a3, k3, a4, k4, a5, k5⟩ := A
  simp only at hK3
  have z2 : W.cell? ⟨cb, 2, none⟩ = some (.slice a2 c.wins.length k2) := cell_of_heap hR0.out.cbox rfl
  clear hcb hib hrow ho1 ho2 hrown hall hJ hJx HY hY h0 hK1 hK2 hbW
  refine callsIn_of_wp Try.func89 rfl trivial ?_ rfl
  simp only [Try.ntmps89, List.size_toArray, List.length_cons, List.length_nil, Nat.reduceAdd, Nat.reduceSub, Array.replicate_succ, Array.replicate_zero, List.push_toArray, List.append_toArray, List.nil_append, List.cons_append]
  gi_wp2
  gi_loopw [9] (fun i wr => ∃ (j : Nat) (pre : List (Int × Int)), i = .int .i64 j ∧ j ≤ c.wins.length ∧ Hid (pre ++ spansOf (c.wins.drop j) id = spansOf c.wins id ∧ ReadyB w0 cb ib l W.heap.size c ⟨a1, k1, a2, k2, a3, k3, a4, k4, a5, k5⟩ id wr ∧ J pre wr)) (fun i _ => c.wins.length - (intOf i).toNat)
  case atStart => exact ⟨0, [], rfl, Nat.zero_le _, rfl, hR0.out, H0.out⟩
  case round =>
    obtain ⟨j, pre, rfl, hjn, hI⟩ := hrel
    obtain ⟨hgen, hrdy, hJp⟩ := hI.out
    by_cases hlt : j < c.wins.length
    · obtain ⟨b, o, ha, hb0, g0, g1, g2⟩ := hrdy.row.win hlt
      simp only at ha
      subst ha
      rw [List.drop_eq_getElem_cons hlt] at hgen
      have hallx := Hall.out _ (List.getElem_mem hlt)
      obtain ⟨x, hx⟩ : ∃ x, c.wins[j] = x := ⟨_, rfl⟩
      rw [hx] at g0 g1 g2 hgen hallx
      have i0 := cell_of_heap (i := 0) hrdy.ibox rfl
      have hil := lt_of_block hrdy.ibox
      have hown := hrdy.own
      have Hgen := hid hgen
      have S0 := hid (hrdy.alloc (.cells #[.int .u64 x.start, .int .u64 x.len, .int .u16 x.part] 91))
      have J0 := hid (HJ.out _ _ _ hJp ((Below.refl W.heap.size wr).alloc hrdy.own (.cells #[.int .u64 x.start, .int .u64 x.len, .int .u16 x.part] 91)))
      clear hgen hrdy hJp hI hx
      by_cases hp : x.part = id
      · have hpb : (x.part == id) = true := by simpa using hp
        have G1 := hid ((Hgen.out.symm.trans (by rw [spansOf_yes hp])).symm : pre ++ (x.start, x.start + x.len) :: spansOf (c.wins.drop (j + 1)) id = spansOf c.wins id)
        obtain ⟨fn, tmps, assign, body, hy, hR⟩ := anyYield (F := Fence.wide) rfl (m - 1) (HYY.out pre (x.start, x.start + x.len) _ J0.out)
        dsimp only at hy
        clear hp
        gi_wp2_with fail
        refine ⟨fun h => (by cases h), ?_⟩
        refine hR.mono ?_
        rintro e V1 (⟨rfl, hJ3, hk3⟩ | ⟨rfl, hx3, -⟩)
        · have S1 := hid (S0.out.kpm hk3 HK1.out HK2.out hK3.out)
          have J1 := hid hJ3
          clear hJ3 hk3
          gi_wp2
          refine ⟨⟨j + 1, _, by go_num, by omega, (List.append_assoc _ [(x.start, x.start + x.len)] _).trans G1.out, S1.out, J1.out⟩, by simp [intOf]; omega⟩
        · have Hx3 := hid hx3
          clear hx3
          gi_wp2
          refine bodyPost_ret (results_none rfl _ _ _) rfl ?_
          exact ⟨⟨_, rfl⟩, .inr ⟨_, ⟨_, (List.append_assoc _ _ _).trans G1.out, by simp⟩, Hx3.out⟩⟩
      · have hpb : (x.part == id) = false := by simpa using hp
        have G1 := hid ((Hgen.out.symm.trans (by rw [spansOf_no hp])).symm : pre ++ spansOf (c.wins.drop (j + 1)) id = spansOf c.wins id)
        clear hp
        gi_wp2_with fail
        refine ⟨fun _ h => (by cases h), ?_⟩
        gi_wp2
        refine ⟨⟨j + 1, pre, by go_num, by omega, G1.out, S0.out, J0.out⟩, by simp [intOf]; omega⟩
    · have hke : j = c.wins.length := by omega
      subst hke
      rw [List.drop_length] at hgen
      have hg : pre = spansOf c.wins id := by simpa [spansOf] using hgen
      have Hg := hid hg
      have HJp := hid hJp
      clear hgen hrdy hJp hI hg
      gi_wp2
      go_end0
      exact ⟨⟨_, rfl⟩, .inl ⟨pre, Hg.out, HJp.out⟩⟩

theorem windowsOf_c (w : World) (c : Cfg) (A : Adr) (id : Int) : CallsIn Fence.wide 1 Try.prog 69 #[cfgVal c A, .int .u16 id] w fun e w' =>
    e = .returned (.func (.func 89) #[] #[.pointer (some ⟨w.heap.size, 0, none⟩), .pointer (some ⟨w.heap.size + 1, 0, none⟩)]) ∧ w' = (w.alloc (.cells (cfgCells c A) 29)).alloc (.cells #[.int .u16 id] 34) := by
  obtain ⟨a1, k1, a2, k2, a3, k3, a4, k4, a5, k5⟩ := A
  simp only [cfgVal, cfgCells]
  refine callsIn_of_wp Try.func69 rfl trivial ?_ rfl
  simp only [Try.ntmps69, List.size_toArray, List.length_cons, List.length_nil, Nat.reduceAdd, Nat.reduceSub, Array.replicate_succ, Array.replicate_zero, List.push_toArray, List.append_toArray, List.nil_append, List.cons_append]
  gi_wp2
  go_ret
  exact ⟨rfl, rfl⟩

/-- the lengths of spans, as 64 bits add them up -/
def sumW (pre : List (Int × Int)) : Int := pre.foldl (fun s y => IntKind.u64.wrap (s + IntKind.u64.wrap (y.2 - y.1))) 0
theorem sumW_snoc (pre : List (Int × Int)) (x : Int × Int) : sumW (pre ++ [x]) = IntKind.u64.wrap (sumW pre + IntKind.u64.wrap (x.2 - x.1)) := by simp [sumW]

theorem add_c (w : World) (b : Nat) (t lo hi : Int) (h : w.heap[b]? = some (.cells #[.int .u64 t] 22 (0, 0))) :
    Calls Try.prog 68 #[.int .u64 lo, .int .u64 hi, .pointer (some ⟨b, 0, none⟩)] w fun e w' => (∃ v, e = .returned v) ∧ w' = w.setCell ⟨b, 0, none⟩ (.int .u64 (IntKind.u64.wrap (t + IntKind.u64.wrap (hi - lo)))) := by
  have n0 := cell_of_heap (i := 0) h rfl
  have n1 : w.frozen? ⟨b, 0, none⟩ = false := free_of_heap h
  go_enter Try.func68, Try.ntmps68
  go_wp2
  go_end0
  exact ⟨⟨_, rfl⟩, rfl⟩

set_option maxHeartbeats 4000000 in
set_option maxRecDepth 100000 in
theorem busyW_c (w : World) (c : Cfg) (A : Adr) (hc : CfgAt w c A) (id : Int) (hall : ∀ x ∈ c.wins, 0 ≤ x.start ∧ 0 < x.len ∧ x.start + x.len ≤ 18446744073709551615) :
    Calls Try.prog 31 #[cfgVal c A, .int .u16 id] w fun e w' => e = .returned (.int .u64 (sumW (spansOf c.wins id))) ∧ Below w.heap.size w w' := by
  have hn := hc.ok.nwins
  have hrow := hid hc.wins
  have hA2 : Hid (c.wins ≠ [] → ∀ b o, A.a2 = some ⟨b, o, none⟩ → b < w.heap.size) := by
    intro hne b o hb
    cases hw : c.wins with
    | nil => exact absurd hw hne
    | cons x r =>
      obtain ⟨b', o', hb', hcs⟩ := hrow.out 0 x (by rw [hw]; rfl)
      rw [hb] at hb'
      cases hb'
      exact hcs.lt (by simp [encWin])
  have Hall := hid hall
  obtain ⟨ys, hys⟩ : ∃ ys, spansOf c.wins id = ys := ⟨_, rfl⟩
  rw [hys]
  have Hys := hid hys
  have hwin := hid (fun (W : World) => windowsOf_c W c A id)
  clear hc hall hys
  obtain ⟨a1, k1, a2, k2, a3, k3, a4, k4, a5, k5⟩ := A
  simp only [cfgVal, cfgCells] at hwin hrow hA2 ⊢
  refine (callsIn_wide (n := 9)).1 ?_
  refine callsIn_of_wp_marks Try.func31 rfl trivial ?_ rfl
  simp only [Try.ntmps31, List.size_toArray, List.length_cons, List.length_nil, Nat.reduceAdd, Nat.reduceSub, Array.replicate_succ, Array.replicate_zero, List.push_toArray, List.append_toArray, List.nil_append, List.cons_append]
  gi_wp2_with fail
  refine ⟨trivial, ?_⟩
  refine (callsIn_wide.2 (callsIn_wide.1 (hwin.out _))).mono ?_
  rintro e w' ⟨rfl, rfl⟩
  gi_wp2
  refine wp_cutIn (fun W => Below w.heap.size w W ∧ W.heap.size = w.heap.size + 5 ∧
    W.heap[w.heap.size + 1]? = some (.cells #[.int .u64 0] 22 (0, 0)) ∧ W.heap[w.heap.size + 1 + 1]? = some (.cells #[.func (.func 68) #[] #[.pointer (some ⟨w.heap.size + 1, 0, none⟩)]] 102 (0, 0)) ∧
    W.heap[w.heap.size + 1 + 1 + 1]? = some (.cells (cfgCells c ⟨a1, k1, a2, k2, a3, k3, a4, k4, a5, k5⟩) 29 (0, 0)) ∧ W.heap[w.heap.size + 1 + 1 + 1 + 1]? = some (.cells #[.int .u16 id] 34 (0, 0)))
    ⟨((((below_new _ _).alloc (by simp) _).alloc (by simp; omega) _).alloc (by simp; omega) _).alloc (by simp; omega) _, by simp, by repeat (first | (refine heap_at ?_; simp; done) | refine heap_alloc' ?_ _), by repeat (first | (refine heap_at ?_; simp; done) | refine heap_alloc' ?_ _), by repeat (first | (refine heap_at ?_; simp; done) | refine heap_alloc' ?_ _), by repeat (first | (refine heap_at ?_; simp; done) | refine heap_alloc' ?_ _)⟩ ?_
  rintro w1 ⟨hb1, hs1, hn1, hf1, hcb1, hib1⟩
  have hseq := windows_in 8 w1 (fun b => b = w.heap.size + 1) (w.heap.size + 1 + 1 + 1) (w.heap.size + 1 + 1 + 1 + 1) c ⟨a1, k1, a2, k2, a3, k3, a4, k4, a5, k5⟩ id (by omega) Hall.out hcb1 hib1 (hrow.out.below hb1) (by omega) (by omega) (fun h b o e => by have := hA2.out h b o e; omega)
  rw [Hys.out] at hseq
  refine wpIn_rangeB (α := Int × Int) rfl (by omega) (gf := 89) (lb := #[.pointer (some ⟨w.heap.size + 1 + 1 + 1, 0, none⟩), .pointer (some ⟨w.heap.size + 1 + 1 + 1 + 1, 0, none⟩)]) rfl trivial (enters_of Try.func89 (by kernel_rfl) rfl)
    hseq (fun h k => KpM.trans h k) (fun W o' => KpM.put _ _ W o') (Below.refl _ _) (fun _ => rfl)
    (fun pre W => (W.heap[w.heap.size + 1]? = some (.cells #[.int .u64 (sumW pre)] 22 (0, 0)) ∧ W.heap[w.heap.size + 1 + 1]? = some (.cells #[.func (.func 68) #[] #[.pointer (some ⟨w.heap.size + 1, 0, none⟩)]] 102 (0, 0))) ∧ Below w.heap.size w W)
    (fun _ _ _ => False)
    (OwnFrom.and (fun s A B row hs hg hr => ⟨heap_from hs.1 hg hr, heap_from hs.2 hg hr⟩) (ownFrom_below (Nat.le_refl _) (by omega)))
    (fun _ _ _ _ _ hs _ _ => hs)
    (fun s A B hs hb => ⟨⟨(hb.block _ (by omega)).trans hs.1.1, (hb.block _ (by omega)).trans hs.1.2⟩, hs.2.trans (hb.mono (by omega))⟩)
    (fun c s A B hs hb => hs)
    ⟨⟨hn1, hf1⟩, hb1⟩
    (fun x => { tmps := #[.agg #[.int .u64 c.frame, .slice a1 c.parts.length k1, .slice a2 c.wins.length k2, .slice a3 c.regs.length k3, .slice a4 c.ports.length k4, .slice a5 c.chans.length k5], .int .u16 id, .pointer (some ⟨w.heap.size, 0, none⟩), undef, .int .u64 0, .pointer (some ⟨w.heap.size + 1, 0, none⟩), .pointer (some ⟨w.heap.size + 1 + 1, 0, none⟩), .int .u64 x.1, .int .u64 x.2,
      .func (.func 68) #[] #[.pointer (some ⟨w.heap.size + 1, 0, none⟩)], .agg #[.int .u64 c.frame, .slice a1 c.parts.length k1, .slice a2 c.wins.length k2, .slice a3 c.regs.length k3, .slice a4 c.ports.length k4, .slice a5 c.chans.length k5], .int .u16 id,
      .func (.func 89) #[] #[.pointer (some ⟨w.heap.size + 1 + 1 + 1, 0, none⟩), .pointer (some ⟨w.heap.size + 1 + 1 + 1 + 1, 0, none⟩)], .int .u64 x.1, .int .u64 x.2, undef, undef, undef, undef, undef], defers := [] }) ?assign ?body ?done ?stop
  case assign =>
    intro l x W K hK
    gi_wp2
    exact hK
  case body =>
    rintro l pre x W hlt ⟨⟨h1, h2⟩, hB⟩
    have f0 := cell_of_heap (i := 0) h2 rfl
    clear hb1 hn1 hf1 hcb1 hib1 hseq hwin hrow hA2 Hall
    gi_wp2_with fail
    refine ⟨trivial, ?_⟩
    refine (CallsIn.inRound l (callsIn_wide.2 (add_c W _ _ x.1 x.2 h1))).mono ?_
    rintro e w' ⟨⟨v, rfl⟩, rfl⟩
    gi_wp2
    refine ⟨KeepsOthers.setCell _ _ _, KpM.set (own := fun b => b = w.heap.size + 1) rfl _, ⟨?_, heap_set_ne h2 (by omega) _⟩, hB.setCell (p := ⟨w.heap.size + 1, 0, none⟩) (by show w.heap.size ≤ w.heap.size + 1; omega) _⟩
    rw [sumW_snoc]
    exact heap_set h1 _
  case done =>
    rintro D ys' W hD rfl ⟨⟨h1, h2⟩, hB⟩ hK
    have n0 := cell_of_heap (i := 0) h1 rfl
    clear hb1 hn1 hf1 hcb1 hib1 hseq hwin hrow hA2 Hall
    gi_wp2
    refine ⟨by simp, .inl ⟨_, _, rfl, run_takeDeferred hK, ?_⟩⟩
    exact ⟨_, results_tmp rfl _ _ _, rfl, hB.trans (belowK_b (w := w) (Nat.le_refl _) W D _ _ (by omega) hK rfl rfl)⟩
  case stop =>
    rintro D c pre W hD _ h _
    exact h.elim
end Go.Proofs.Ytlccbejhamkdoaa
