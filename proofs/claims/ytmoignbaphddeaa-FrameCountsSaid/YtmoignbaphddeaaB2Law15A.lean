/-
  the reference's small functions of the layers 1, 14, 15, 16
  frame.Busy: the windows of a partition, one behind the other
  the ticks of a partition
  the reference's check of windows, whole (layer 15)
  the laws beneath conf.Merge: rows of the call's own, told apart by their element types
  rows of the call's own in the words of the library's contracts (HoldsK, putRowK)
  num.Add
  keys and maps of package uniq
-/
import Derived.Test.YtmoignbaphddeaaB1Law15A
import Derived.Laws.EntriesVeiled
import Derived.Laws.AppendOwnNone
import Derived.KernelRfl
import Derived.Shelf.GgSortFunc.InsertionK
import Derived.Laws.Externs
import Derived.Test.YtmoignbaphddeaaChecked
set_option linter.unusedVariables false
namespace Go.Proofs.Ytmoignbaphddeaa
open Go.RowKit

/-- whether a number divides another one -/
def divs (a b : Int) : Bool := decide (0 < a ∧ b % a = 0)
theorem divs_pos {a b : Int} (h : 0 < a) : (b % a == 0) = divs a b := by
  unfold divs
  by_cases h2 : b % a = 0 <;> simp [h, h2]
theorem divs_zero (b : Int) : divs 0 b = false := by simp [divs]



/-- the ticks of a window of a partition in a range -/
def term (id a b : Int) (x : Win) : Int := if x.part = id then ovl x a b else 0
/-- the ticks of a partition in a range: windows of all partitions are given -/
def usedP (ws : List Win) (id a b : Int) : Int := (ws.map (term id a b)).sum
theorem term_nonneg (id a b : Int) (x : Win) : 0 ≤ term id a b x := by
  unfold term; split
  · exact ovl_nonneg _ _ _
  · omega
theorem usedP_nil (id a b : Int) : usedP [] id a b = 0 := rfl
theorem usedP_cons (x : Win) (ws : List Win) (id a b : Int) : usedP (x :: ws) id a b = term id a b x + usedP ws id a b := by simp [usedP]
theorem usedP_append (l m : List Win) (id a b : Int) : usedP (l ++ m) id a b = usedP l id a b + usedP m id a b := by
  induction l with
  | nil => simp [usedP_nil]
  | cons x l ih => rw [List.cons_append, usedP_cons, usedP_cons, ih]; omega
theorem usedP_nonneg (ws : List Win) (id a b : Int) : 0 ≤ usedP ws id a b := by
  induction ws with
  | nil => simp [usedP_nil]
  | cons x l ih => rw [usedP_cons]; have := term_nonneg id a b x; omega
theorem usedP_filter (ws : List Win) (id a b : Int) : usedP ws id a b = usedL (ws.filter fun x => decide (x.part = id)) a b := by
  induction ws with
  | nil => rfl
  | cons x l ih =>
    rw [usedP_cons, ih, List.filter_cons]
    unfold term
    split
    · rename_i h; simp [h, usedL_cons]
    · rename_i h; simp [h]
theorem usedP_take (ws : List Win) (id a b : Int) {k : Nat} (h : k < ws.length) : usedP (ws.take (k + 1)) id a b = usedP (ws.take k) id a b + term id a b ws[k] := by
  rw [List.take_add_one, List.getElem?_eq_getElem h, usedP_append]
  simp [usedP_cons, usedP_nil]
theorem usedP_take_le (ws : List Win) (id a b : Int) (k : Nat) : usedP (ws.take k) id a b ≤ usedP ws id a b := by
  have h : usedP (ws.take k ++ ws.drop k) id a b = usedP ws id a b := by rw [List.take_append_drop]
  rw [usedP_append] at h
  have := usedP_nonneg (ws.drop k) id a b
  omega
theorem Apart.used_le {F : Int} {ws : List Win} (h : Apart F ws) (id : Int) {a b : Int} (ha : 0 ≤ a) (hab : a ≤ b) : usedP ws id a b ≤ b - a := by
  have h1 := h.filter (fun x => decide (x.part = id))
  rw [usedP_filter]
  have hp := List.mergeSort_perm (ws.filter fun x => decide (x.part = id)) (fun x y => decide (x.start ≤ y.start))
  rw [← usedL_perm hp]
  have hs : ((ws.filter fun x => decide (x.part = id)).mergeSort (fun x y => decide (x.start ≤ y.start))).Pairwise (fun x y => x.start ≤ y.start) := by
    have := List.pairwise_mergeSort (le := fun x y : Win => decide (x.start ≤ y.start)) (fun x y z h1 h2 => by simp at *; omega) (fun x y => by simp; omega) (ws.filter fun x => decide (x.part = id))
    exact this.imp (fun h => by simpa using h)
  have hc := (h1.perm hp.symm).chain hs (E := 0) (fun x hx => ((h1.perm hp.symm).each x hx).1)
  have := hc.used_le a b
  omega

set_option maxHeartbeats 1000000 in
theorem refUsed_c (w : World) (c : Cfg) (A : Adr) (hc : CfgAt w c A) (hap : Apart c.frame c.wins) (id a b : Int) (_hid' : U16 id) (ha : 0 ≤ a) (hab : a ≤ b) (hb : b ≤ 18446744073709551615) :
    Calls Try.prog 13 #[cfgVal c A, .int .u16 id, .int .u64 a, .int .u64 b] w fun e w' => e = .returned (.int .u64 (usedP c.wins id a b)) ∧ Below w.heap.size w w' := by
  have htop := hap.used_le id ha hab
  have hfr := hc.ok.frame
  unfold U64 at hfr
  obtain ⟨a1, k1, a2, k2, a3, k3, a4, k4, a5, k5⟩ := A
  have hn := hc.ok.nwins
  have hall := hap.each
  have hmost : ∀ k, usedP (c.wins.take k) id a b ≤ 18446744073709551615 := fun k => by have := usedP_take_le c.wins id a b k; omega
  simp only [cfgVal, cfgCells]
  go_enter Try.func13, Try.ntmps13
  go_wp2
  refine wp_name (fun W => Below w.heap.size w W ∧ W.heap[w.heap.size]? = some (.cells (cfgCells c ⟨a1, k1, a2, k2, a3, k3, a4, k4, a5, k5⟩) 29 (0, 0))) ⟨below_new _ _, heap_new _ _⟩ ?_
  rintro w1 ⟨hb1, hbox⟩
  have hrow := (hc.below hb1).wins
  have hb2 := (box_cfg hbox).2.2.1
  simp only at hb2 hrow
  have Hall := hid hall
  have Hmost := hid hmost
  clear hbox hc hall hmost hap htop
  go_loopw [9, 10] (fun n i wr => ∃ k : Nat, k ≤ c.wins.length ∧ i = .int .i64 k ∧ n = .int .u64 (usedP (c.wins.take k) id a b) ∧ Below w1.heap.size w1 wr) (fun _ i _ => c.wins.length - (intOf i).toNat)
  case atStart => exact ⟨0, Nat.zero_le _, rfl, rfl, Below.refl _ _⟩
  case round =>
    obtain ⟨k, hkn, rfl, rfl, hbr⟩ := hrel
    have hb2 := cell_below hbr hb2
    by_cases hlt : k < c.wins.length
    · obtain ⟨bb, o, rfl, hb0, h0, h1, h2⟩ := (hrow.below hbr).win hlt
      have hsucc := hid (usedP_take c.wins id a b hlt)
      obtain ⟨e1, e2, e3⟩ := Hall.out _ (List.getElem_mem hlt)
      have m1 := Hmost.out (k + 1)
      rw [hsucc.out] at m1
      have m0 := usedP_nonneg (c.wins.take k) id a b
      obtain ⟨U, hU⟩ : ∃ U, usedP (c.wins.take k) id a b = U := ⟨_, rfl⟩
      rw [hU] at m0 m1 hsucc ⊢
      clear hrow
      by_cases hp : c.wins[k].part = id
      · have hpe : (c.wins[k].part == id) = true := by simpa using hp
        by_cases hlo : max c.wins[k].start a < min (c.wins[k].start + c.wins[k].len) b
        · have ht : term id a b c.wins[k] = min (c.wins[k].start + c.wins[k].len) b - max c.wins[k].start a := by unfold term ovl; rw [if_pos hp, if_pos hlo]
          rw [ht] at hsucc m1
          go_wp2
          all_goals (try (refine ⟨⟨k + 1, by omega, by go_num, ?_, hbr.alloc hbr.size _⟩, by simp [intOf]; omega⟩; rw [hsucc.out]; try (congr 1; omega)))
        · have ht : term id a b c.wins[k] = 0 := by unfold term ovl; rw [if_pos hp, if_neg hlo]
          rw [ht] at hsucc m1
          have hno : ¬ (if c.wins[k].start < a then a else c.wins[k].start) < if b < c.wins[k].start + c.wins[k].len then b else c.wins[k].start + c.wins[k].len := by omega
          go_wp2
          all_goals (try (refine ⟨⟨k + 1, by omega, by go_num, ?_, hbr.alloc hbr.size _⟩, by simp [intOf]; omega⟩; rw [hsucc.out]; try (congr 1; omega)))
      · have hpe : (c.wins[k].part == id) = false := by simpa using hp
        have ht : term id a b c.wins[k] = 0 := by unfold term; rw [if_neg hp]
        rw [ht] at hsucc m1
        go_wp2
        all_goals (try (refine ⟨⟨k + 1, by omega, by go_num, ?_, hbr.alloc hbr.size _⟩, by simp [intOf]; omega⟩; rw [hsucc.out]; try (congr 1; omega)))
    · have hke : k = c.wins.length := by omega
      subst hke
      rw [List.take_length]
      have hbf := bthen hb1 hbr
      clear hrow
      go_wp2
      go_ret
      exact ⟨rfl, hbf⟩

/-- the value of a record of a partition -/
def partVal16 (p : Part) : Value := .agg #[.int .u16 p.id, .string p.name, .int .u64 p.period, .int .u64 p.dur]



/-- the ticks of a partition in its periods -/
def inC (c : Cfg) (p : Part) (k : Int) : Int := usedP c.wins p.id (k * p.period) ((k + 1) * p.period)

theorem quo_count {c : Cfg} {p : Part} {count : Int} (hP : 0 < p.period) (hF : c.frame = count * p.period) : c.frame / p.period = count := by
  rw [hF]; exact Int.mul_ediv_cancel _ (by omega)

theorem allOf_split {used : Int → Int} {count : Int} {k : Nat} (h : (k : Int) < count) :
    ∃ post, allOf used count = ((List.range k).map fun j : Nat => ((j : Int), used j)) ++ ((k : Int), used k) :: post := by
  obtain ⟨m, hm⟩ : ∃ m, count.toNat = (k + 1) + m := ⟨count.toNat - (k + 1), by omega⟩
  rw [allOf, periodsOf, List.map_map, hm, List.range_add, List.map_append, List.range_succ, List.map_append, List.append_assoc]
  exact ⟨_, rfl⟩
theorem firstAll_at {used : Int → Int} {count d : Int} {k : Nat} (h : (k : Int) < count) (hb : ∀ j : Nat, j < k → ¬ used j < d) (hk : used k < d) : firstShort d (allOf used count) = ((k : Int), true) := by
  obtain ⟨post, e⟩ := allOf_split (used := used) h
  rw [e, firstShort_at _ (by exact hk)]
  intro z hz
  obtain ⟨j, hj, rfl⟩ := List.mem_map.1 hz
  rw [List.mem_range] at hj
  exact hb j hj
theorem firstAll_no {used : Int → Int} {count d : Int} (h : ∀ j : Nat, (j : Int) < count → ¬ used j < d) : firstShort d (allOf used count) = (0, false) := by
  refine firstShort_no (fun y hy => ?_)
  obtain ⟨k, hk, rfl⟩ := List.mem_map.1 hy
  obtain ⟨k1, k2⟩ := mem_periodsOf.1 hk
  have := h k.toNat (by omega)
  rw [show ((k.toNat : Nat) : Int) = k by omega] at this
  exact this




end Go.Proofs.Ytmoignbaphddeaa
namespace Go.Proofs.Ytmoignbaphddeaa
open Go.RowKit Go.Shelf
attribute [local go_sem] Oper.semAt_some

/-- the windows of a partition: their starts and ends -/
def spansOf (l : List Win) (id : Int) : List (Int × Int) := (l.filter fun x => decide (x.part = id)).map fun x => (x.start, x.start + x.len)
theorem spansOf_yes {x : Win} {l : List Win} {id : Int} (h : x.part = id) : spansOf (x :: l) id = (x.start, x.start + x.len) :: spansOf l id := by simp [spansOf, h]
theorem spansOf_no {x : Win} {l : List Win} {id : Int} (h : ¬ x.part = id) : spansOf (x :: l) id = spansOf l id := by simp [spansOf, h]

/-- what lies ready between two rounds -/
structure ReadyB (w0 : World) (cb ib l yb : Nat) (c : Cfg) (A : Adr) (id : Int) (W : World) : Prop where
  big : w0.heap.size ≤ W.heap.size
  cbox : W.heap[cb]? = some (.cells (cfgCells c A) 29 (0, 0))
  ibox : W.heap[ib]? = some (.cells #[.int .u16 id] 38 (0, 0))
  row : RowAt 3 encWin W A.a2 c.wins
  own : yb ≤ W.heap.size
theorem RowAt.kpm' {α : Type} {sz : Nat} {enc : α → List Value} {own : Nat → Prop} {l : Nat} {W W' : World} {a : Option Addr} {ws : List α} (h : RowAt sz enc W a ws) (hk : KpM own l W W') (ha : ws ≠ [] → ∀ b o, a = some ⟨b, o, none⟩ → b ≠ l ∧ ¬ own b) : RowAt sz enc W' a ws := by
  cases ws with
  | nil => exact RowAt.nil _ _ _ _
  | cons x r => exact h.kpm hk (ha (by simp))
theorem ReadyB.alloc {w0 W : World} {cb ib l yb : Nat} {c : Cfg} {A : Adr} {id : Int} (h : ReadyB w0 cb ib l yb c A id W) (o : Obj) : ReadyB w0 cb ib l yb c A id (W.alloc o) :=
  ⟨by have := h.big; simp; omega, heap_alloc' h.cbox o, heap_alloc' h.ibox o, h.row.below (below_new _ _), by have := h.own; simp; omega⟩
theorem ReadyB.kpm {w0 W W' : World} {own : Nat → Prop} {cb ib l yb : Nat} {c : Cfg} {A : Adr} {id : Int} (h : ReadyB w0 cb ib l yb c A id W) (hk : KpM own l W W') (h1 : cb ≠ l ∧ ¬ own cb) (h2 : ib ≠ l ∧ ¬ own ib) (h3 : c.wins ≠ [] → ∀ b o, A.a2 = some ⟨b, o, none⟩ → b ≠ l ∧ ¬ own b) : ReadyB w0 cb ib l yb c A id W' :=
  ⟨Nat.le_trans h.big hk.1, hk.heap h.cbox h1.1 h1.2, hk.heap h.ibox h2.1 h2.2, h.row.kpm' hk h3, Nat.le_trans h.own hk.1⟩

set_option maxHeartbeats 4000000 in
set_option maxRecDepth 100000 in
theorem windows_in (m : Nat) (w0 : World) (own : Nat → Prop) (cb ib : Nat) (c : Cfg) (A : Adr) (id : Int) (hlen : c.wins.length * 24 ≤ 140737488351232) (hall : ∀ x ∈ c.wins, 0 ≤ x.start ∧ 0 < x.len ∧ x.start + x.len ≤ 18446744073709551615)
    (hcb : w0.heap[cb]? = some (.cells (cfgCells c A) 29 (0, 0))) (hib : w0.heap[ib]? = some (.cells #[.int .u16 id] 38 (0, 0))) (hrow : RowAt 3 encWin w0 A.a2 c.wins)
    (ho1 : ¬ own cb) (ho2 : ¬ own ib) (hrown : c.wins ≠ [] → ∀ b o, A.a2 = some ⟨b, o, none⟩ → b < w0.heap.size ∧ ¬ own b) :
    SeqB Fence.wide m Try.prog 48 #[.pointer (some ⟨cb, 0, none⟩), .pointer (some ⟨ib, 0, none⟩)] (fun x : Int × Int => #[.int .u64 x.1, .int .u64 x.2]) (KpM own) (fun xs => xs = spansOf c.wins id) (fun pre => ∃ post, pre ++ post = spansOf c.wins id ∧ pre ≠ []) w0 := by
  intro l J Jx W hl hlW hbW hJ hJx hY h0
  have hlt1 := lt_of_block hcb
  have hlt2 := lt_of_block hib
  have HY : Rounds (m - 1) l own J Jx := hY
  have hR0 := hid (⟨hbW.size, heap_keep hcb hbW, heap_keep hib hbW, hrow.below hbW, Nat.le_refl _⟩ : ReadyB w0 cb ib l W.heap.size c A id W)
  have hK1 : cb ≠ l ∧ ¬ own cb := ⟨by omega, ho1⟩
  have hK2 : ib ≠ l ∧ ¬ own ib := ⟨by omega, ho2⟩
  have hK3 : Hid (c.wins ≠ [] → ∀ b o, A.a2 = some ⟨b, o, none⟩ → b ≠ l ∧ ¬ own b) := fun h b o e => ⟨by have := (hrown h b o e).1; omega, (hrown h b o e).2⟩
  have HK1 := hid hK1
  have HK2 := hid hK2
  have Hall := hid hall
  have HJ := hid hJ
  have HYY := hid HY
  have H0 := hid h0
  obtain ⟨a1, k1, a2, k2, a3, k3, a4, k4, a5, k5⟩ := A
  simp only at hK3
  have z2 : W.cell? ⟨cb, 2, none⟩ = some (.slice a2 c.wins.length k2) := cell_of_heap hR0.out.cbox rfl
  clear hcb hib hrow ho1 ho2 hrown hall hJ hJx HY hY h0 hK1 hK2 hbW
  refine callsIn_of_wp Try.func48 rfl trivial ?_ rfl
  simp only [Try.ntmps48, List.size_toArray, List.length_cons, List.length_nil, Nat.reduceAdd, Nat.reduceSub, Array.replicate_succ, Array.replicate_zero, List.push_toArray, List.append_toArray, List.nil_append, List.cons_append]
  gi_wp2
  gi_loopw [9] (fun i wr => ∃ (j : Nat) (pre : List (Int × Int)), i = .int .i64 j ∧ j ≤ c.wins.length ∧ Hid (pre ++ spansOf (c.wins.drop j) id = spansOf c.wins id ∧ ReadyB w0 cb ib l W.heap.size c ⟨a1, k1, a2, k2, a3, k3, a4, k4, a5, k5⟩ id wr ∧ J pre wr)) (fun i _ => c.wins.length - (intOf i).toNat)
  case atStart => exact ⟨0, [], rfl, Nat.zero_le _, rfl, hR0.out, H0.out⟩
  case round =>
    obtain ⟨j, pre, rfl, hjn, hI⟩ := hrel
    obtain ⟨hgen, hrdy, hJp⟩ := hI.out
    by_cases hlt : j < c.wins.length
    · obtain ⟨b, o, ha, hb0, g0, g1, g2⟩ := hrdy.row.win hlt
      simp only at ha
      subst ha
      rw [List.drop_eq_getElem_cons hlt] at hgen
      have hallx := Hall.out _ (List.getElem_mem hlt)
      obtain ⟨x, hx⟩ : ∃ x, c.wins[j] = x := ⟨_, rfl⟩
      rw [hx] at g0 g1 g2 hgen hallx
      have i0 := cell_of_heap (i := 0) hrdy.ibox rfl
      have hil := lt_of_block hrdy.ibox
      have hown := hrdy.own
      have Hgen := hid hgen
      have S0 := hid (hrdy.alloc (.cells #[.int .u64 x.start, .int .u64 x.len, .int .u16 x.part] 45))
      have J0 := hid (HJ.out _ _ _ hJp ((Below.refl W.heap.size wr).alloc hrdy.own (.cells #[.int .u64 x.start, .int .u64 x.len, .int .u16 x.part] 45)))
      clear hgen hrdy hJp hI hx
      by_cases hp : x.part = id
      · have hpb : (x.part == id) = true := by simpa using hp
        have G1 := hid ((Hgen.out.symm.trans (by rw [spansOf_yes hp])).symm : pre ++ (x.start, x.start + x.len) :: spansOf (c.wins.drop (j + 1)) id = spansOf c.wins id)
        obtain ⟨fn, tmps, assign, body, hy, hR⟩ := anyYield (F := Fence.wide) rfl (m - 1) (HYY.out pre (x.start, x.start + x.len) _ J0.out)
        dsimp only at hy
        clear hp
        gi_wp2_with fail
        refine ⟨fun h => (by cases h), ?_⟩
        refine hR.mono ?_
        rintro e V1 (⟨rfl, hJ3, hk3⟩ | ⟨rfl, hx3, -⟩)
        · have S1 := hid (S0.out.kpm hk3 HK1.out HK2.out hK3.out)
          have J1 := hid hJ3
          clear hJ3 hk3
          gi_wp2
          refine ⟨⟨j + 1, _, by go_num, by omega, (List.append_assoc _ [(x.start, x.start + x.len)] _).trans G1.out, S1.out, J1.out⟩, by simp [intOf]; omega⟩
        · have Hx3 := hid hx3
          clear hx3
          gi_wp2
          refine bodyPost_ret (results_none rfl _ _ _) rfl ?_
          exact ⟨⟨_, rfl⟩, .inr ⟨_, ⟨_, (List.append_assoc _ _ _).trans G1.out, by simp⟩, Hx3.out⟩⟩
      · have hpb : (x.part == id) = false := by simpa using hp
        have G1 := hid ((Hgen.out.symm.trans (by rw [spansOf_no hp])).symm : pre ++ spansOf (c.wins.drop (j + 1)) id = spansOf c.wins id)
        clear hp
        gi_wp2_with fail
        refine ⟨fun _ h => (by cases h), ?_⟩
        gi_wp2
        refine ⟨⟨j + 1, pre, by go_num, by omega, G1.out, S0.out, J0.out⟩, by simp [intOf]; omega⟩
    · have hke : j = c.wins.length := by omega
      subst hke
      rw [List.drop_length] at hgen
      have hg : pre = spansOf c.wins id := by simpa [spansOf] using hgen
      have Hg := hid hg
      have HJp := hid hJp
      clear hgen hrdy hJp hI hg
      gi_wp2
      go_end0
      exact ⟨⟨_, rfl⟩, .inl ⟨pre, Hg.out, HJp.out⟩⟩

theorem windowsOf_c (w : World) (c : Cfg) (A : Adr) (id : Int) : CallsIn Fence.wide 1 Try.prog 29 #[cfgVal c A, .int .u16 id] w fun e w' =>
    e = .returned (.func (.func 48) #[] #[.pointer (some ⟨w.heap.size, 0, none⟩), .pointer (some ⟨w.heap.size + 1, 0, none⟩)]) ∧ w' = (w.alloc (.cells (cfgCells c A) 29)).alloc (.cells #[.int .u16 id] 38) := by
  obtain ⟨a1, k1, a2, k2, a3, k3, a4, k4, a5, k5⟩ := A
  simp only [cfgVal, cfgCells]
  refine callsIn_of_wp Try.func29 rfl trivial ?_ rfl
  simp only [Try.ntmps29, List.size_toArray, List.length_cons, List.length_nil, Nat.reduceAdd, Nat.reduceSub, Array.replicate_succ, Array.replicate_zero, List.push_toArray, List.append_toArray, List.nil_append, List.cons_append]
  gi_wp2
  go_ret
  exact ⟨rfl, rfl⟩

/-- the lengths of spans, as 64 bits add them up -/
def sumW (pre : List (Int × Int)) : Int := pre.foldl (fun s y => IntKind.u64.wrap (s + IntKind.u64.wrap (y.2 - y.1))) 0
theorem sumW_snoc (pre : List (Int × Int)) (x : Int × Int) : sumW (pre ++ [x]) = IntKind.u64.wrap (sumW pre + IntKind.u64.wrap (x.2 - x.1)) := by simp [sumW]

theorem add_c (w : World) (b : Nat) (t lo hi : Int) (h : w.heap[b]? = some (.cells #[.int .u64 t] 22 (0, 0))) :
    Calls Try.prog 30 #[.int .u64 lo, .int .u64 hi, .pointer (some ⟨b, 0, none⟩)] w fun e w' => (∃ v, e = .returned v) ∧ w' = w.setCell ⟨b, 0, none⟩ (.int .u64 (IntKind.u64.wrap (t + IntKind.u64.wrap (hi - lo)))) := by
  have n0 := cell_of_heap (i := 0) h rfl
  have n1 : w.frozen? ⟨b, 0, none⟩ = false := free_of_heap h
  go_enter Try.func30, Try.ntmps30
  go_wp2
  go_end0
  exact ⟨⟨_, rfl⟩, rfl⟩

set_option maxHeartbeats 4000000 in
set_option maxRecDepth 100000 in
theorem busyW_c (w : World) (c : Cfg) (A : Adr) (hc : CfgAt w c A) (id : Int) (hall : ∀ x ∈ c.wins, 0 ≤ x.start ∧ 0 < x.len ∧ x.start + x.len ≤ 18446744073709551615) :
    Calls Try.prog 14 #[cfgVal c A, .int .u16 id] w fun e w' => e = .returned (.int .u64 (sumW (spansOf c.wins id))) ∧ Below w.heap.size w w' := by
  have hn := hc.ok.nwins
  have hrow := hid hc.wins
  have hA2 : Hid (c.wins ≠ [] → ∀ b o, A.a2 = some ⟨b, o, none⟩ → b < w.heap.size) := by
    intro hne b o hb
    cases hw : c.wins with
    | nil => exact absurd hw hne
    | cons x r =>
      obtain ⟨b', o', hb', hcs⟩ := hrow.out 0 x (by rw [hw]; rfl)
      rw [hb] at hb'
      cases hb'
      exact hcs.lt (by simp [encWin])
  have Hall := hid hall
  obtain ⟨ys, hys⟩ : ∃ ys, spansOf c.wins id = ys := ⟨_, rfl⟩
  rw [hys]
  have Hys := hid hys
  have hwin := hid (fun (W : World) => windowsOf_c W c A id)
  clear hc hall hys
  obtain ⟨a1, k1, a2, k2, a3, k3, a4, k4, a5, k5⟩ := A
  simp only [cfgVal, cfgCells] at hwin hrow hA2 ⊢
  refine (callsIn_wide (n := 9)).1 ?_
  refine callsIn_of_wp_marks Try.func14 rfl trivial ?_ rfl
  simp only [Try.ntmps14, List.size_toArray, List.length_cons, List.length_nil, Nat.reduceAdd, Nat.reduceSub, Array.replicate_succ, Array.replicate_zero, List.push_toArray, List.append_toArray, List.nil_append, List.cons_append]
  gi_wp2_with fail
  refine ⟨trivial, ?_⟩
  refine (callsIn_wide.2 (callsIn_wide.1 (hwin.out _))).mono ?_
  rintro e w' ⟨rfl, rfl⟩
  gi_wp2
  refine wp_cutIn (fun W => Below w.heap.size w W ∧ W.heap.size = w.heap.size + 5 ∧
    W.heap[w.heap.size + 1]? = some (.cells #[.int .u64 0] 22 (0, 0)) ∧ W.heap[w.heap.size + 1 + 1]? = some (.cells #[.func (.func 30) #[] #[.pointer (some ⟨w.heap.size + 1, 0, none⟩)]] 73 (0, 0)) ∧
    W.heap[w.heap.size + 1 + 1 + 1]? = some (.cells (cfgCells c ⟨a1, k1, a2, k2, a3, k3, a4, k4, a5, k5⟩) 29 (0, 0)) ∧ W.heap[w.heap.size + 1 + 1 + 1 + 1]? = some (.cells #[.int .u16 id] 38 (0, 0)))
    ⟨((((below_new _ _).alloc (by simp) _).alloc (by simp; omega) _).alloc (by simp; omega) _).alloc (by simp; omega) _, by simp, by repeat (first | (refine heap_at ?_; simp; done) | refine heap_alloc' ?_ _), by repeat (first | (refine heap_at ?_; simp; done) | refine heap_alloc' ?_ _), by repeat (first | (refine heap_at ?_; simp; done) | refine heap_alloc' ?_ _), by repeat (first | (refine heap_at ?_; simp; done) | refine heap_alloc' ?_ _)⟩ ?_
  rintro w1 ⟨hb1, hs1, hn1, hf1, hcb1, hib1⟩
  have hseq := windows_in 8 w1 (fun b => b = w.heap.size + 1) (w.heap.size + 1 + 1 + 1) (w.heap.size + 1 + 1 + 1 + 1) c ⟨a1, k1, a2, k2, a3, k3, a4, k4, a5, k5⟩ id (by omega) Hall.out hcb1 hib1 (hrow.out.below hb1) (by omega) (by omega) (fun h b o e => by have := hA2.out h b o e; omega)
  rw [Hys.out] at hseq
  refine wpIn_rangeB (α := Int × Int) rfl (by omega) (gf := 48) (lb := #[.pointer (some ⟨w.heap.size + 1 + 1 + 1, 0, none⟩), .pointer (some ⟨w.heap.size + 1 + 1 + 1 + 1, 0, none⟩)]) rfl trivial (enters_of Try.func48 (by kernel_rfl) rfl)
    hseq (fun h k => KpM.trans h k) (fun W o' => KpM.put _ _ W o') (Below.refl _ _) (fun _ => rfl)
    (fun pre W => (W.heap[w.heap.size + 1]? = some (.cells #[.int .u64 (sumW pre)] 22 (0, 0)) ∧ W.heap[w.heap.size + 1 + 1]? = some (.cells #[.func (.func 30) #[] #[.pointer (some ⟨w.heap.size + 1, 0, none⟩)]] 73 (0, 0))) ∧ Below w.heap.size w W)
    (fun _ _ _ => False)
    (OwnFrom.and (fun s A B row hs hg hr => ⟨heap_from hs.1 hg hr, heap_from hs.2 hg hr⟩) (ownFrom_below (Nat.le_refl _) (by omega)))
    (fun _ _ _ _ _ hs _ _ => hs)
    (fun s A B hs hb => ⟨⟨(hb.block _ (by omega)).trans hs.1.1, (hb.block _ (by omega)).trans hs.1.2⟩, hs.2.trans (hb.mono (by omega))⟩)
    (fun c s A B hs hb => hs)
    ⟨⟨hn1, hf1⟩, hb1⟩
    (fun x => { tmps := #[.agg #[.int .u64 c.frame, .slice a1 c.parts.length k1, .slice a2 c.wins.length k2, .slice a3 c.regs.length k3, .slice a4 c.ports.length k4, .slice a5 c.chans.length k5], .int .u16 id, .pointer (some ⟨w.heap.size, 0, none⟩), undef, .int .u64 0, .pointer (some ⟨w.heap.size + 1, 0, none⟩), .pointer (some ⟨w.heap.size + 1 + 1, 0, none⟩), .int .u64 x.1, .int .u64 x.2,
      .func (.func 30) #[] #[.pointer (some ⟨w.heap.size + 1, 0, none⟩)], .agg #[.int .u64 c.frame, .slice a1 c.parts.length k1, .slice a2 c.wins.length k2, .slice a3 c.regs.length k3, .slice a4 c.ports.length k4, .slice a5 c.chans.length k5], .int .u16 id,
      .func (.func 48) #[] #[.pointer (some ⟨w.heap.size + 1 + 1 + 1, 0, none⟩), .pointer (some ⟨w.heap.size + 1 + 1 + 1 + 1, 0, none⟩)], .int .u64 x.1, .int .u64 x.2, undef, undef, undef, undef, undef], defers := [] }) ?assign ?body ?done ?stop
  case assign =>
    intro l x W K hK
    gi_wp2
    exact hK
  case body =>
    rintro l pre x W hlt ⟨⟨h1, h2⟩, hB⟩
    have f0 := cell_of_heap (i := 0) h2 rfl
    clear hb1 hn1 hf1 hcb1 hib1 hseq hwin hrow hA2 Hall
    gi_wp2_with fail
    refine ⟨trivial, ?_⟩
    refine (CallsIn.inRound l (callsIn_wide.2 (add_c W _ _ x.1 x.2 h1))).mono ?_
    rintro e w' ⟨⟨v, rfl⟩, rfl⟩
    gi_wp2
    refine ⟨KeepsOthers.setCell _ _ _, KpM.set (own := fun b => b = w.heap.size + 1) rfl _, ⟨?_, heap_set_ne h2 (by omega) _⟩, hB.setCell (p := ⟨w.heap.size + 1, 0, none⟩) (by show w.heap.size ≤ w.heap.size + 1; omega) _⟩
    rw [sumW_snoc]
    exact heap_set h1 _
  case done =>
    rintro D ys' W hD rfl ⟨⟨h1, h2⟩, hB⟩ hK
    have n0 := cell_of_heap (i := 0) h1 rfl
    clear hb1 hn1 hf1 hcb1 hib1 hseq hwin hrow hA2 Hall
    gi_wp2
    refine ⟨by simp, .inl ⟨_, _, rfl, run_takeDeferred hK, ?_⟩⟩
    exact ⟨_, results_tmp rfl _ _ _, rfl, hB.trans (belowK_b (w := w) (Nat.le_refl _) W D _ _ (by omega) hK rfl rfl)⟩
  case stop =>
    rintro D c pre W hD _ h _
    exact h.elim
end Go.Proofs.Ytmoignbaphddeaa
namespace Go.Proofs.Ytmoignbaphddeaa
open Go.RowKit

theorem wrap_id {x : Int} (h0 : 0 ≤ x) (h1 : x ≤ 18446744073709551615) : IntKind.u64.wrap x = x := by
  simp [IntKind.wrap, IntKind.bits, IntKind.signed]; omega
theorem sumW_exact : ∀ (ys : List (Int × Int)) (s : Int), 0 ≤ s → (∀ y ∈ ys, 0 ≤ y.2 - y.1) → s + (ys.map fun y => y.2 - y.1).sum ≤ 18446744073709551615 →
    ys.foldl (fun s y => IntKind.u64.wrap (s + IntKind.u64.wrap (y.2 - y.1))) s = s + (ys.map fun y => y.2 - y.1).sum
  | [], s, _, _, _ => by simp
  | y :: ys, s, h0, h1, h2 => by
    have hy := h1 y (by simp)
    have hrest : 0 ≤ (ys.map fun y => y.2 - y.1).sum := by
      have : ∀ l : List (Int × Int), (∀ y ∈ l, 0 ≤ y.2 - y.1) → 0 ≤ (l.map fun y => y.2 - y.1).sum := by
        intro l
        induction l with
        | nil => intro _; simp
        | cons z l ih => intro h; rw [List.map_cons, List.sum_cons]; have := h z (by simp); have := ih (fun y hy => h y (List.mem_cons_of_mem _ hy)); omega
      exact this ys (fun z hz => h1 z (List.mem_cons_of_mem _ hz))
    rw [List.map_cons, List.sum_cons] at h2 ⊢
    rw [List.foldl_cons, wrap_id hy (by omega), wrap_id (x := s + (y.2 - y.1)) (by omega) (by omega), sumW_exact ys _ (by omega) (fun z hz => h1 z (List.mem_cons_of_mem _ hz)) (by omega)]
    omega
theorem spans_sum {F : Int} {id : Int} : ∀ {l : List Win}, (∀ x ∈ l, 0 ≤ x.start ∧ 0 < x.len ∧ x.start + x.len ≤ F) → ((spansOf l id).map fun y => y.2 - y.1).sum = usedP l id 0 F
  | [], _ => rfl
  | x :: l, h => by
    have hx := h x (by simp)
    have ih := spans_sum (F := F) (id := id) (l := l) (fun z hz => h z (List.mem_cons_of_mem _ hz))
    rw [usedP_cons, ← ih]
    unfold term
    by_cases hp : x.part = id
    · rw [spansOf_yes hp, if_pos hp, List.map_cons, List.sum_cons]
      unfold ovl
      split <;> simp only <;> omega
    · rw [spansOf_no hp, if_neg hp]; omega
theorem RightW.busy {c : Cfg} (h : RightW c) (hok : U64 c.frame) (id : Int) : sumW (spansOf c.wins id) = usedP c.wins id 0 c.frame := by
  have h1 := spans_sum (id := id) h.apart.each
  have h2 := h.apart.used_le id (Int.le_refl 0) (Int.le_of_lt h.pos)
  unfold U64 at hok
  unfold sumW
  rw [sumW_exact _ 0 (Int.le_refl _) ?_ (by rw [h1]; omega), h1]
  · omega
  · intro y hy
    obtain ⟨x, hx, rfl⟩ := List.mem_map.1 hy
    have := h.apart.each x (List.mem_filter.1 hx).1
    simp only
    omega

theorem busy_c (w : World) (c : Cfg) (A : Adr) (hc : CfgAt w c A) (hR : RightW c) (id : Int) :
    Calls Try.prog 14 #[cfgVal c A, .int .u16 id] w fun e w' => e = .returned (.int .u64 (usedP c.wins id 0 c.frame)) ∧ Below w.heap.size w w' := by
  have hok := hc.ok.frame
  have := busyW_c w c A hc id (fun x hx => by have := hR.apart.each x hx; unfold U64 at hok; omega)
  rwa [hR.busy hok id] at this
theorem refBusy_c (w : World) (c : Cfg) (A : Adr) (hc : CfgAt w c A) (hR : RightW c) (id : Int) (hid' : U16 id) :
    Calls Try.prog 15 #[cfgVal c A, .int .u16 id] w fun e w' => e = .returned (.int .u64 (usedP c.wins id 0 c.frame)) ∧ Below w.heap.size w w' := by
  have hok := hc.ok.frame
  unfold U64 at hok
  have hcall := hid (refUsed_c (w.alloc (.cells (cfgCells c A) 29)) c A (hc.below (below_new _ _)) hR.apart id 0 c.frame hid' (Int.le_refl _) (Int.le_of_lt hR.pos) hok.2)
  obtain ⟨a1, k1, a2, k2, a3, k3, a4, k4, a5, k5⟩ := A
  simp only [cfgVal, cfgCells] at hcall ⊢
  clear hc
  go_enter Try.func15, Try.ntmps15
  go_wp2_with fail
  refine hcall.out.mono ?_
  rintro e w2 ⟨rfl, hb2⟩
  have hbf := bthen (below_new w _) hb2
  clear hb2 hcall
  go_wp2
  go_ret
  exact ⟨rfl, hbf⟩

theorem term_add {id a b c : Int} {x : Win} (hl : 0 < x.len) (h1 : a ≤ b) (h2 : b ≤ c) : term id a b x + term id b c x = term id a c x := by
  unfold term
  split
  · unfold ovl
    split <;> split <;> split <;> omega
  · rfl
theorem usedP_add {ws : List Win} {id a b c : Int} (hl : ∀ x ∈ ws, 0 < x.len) (h1 : a ≤ b) (h2 : b ≤ c) : usedP ws id a b + usedP ws id b c = usedP ws id a c := by
  induction ws with
  | nil => rfl
  | cons x ws ih =>
    have := ih (fun y hy => hl y (List.mem_cons_of_mem _ hy))
    have h3 := term_add (id := id) (hl x (by simp)) h1 h2
    rw [usedP_cons, usedP_cons, usedP_cons]
    omega
end Go.Proofs.Ytmoignbaphddeaa
namespace Go.Proofs.Ytmoignbaphddeaa
open Go.RowKit

/-- what is wrong with a window: 19, 20, or 0 -/
def winE (c : Cfg) (x : Win) : Int := if ixOf (c.parts.map (·.id)) x.part < 0 then 19 else if x.len = 0 ∨ c.frame < x.len ∨ c.frame - x.len < x.start then 20 else 0
/-- the fault of a configuration's windows -/
inductive FaultW (c : Cfg) : Int × Int × Int → Prop
  | zero (h : c.frame = 0) : FaultW c (17, 0, 0)
  | win (k : Nat) (hk : k < c.wins.length) (hf : 0 < c.frame) (h1 : ∀ j (_ : j < k), winE c c.wins[j] = 0) (h2 : winE c c.wins[k] ≠ 0) : FaultW c (winE c c.wins[k], 2, (k : Int))
  | over (q : Nat) (hq : q < c.wins.length) (hf : 0 < c.frame) (h1 : ∀ x ∈ c.wins, winE c x = 0) (h2 : ∀ j, j < q → ∀ i, i < j → ∀ (hi : i < c.wins.length) (hj : j < c.wins.length), Free c.wins[i] c.wins[j])
      (h3 : ∃ i, i < q ∧ ∃ (hi : i < c.wins.length), ¬ Free c.wins[i] c.wins[q]) : FaultW c (21, 2, (q : Int))
  | ok (hf : 0 < c.frame) (h1 : ∀ x ∈ c.wins, winE c x = 0) (h2 : ∀ j (hj : j < c.wins.length) i (_ : i < j), Free c.wins[i] c.wins[j]) : FaultW c (0, 0, 0)

theorem winE_len {c : Cfg} {x : Win} (h : winE c x = 0) (hx : x.ok) : 0 < x.len ∧ x.start + x.len ≤ c.frame := by
  obtain ⟨h1, h2, h3⟩ := hx
  unfold U64 at h1 h2
  unfold winE at h
  by_cases h4 : ixOf (c.parts.map (·.id)) x.part < 0
  · rw [if_pos h4] at h; omega
  · rw [if_neg h4] at h
    by_cases h5 : x.len = 0 ∨ c.frame < x.len ∨ c.frame - x.len < x.start
    · rw [if_pos h5] at h; omega
    · omega
theorem meets_not {x y : Win} (h : meets x y = true) (hx : 0 < x.len) (hy : 0 < y.len) : ¬ Free x y := by
  unfold meets at h
  unfold Free
  simp only [Bool.or_eq_true, decide_eq_true_eq] at h
  omega

theorem FaultW.uniq {c : Cfg} {f g : Int × Int × Int} (h : FaultW c f) (k : FaultW c g) : f = g := by
  cases h with
  | zero h =>
    cases k with
    | zero => rfl
    | win _ _ hf => omega
    | over _ _ hf => omega
    | ok hf => omega
  | win i hi hf h1 h2 =>
    cases k with
    | zero h => omega
    | win j hj hf' k1 k2 =>
      rcases Nat.lt_trichotomy i j with h | rfl | h
      · exact absurd (k1 i h) h2
      · rfl
      · exact absurd (h1 j h) k2
    | over q hq hf' k1 => exact absurd (k1 _ (List.getElem_mem hi)) h2
    | ok hf' k1 => exact absurd (k1 _ (List.getElem_mem hi)) h2
  | over q hq hf h1 h2 h3 =>
    cases k with
    | zero h => omega
    | win j hj hf' k1 k2 => exact absurd (h1 _ (List.getElem_mem hj)) k2
    | over p hp hf' k1 k2 k3 =>
      rcases Nat.lt_trichotomy q p with h | rfl | h
      · obtain ⟨i, hi, hil, hn⟩ := h3
        exact absurd (k2 q h i hi hil hq) hn
      · rfl
      · obtain ⟨i, hi, hil, hn⟩ := k3
        exact absurd (h2 p h i hi hil hp) hn
    | ok hf' k1 k2 =>
      obtain ⟨i, hi, hil, hn⟩ := h3
      exact absurd (k2 q hq i hi) hn
  | ok hf h1 h2 =>
    cases k with
    | zero h => omega
    | win j hj hf' k1 k2 => exact absurd (h1 _ (List.getElem_mem hj)) k2
    | over q hq hf' k1 k2 k3 =>
      obtain ⟨i, hi, hil, hn⟩ := k3
      exact absurd (h2 q hq i hi) hn
    | ok => rfl
theorem winE_cases (c : Cfg) (x : Win) : winE c x = 19 ∨ winE c x = 20 ∨ winE c x = 0 := by
  unfold winE; split
  · exact .inl rfl
  · split
    · exact .inr (.inl rfl)
    · exact .inr (.inr rfl)
/-- all is right -/
structure RightF (c : Cfg) : Prop where
  pos : 0 < c.frame
  each : ∀ x ∈ c.wins, winE c x = 0
  free : c.wins.Pairwise Free
theorem FaultW.zero_iff {c : Cfg} {f : Int × Int × Int} (h : FaultW c f) : f.1 = 0 ↔ RightF c := by
  cases h with
  | zero h => exact ⟨fun h' => by simp at h', fun h' => by have := h'.pos; omega⟩
  | win k hk hf h1 h2 => exact ⟨fun h' => absurd h' h2, fun h' => absurd (h'.each _ (List.getElem_mem hk)) h2⟩
  | over q hq hf h1 h2 h3 =>
    refine ⟨fun h' => by simp at h', fun h' => ?_⟩
    obtain ⟨i, hi, hil, hn⟩ := h3
    exact absurd (List.pairwise_iff_getElem.1 h'.free i q hil hq hi) hn
  | ok hf h1 h2 => exact ⟨fun _ => ⟨hf, h1, List.pairwise_iff_getElem.2 fun i j hi hj hij => h2 j hj i hij⟩, fun _ => rfl⟩
theorem FaultW.zero_eq {c : Cfg} {f : Int × Int × Int} (h : FaultW c f) (h0 : f.1 = 0) : f = (0, 0, 0) := by
  cases h with
  | zero h => simp at h0
  | win k hk hf h1 h2 => exact absurd h0 h2
  | over q hq hf h1 h2 h3 => simp at h0
  | ok => rfl
theorem RightF.right {c : Cfg} (h : RightF c) (hok : ∀ x ∈ c.wins, x.ok) : RightW c :=
  ⟨h.pos, ⟨fun x hx => by
    have h1 := winE_len (h.each x hx) (hok x hx)
    have h2 := (hok x hx).1
    unfold U64 at h2
    omega, h.free⟩⟩

set_option maxHeartbeats 4000000 in
theorem refCheck15_c (w : World) (c : Cfg) (A : Adr) (hc : CfgAt w c A) :
    Calls Try.prog 9 #[cfgVal c A] w fun e w' => ∃ f : Int × Int × Int, FaultW c f ∧ e = .returned (.tuple #[.int .i64 f.1, .int .i64 f.2.1, .int .i64 f.2.2]) ∧ Below w.heap.size w w' := by
  obtain ⟨a1, k1, a2, k2, a3, k3, a4, k4, a5, k5⟩ := A
  have hn := hc.ok.nwins
  have hokw := hid hc.ok.wins
  have hfr := hc.ok.frame
  unfold U64 at hfr
  simp only [cfgVal, cfgCells]
  by_cases hz : c.frame = 0
  · have hzb : (c.frame == 0) = true := by simp [hz]
    have hfz := hid (FaultW.zero (c := c) hz)
    clear hc hz
    go_enter Try.func9, Try.ntmps9
    go_wp2
    go_ret3
    exact ⟨_, hfz.out, rfl, below_new _ _⟩
  have hzb : (c.frame == 0) = false := by simp [hz]
  have hpos : 0 < c.frame := by omega
  clear hz
  go_enter Try.func9, Try.ntmps9
  go_wp2
  refine wp_name (fun W => Below w.heap.size w W ∧ W.heap[w.heap.size]? = some (.cells (cfgCells c ⟨a1, k1, a2, k2, a3, k3, a4, k4, a5, k5⟩) 29 (0, 0))) ⟨below_new _ _, heap_new _ _⟩ ?_
  rintro w1 ⟨hb1, hbox⟩
  have hc1 := hid (hc.below hb1)
  have Hbox := hid hbox
  have Hb1 := hid hb1
  have hw1 : w.heap.size < w1.heap.size := lt_of_block hbox
  clear hc hbox hb1
  go_loopw [5] (fun i wr => ∃ k : Nat, k ≤ c.wins.length ∧ i = .int .i64 k ∧ Hid (∀ j, j < k → ∀ (hj : j < c.wins.length), winE c c.wins[j] = 0) ∧ Below w1.heap.size w1 wr) (fun i _ => c.wins.length - (intOf i).toNat)
  case atStart => exact ⟨0, Nat.zero_le _, rfl, fun j hj => by omega, Below.refl _ _⟩
  case round =>
    obtain ⟨k, hkn, rfl, Hk, hbr⟩ := hrel
    obtain ⟨z0, z1, z2, z3, z4, z5⟩ := box_cfg (heap_keep Hbox.out hbr)
    simp only at z0 z1 z2 z3 z4 z5
    have hwr : w.heap.size < wr.heap.size := by have := hbr.size; omega
    by_cases hlt : k < c.wins.length
    · obtain ⟨b, o, ha, hb0, h0, h1, h2⟩ := (hc1.out.below hbr).wins.win hlt
      simp only at ha
      subst ha
      have hcr := hid (hc1.out.below hbr)
      obtain ⟨x, hx⟩ : ∃ x, c.wins[k] = x := ⟨_, rfl⟩
      rw [hx] at h0 h1 h2
      have Hx := hid hx
      have hok := hokw.out x (by rw [← hx]; exact List.getElem_mem hlt)
      obtain ⟨u0, u1, u2⟩ := hok
      unfold U64 at u0 u1
      clear hx
      go_wp2_with fail
      refine (refPartition_c _ c ⟨a1, k1, some ⟨b, o, none⟩, k2, a3, k3, a4, k4, a5, k5⟩ (hcr.out.below (below_new _ _)) x.part).mono ?_
      rintro e w6 ⟨rfl, hb6⟩
      have hbf := bthen hbr (bthen (below_new _ _) hb6)
      have hxb := heap_keep (heap_new wr (.cells #[.int .u64 x.start, .int .u64 x.len, .int .u16 x.part] 45)) hb6
      have x0 := cell_of_heap (i := 0) hxb rfl
      have x1 := cell_of_heap (i := 1) hxb rfl
      obtain ⟨z0', z1', z2', z3', z4', z5'⟩ := box_cfg (heap_keep Hbox.out hbf)
      simp only at z0' z1' z2' z3' z4' z5'
      obtain ⟨ix, hix⟩ : ∃ ix, ixOf (c.parts.map (·.id)) x.part = ix := ⟨_, rfl⟩
      have hwe : winE c x = if ix < 0 then 19 else if x.len = 0 ∨ c.frame < x.len ∨ c.frame - x.len < x.start then 20 else 0 := by unfold winE; rw [hix]
      have hft : Hid (winE c x ≠ 0 → FaultW c (winE c x, 2, k)) := by
        intro hne
        have := FaultW.win (c := c) k hlt hpos (fun j hj => Hk.out j hj (by omega)) (by rw [Hx.out]; exact hne)
        rw [Hx.out] at this
        exact this
      rw [hix]
      have hbw := hid (bthen Hb1.out hbf)
      clear hb6 hxb hix z0 z1 z2 z3 z4 z5 h0 h1 h2
      by_cases hneg : ix < 0
      · rw [if_pos hneg] at hwe
        rw [hwe] at hft
        have hft2 := hid (hft.out (by decide))
        clear hwe hft
        go_wp2
        go_ret3
        exact ⟨_, hft2.out, rfl, hbw.out⟩
      rw [if_neg hneg] at hwe
      by_cases hbad : x.len = 0 ∨ c.frame < x.len ∨ c.frame - x.len < x.start
      · rw [if_pos hbad] at hwe
        rw [hwe] at hft
        have hft2 := hid (hft.out (by decide))
        clear hwe hft
        by_cases hl0 : x.len = 0
        · have hl0b : (x.len == 0) = true := by simp [hl0]
          clear hl0 hbad
          go_wp2
          go_ret3
          exact ⟨_, hft2.out, rfl, hbw.out⟩
        · have hl0b : (x.len == 0) = false := by simp [hl0]
          by_cases hl1 : c.frame < x.len
          · clear hbad
            go_wp2
            go_ret3
            exact ⟨_, hft2.out, rfl, hbw.out⟩
          · have hl2 : c.frame - x.len < x.start := by omega
            clear hbad
            go_wp2
            go_ret3
            exact ⟨_, hft2.out, rfl, hbw.out⟩
      · rw [if_neg hbad] at hwe
        have hnext : Hid (∀ j, j < k + 1 → ∀ (hj : j < c.wins.length), winE c c.wins[j] = 0) := by
          intro j hj hjl
          rcases Nat.lt_succ_iff_lt_or_eq.1 hj with h | rfl
          · exact Hk.out j h hjl
          · rw [Hx.out]; exact hwe
        have hl0b : (x.len == 0) = false := by simp; omega
        have hl1 : ¬ c.frame < x.len := by omega
        have hl2 : ¬ c.frame - x.len < x.start := by omega
        have hl3 : 0 < x.len := by omega
        clear hbad hft hwe
        go_wp2
        go_roundw
        case rel => exact ⟨k + 1, by omega, by go_num, hnext, hbf⟩
        case measure => simp [intOf]; omega
    · have Hall := hid (fun j (hj : j < c.wins.length) => winE_len (Hk.out j (by omega) hj) (hokw.out _ (List.getElem_mem hj)))
      have HallE : Hid (∀ x ∈ c.wins, winE c x = 0) := by
        intro x hx
        obtain ⟨j, hj, rfl⟩ := List.getElem_of_mem hx
        exact Hk.out j (by omega) hj
      clear Hk
      go_wp2
      obtain ⟨wt, rfl⟩ : ∃ wt : World, wt = wr := ⟨_, rfl⟩
      go_loopw [7] (fun i wr => ∃ q : Nat, q ≤ c.wins.length ∧ i = .int .i64 q ∧ Hid (∀ j, j < q → ∀ i, i < j → ∀ (hi : i < c.wins.length) (hj : j < c.wins.length), Free c.wins[i] c.wins[j]) ∧ Below w1.heap.size w1 wr) (fun i _ => c.wins.length - (intOf i).toNat)
      case atStart => exact ⟨0, Nat.zero_le _, rfl, fun j hj => by omega, hbr⟩
      case round =>
        obtain ⟨q, hqn, rfl, Hq, hbr2⟩ := hrel
        obtain ⟨z0, z1, z2, z3, z4, z5⟩ := box_cfg (heap_keep Hbox.out hbr2)
        simp only at z0 z1 z2 z3 z4 z5
        by_cases hq : q < c.wins.length
        · go_wp2
          clear z0 z1 z2 z3 z4 z5
          obtain ⟨wt2, rfl⟩ : ∃ wt : World, wt = wr := ⟨_, rfl⟩
          go_loopw [8] (fun i wr => ∃ r : Nat, r ≤ q ∧ i = .int .i64 r ∧ Hid (∀ i, i < r → ∀ (hi : i < c.wins.length), Free c.wins[i] c.wins[q]) ∧ Below w1.heap.size w1 wr) (fun i _ => q - (intOf i).toNat)
          case atStart => exact ⟨0, Nat.zero_le _, rfl, fun i hi => by omega, hbr2⟩
          case round =>
            obtain ⟨r, hrq, rfl, Hr, hbr3⟩ := hrel
            by_cases hr : r < q
            · have hrn : r < c.wins.length := by omega
              obtain ⟨b, o, ha, hb0, h0, h1, h2⟩ := (hc1.out.below hbr3).wins.win hrn
              simp only at ha
              subst ha
              obtain ⟨b', o', ha', hb0', g0, g1, g2⟩ := (hc1.out.below hbr3).wins.win hq
              simp only [Option.some.injEq, Addr.mk.injEq, and_true] at ha'
              obtain ⟨rfl, rfl⟩ := ha'
              obtain ⟨x, hx⟩ : ∃ x, c.wins[r] = x := ⟨_, rfl⟩
              obtain ⟨y, hy⟩ : ∃ y, c.wins[q] = y := ⟨_, rfl⟩
              rw [hx] at h0 h1 h2
              rw [hy] at g0 g1 g2
              have okx := hokw.out x (by rw [← hx]; exact List.getElem_mem hrn)
              have oky := hokw.out y (by rw [← hy]; exact List.getElem_mem hq)
              have fx := Hall.out r hrn
              have fy := Hall.out q hq
              rw [hx] at fx
              rw [hy] at fy
              obtain ⟨u0, -, -⟩ := okx
              obtain ⟨v0, -, -⟩ := oky
              unfold U64 at u0 v0
              have Hx := hid hx
              have Hy := hid hy
              obtain ⟨t0, t1, t2, t3, t4, t5⟩ := box_later (heap_keep Hbox.out hbr3)
              have m0 : ∀ W, Below wr.heap.size wr W → W.cell? ⟨b, o + r * 3, none⟩ = some (.int .u64 x.start) := fun W hW => cell_below hW h0
              have m1 : ∀ W, Below wr.heap.size wr W → W.cell? ⟨b, o + r * 3 + 1, none⟩ = some (.int .u64 x.len) := fun W hW => cell_below hW h1
              have m2 : ∀ W, Below wr.heap.size wr W → W.cell? ⟨b, o + r * 3 + 2, none⟩ = some (.int .u16 x.part) := fun W hW => cell_below hW h2
              have n0 : ∀ W, Below wr.heap.size wr W → W.cell? ⟨b, o + q * 3, none⟩ = some (.int .u64 y.start) := fun W hW => cell_below hW g0
              have n1 : ∀ W, Below wr.heap.size wr W → W.cell? ⟨b, o + q * 3 + 1, none⟩ = some (.int .u64 y.len) := fun W hW => cell_below hW g1
              have n2 : ∀ W, Below wr.heap.size wr W → W.cell? ⟨b, o + q * 3 + 2, none⟩ = some (.int .u16 y.part) := fun W hW => cell_below hW g2
              clear hx hy h0 h1 h2 g0 g1 g2
              go_wp2_with fail
              go_region_held3 (fun W => Below wr.heap.size wr W) (first | assumption | exact (Below.refl _ _).drew) (first
                | (go_at_call 23; (with_reducible refine (span_c _ _).mono ?_); rintro e w6 ⟨rfl, hb6⟩; have hS := bthen (w := wr) (by assumption) hb6)
                | (go_at_call 23; refine (span_c _ x).mono ?_; rintro e w6 ⟨rfl, hb6⟩; have hS := bthen (w := wr) (by assumption) hb6)
                | (go_at_call 23; refine (span_c _ y).mono ?_; rintro e w6 ⟨rfl, hb6⟩; have hS := bthen (w := wr) (by assumption) hb6)
                | (go_at_call 22; refine (meet_c _ x y u0.1 fx.1 (by omega) v0.1 fy.1 (by omega)).mono ?_; rintro e w6 ⟨rfl, hb6⟩; have hS := bthen (w := wr) (by assumption) hb6))
              have hbf := bthen hbr3 hS
              have hbw := hid (bthen Hb1.out hbf)
              clear hS hb6 t0 t1 t2 t3 t4 t5 m0 m1 m2 n0 n1 n2
              cases hm : meets x y
              · have hnext : Hid (∀ i, i < r + 1 → ∀ (hi : i < c.wins.length), Free c.wins[i] c.wins[q]) := by
                  intro i hi hil
                  rcases Nat.lt_succ_iff_lt_or_eq.1 hi with h | rfl
                  · exact Hr.out i h hil
                  · rw [Hx.out, Hy.out]; exact meets_free hm
                clear hm
                go_wp2
                go_roundw
                case rel => exact ⟨r + 1, by omega, by go_num, hnext, hbf⟩
                case measure => simp [intOf]; omega
              · have hft := hid (FaultW.over (c := c) q hq hpos HallE.out Hq.out ⟨r, hr, hrn, by rw [Hx.out, Hy.out]; exact meets_not hm fx.1 fy.1⟩)
                clear hm
                go_wp2
                go_ret3
                exact ⟨_, hft.out, rfl, hbw.out⟩
            · have hnext : Hid (∀ j, j < q + 1 → ∀ i, i < j → ∀ (hi : i < c.wins.length) (hj : j < c.wins.length), Free c.wins[i] c.wins[j]) := by
                intro j hj i hi hil hjl
                rcases Nat.lt_succ_iff_lt_or_eq.1 hj with h | rfl
                · exact Hq.out j h i hi hil hjl
                · exact Hr.out i (by omega) hil
              go_wp2
              go_roundw
              case rel => exact ⟨q + 1, by omega, by go_num, hnext, hbr3⟩
              case measure => simp [intOf]; omega
        · have hft := hid (FaultW.ok (c := c) hpos HallE.out (fun j hj i hij => Hq.out j (by omega) i hij (by omega) hj))
          have hbw := hid (bthen Hb1.out hbr2)
          go_wp2
          go_ret3
          exact ⟨_, hft.out, rfl, hbw.out⟩
end Go.Proofs.Ytmoignbaphddeaa
namespace Go.Proofs.Ytmoignbaphddeaa
open Go.RowKit

theorem info_part : (Try.prog.info? 47).map (fun i => (i.zero, i.size, i.bytes)) = some (some (.agg #[.int .u16 0, .string ByteArray.empty, .int .u64 0, .int .u64 0]), 4, 40) := by kernel_rfl
theorem info_win : (Try.prog.info? 45).map (fun i => (i.zero, i.size, i.bytes)) = some (some (.agg #[.int .u64 0, .int .u64 0, .int .u16 0]), 3, 24) := by kernel_rfl
theorem info_reg : (Try.prog.info? 179).map (fun i => (i.zero, i.size, i.bytes)) = some (some (.agg #[.int .u64 0, .int .u64 0, .int .u16 0, .int .u8 0, .bool false]), 5, 24) := by kernel_rfl
theorem info_prt : (Try.prog.info? 55).map (fun i => (i.zero, i.size, i.bytes)) = some (some (.agg #[.int .u16 0, .int .u16 0, .string ByteArray.empty, .bool false, .bool false, .int .u32 0]), 6, 32) := by kernel_rfl
theorem info_chn : (Try.prog.info? 79).map (fun i => (i.zero, i.size, i.bytes)) = some (some (.agg #[.int .u16 0, .int .u16 0, .slice none 0 0]), 3, 32) := by kernel_rfl

/-- append of nothing -/
theorem run_append_nil {P : Program} {w : World} {base : Nat} {size : Nat} (t ty e : TypeId) (i : TypeInfo) (ht : P.underlying t = some (.slice e)) (hi : P.info? e = some i)
    (v : Value) (n c : Nat) (xs : List Value) (hown : w.ownsRow base e size v n xs) :
    (Builtin.append_ #[t, t] ty #[v, .slice none 0 c]).run P w = .ok v w := by
  rcases hown.2 with ⟨rfl, rfl⟩ | ⟨g, cap, cur, rfl, _, _, hnc, _⟩
  · simp [Builtin.append_, run_underlying ht, sizeOf, typeInfo, hi, Builtin.lenOf, Builtin.firstCells]
  · simp [Builtin.append_, run_underlying ht, sizeOf, typeInfo, hi, Builtin.lenOf, Builtin.firstCells, hnc, storeCells]

theorem addr_add' (b o n : Nat) : (⟨b, o, none⟩ : Addr).add n = ⟨b, o + n, none⟩ := by
  unfold Addr.add
  split
  · rename_i h; rw [h]; rfl
  · rfl

/-- these cells lie behind that slice -/
def SrcAt (w : World) (ad : Option Addr) (news : List Value) : Prop := ∀ j u, news[j]? = some u → ∃ b o, ad = some ⟨b, o, none⟩ ∧ w.cell? ⟨b, o + j, none⟩ = some u

theorem flatMap_inv {α β : Type} {enc : α → List β} {sz : Nat} {l : List α} (henc : ∀ x, (enc x).length = sz) {j : Nat} {u : β} (h : (l.flatMap enc)[j]? = some u) :
    ∃ k x r, l[k]? = some x ∧ (enc x)[r]? = some u ∧ j = k * sz + r := by
  induction l generalizing j with
  | nil => simp at h
  | cons y l ih =>
    rw [List.flatMap_cons] at h
    by_cases hj : j < sz
    · rw [List.getElem?_append_left (by rw [henc]; exact hj)] at h
      exact ⟨0, y, j, rfl, h, by omega⟩
    · rw [List.getElem?_append_right (by rw [henc]; omega), henc] at h
      obtain ⟨k, x, r, h1, h2, h3⟩ := ih h
      exact ⟨k + 1, x, r, by simpa using h1, h2, by rw [Nat.add_mul]; omega⟩

theorem flat_len {α β : Type} {enc : α → List β} {sz : Nat} (henc : ∀ x, (enc x).length = sz) : ∀ l : List α, (l.flatMap enc).length = l.length * sz
  | [] => by simp
  | x :: l => by rw [List.flatMap_cons, List.length_append, henc, flat_len henc l, List.length_cons, Nat.add_mul]; omega

theorem RowAt.src {α : Type} {sz : Nat} {enc : α → List Value} {w : World} {a : Option Addr} {l : List α} (h : RowAt sz enc w a l) (henc : ∀ x, (enc x).length = sz) : SrcAt w a (l.flatMap enc) := by
  intro j u hj
  obtain ⟨k, x, r, h1, h2, rfl⟩ := flatMap_inv henc hj
  obtain ⟨b, o, ha, hc⟩ := h k x h1
  exact ⟨b, o, ha, by rw [← Nat.add_assoc]; exact hc r u h2⟩

/-- append of a slice that lies anywhere to a row of the call's own -/
theorem wp_append_src {P : Program} {ops : Array Oper} {rest : List Oper} {o : Oper} {a : Act} {Q : Exit → Act → World → Prop} (hgd : o.guard = none) (s x : Operand) (t e : TypeId)
    (ho : o.op = .call { callee := .builtin .append, args := #[s, x], argTypes := #[t, t] })
    {z : Value} {size bytes : Nat} (ht : P.underlying t = some (.slice e)) (hinfo : (P.info? e).map (fun i => (i.zero, i.size, i.bytes)) = some (some z, size, bytes)) (hzs : z.cells.size = size) (hsz : 0 < size)
    (w : World) (base : Nat) (v : Value) (n : Nat) (xs news : List Value) (ad : Option Addr) (m c : Nat) (hs : a.eval s = v) (hx : a.eval x = .slice ad m c) (hown : w.ownsRow base e size v n xs)
    (hsrc : SrcAt w ad news) (hl : news.length = m * size) (h1 : ∀ u ∈ news, u.oneCell' = true) (hb : (n + m) * bytes ≤ 140737488355328) (hn : n + m ≤ 9223372036854775807) (hbase : base ≤ w.heap.size)
    (h : ∀ v' w', w'.ownsRow base e size v' (n + m) (xs ++ news) → w.grownBy w' v.ownBlock → wpList P ops Q rest (a.put o.dst v') w') :
    wpList P ops Q (o :: rest) a w := by
  obtain ⟨i, hi, h2, h3, h4⟩ := info_parts hinfo
  cases ad with
  | none =>
    have hnil : news = [] := by
      cases news with
      | nil => rfl
      | cons u r => obtain ⟨b, o, hb', _⟩ := hsrc 0 u rfl; cases hb'
    subst hnil
    have hm : m = 0 := by
      rcases Nat.eq_zero_or_pos m with h0 | h0
      · exact h0
      · have := Nat.mul_pos h0 hsz
        simp at hl
        omega
    subst hm
    refine wpList_plain hgd fun K hK => ?_
    have hrun := run_append_nil (P := P) (w := w) t o.type e i ht hi v n c xs hown
    have hgo := h v w (by simpa using hown) (grefl w _)
    unfold Oper.wp
    simp [execOp, ho, resolve, invoke, builtin, hs, hx, hrun, Result.andThen]
    exact hK _ _ hgo
  | some ad =>
    refine wpList_append_own _ hgd s x t ho base e i z size bytes ht hi h2 h3 h4 hzs hsz v n xs hs hown ad m c news hx hl ?_ h1 (by unfold maxLen; omega) hb hbase ?_
    · intro j u hj
      obtain ⟨b, o', he, hc⟩ := hsrc j u hj
      cases he
      rw [addr_add']
      exact hc
    · intro v' w' g1 g2 g3
      exact h v' w' g1 g2

/-! ### what is kept: blocks told apart by their element types -/
/-- the blocks of this element type are as they were -/
def KeptE (e : TypeId) (w w' : World) : Prop := ∀ (g : Nat) (cur : Array Value) (f : Nat × Nat), w.heap[g]? = some (.cells cur e f) → w'.heap[g]? = some (.cells cur e f)
theorem KeptE.below {e : TypeId} {w w' : World} (hb : Below w.heap.size w w') : KeptE e w w' := fun _ _ _ h => heap_keep h hb
theorem KeptE.trans {e : TypeId} {w w1 w2 : World} (h : KeptE e w w1) (k : KeptE e w1 w2) : KeptE e w w2 := fun g cur f hg => k g cur f (h g cur f hg)
theorem KeptE.grown {e e' : TypeId} {w w' : World} {base size n : Nat} {v : Value} {xs : List Value} (hown : w.ownsRow base e' size v n xs) (hg : w.grownBy w' v.ownBlock) (hne : e ≠ e') : KeptE e w w' := by
  intro g cur f hh
  rw [hg.block g (lt_of_block hh) ?_]
  · exact hh
  · intro heq
    rcases hown.2 with ⟨rfl, _⟩ | ⟨g', cap, cur', rfl, _, hh', _⟩
    · cases heq
    · simp only [Value.ownBlock, Option.some.injEq] at heq
      subst heq
      rw [hh] at hh'
      cases hh'
      exact hne rfl
theorem KeptE.set {e e' : TypeId} {w : World} {b i : Nat} {cur : Array Value} {f : Nat × Nat} (h : w.heap[b]? = some (.cells cur e' f)) (hne : e ≠ e') (v : Value) : KeptE e w (w.setCell ⟨b, i, none⟩ v) := by
  intro g cur' f' hh
  have : g ≠ b := by
    rintro rfl
    rw [h] at hh
    cases hh
    exact hne rfl
  exact heap_set_ne hh this v
theorem own_kept {w w' : World} {base : Nat} {e : TypeId} {size n : Nat} {v : Value} {xs : List Value} (h : w.ownsRow base e size v n xs) (hk : KeptE e w w') : w'.ownsRow base e size v n xs := by
  obtain ⟨hl, h | ⟨g, cap, cur, hv, h1, h2, h3, h4, h5, h6⟩⟩ := h
  · exact ⟨hl, .inl h⟩
  · exact ⟨hl, .inr ⟨g, cap, cur, hv, h1, hk _ _ _ h2, h3, h4, h5, h6⟩⟩
theorem own_base {w : World} {base base' : Nat} {e : TypeId} {size n : Nat} {v : Value} {xs : List Value} (h : w.ownsRow base e size v n xs) (hb : base' ≤ base) : w.ownsRow base' e size v n xs := by
  obtain ⟨hl, h | ⟨g, cap, cur, hv, h1, h2⟩⟩ := h
  · exact ⟨hl, .inl h⟩
  · exact ⟨hl, .inr ⟨g, cap, cur, hv, Nat.le_trans hb h1, h2⟩⟩

/-- the cells of a row of channels, their destinations in rows of the call's own -/
def ChnRow (w : World) (base : Nat) : List Chn → List Value → Prop
  | [], xs => xs = []
  | x :: l, xs => ∃ d cap r, xs = .int .u16 x.id :: .int .u16 x.src :: .slice d x.dests.length cap :: r ∧ w.ownsRow base 38 1 (.slice d x.dests.length cap) x.dests.length (x.dests.flatMap fun n => [.int .u16 n]) ∧ ChnRow w base l r

theorem ChnRow.kept {w w' : World} {base : Nat} (hk : KeptE 38 w w') : ∀ {l : List Chn} {xs : List Value}, ChnRow w base l xs → ChnRow w' base l xs
  | [], _, h => h
  | _ :: _, _, ⟨d, cap, r, hx, ho, hr⟩ => ⟨d, cap, r, hx, own_kept ho hk, ChnRow.kept hk hr⟩
theorem ChnRow.snoc {w : World} {base : Nat} {x : Chn} {d : Option Addr} {cap : Nat} (ho : w.ownsRow base 38 1 (.slice d x.dests.length cap) x.dests.length (x.dests.flatMap fun n => [.int .u16 n])) :
    ∀ {l : List Chn} {xs : List Value}, ChnRow w base l xs → ChnRow w base (l ++ [x]) (xs ++ [.int .u16 x.id, .int .u16 x.src, .slice d x.dests.length cap])
  | [], xs, h => by
    have : xs = [] := h
    subst this
    exact ⟨d, cap, [], rfl, ho, rfl⟩
  | _ :: _, _, ⟨d', cap', r, hx, ho', hr⟩ => ⟨d', cap', _, by rw [hx]; rfl, ho', ChnRow.snoc ho hr⟩
theorem ChnRow.get {w : World} {base : Nat} : ∀ {l : List Chn} {xs : List Value} {k : Nat} {x : Chn}, ChnRow w base l xs → l[k]? = some x → ∃ d cap, w.ownsRow base 38 1 (.slice d x.dests.length cap) x.dests.length (x.dests.flatMap fun n => [.int .u16 n]) ∧
      ∀ j u, [.int .u16 x.id, .int .u16 x.src, .slice d x.dests.length cap][j]? = some u → xs[k * 3 + j]? = some u
  | [], _, _, _, _, hx => by simp at hx
  | y :: l, xs, 0, x, ⟨d, cap, r, hxs, ho, hr⟩, hx => by
    simp only [List.getElem?_cons_zero, Option.some.injEq] at hx
    subst hx
    refine ⟨d, cap, ho, fun j u hj => ?_⟩
    rw [hxs, Nat.zero_mul, Nat.zero_add]
    match j with
    | 0 => simpa using hj
    | 1 => simpa using hj
    | 2 => simpa using hj
    | j + 3 => simp at hj
  | y :: l, xs, k + 1, x, ⟨d, cap, r, hxs, ho, hr⟩, hx => by
    obtain ⟨d', cap', ho', hj'⟩ := ChnRow.get hr (by simpa using hx)
    refine ⟨d', cap', ho', fun j u hj => ?_⟩
    rw [hxs, show (k + 1) * 3 + j = (k * 3 + j) + 3 by omega]
    simpa using hj' j u hj
theorem ChnRow.len {w : World} {base : Nat} : ∀ {l : List Chn} {xs : List Value}, ChnRow w base l xs → xs.length = l.length * 3
  | [], _, h => by rw [show _ = [] from h]; rfl
  | _ :: l, _, ⟨_, _, r, hx, _, hr⟩ => by
    rw [hx]
    have := ChnRow.len hr
    simp only [List.length_cons]
    omega

theorem chn_of_own {w : World} {base n cap : Nat} {a : Option Addr} {l : List Chn} {xs : List Value} (h : w.ownsRow base 79 3 (.slice a n cap) n xs) (hr : ChnRow w base l xs) (hn : l.length = n) : ChnAt w a l := by
  intro k x hx
  obtain ⟨d, cp, ho, hget⟩ := hr.get hx
  obtain ⟨hlen, h | ⟨g, cap', cur, hv, _, hh, hc, _, hsz, htake⟩⟩ := h
  · obtain ⟨_, rfl⟩ := h
    have : l = [] := List.eq_nil_of_length_eq_zero hn
    subst this
    simp at hx
  · simp only [Value.slice.injEq] at hv
    obtain ⟨rfl, _, rfl⟩ := hv
    obtain ⟨_, _, he, hcap⟩ := own_slice ho
    simp only [Value.slice.injEq] at he
    refine ⟨g, 0, d, cp, rfl, fun j u hj => ?_, by omega, own_row ho (fun _ _ => rfl) rfl⟩
    have hget' := hget j u hj
    rw [← htake, List.getElem?_take] at hget'
    split at hget'
    · simp only [Nat.zero_add, World.cell?, hh]
      simpa using hget'
    · cases hget'

/-- a configuration whose rows are the call's own -/
structure OwnCfg (w : World) (base : Nat) (c : Cfg) (s1 s2 s3 s4 s5 : Value) : Prop where
  o1 : w.ownsRow base 47 4 s1 c.parts.length (c.parts.flatMap encPart)
  o2 : w.ownsRow base 45 3 s2 c.wins.length (c.wins.flatMap encWin)
  o3 : w.ownsRow base 179 5 s3 c.regs.length (c.regs.flatMap encReg)
  o4 : w.ownsRow base 55 6 s4 c.ports.length (c.ports.flatMap encPrt)
  o5 : ∃ xs, w.ownsRow base 79 3 s5 c.chans.length xs ∧ ChnRow w base c.chans xs

theorem OwnCfg.kept {w w' : World} {base : Nat} {c : Cfg} {s1 s2 s3 s4 s5 : Value} (h : OwnCfg w base c s1 s2 s3 s4 s5) (hb : Below w.heap.size w w') : OwnCfg w' base c s1 s2 s3 s4 s5 :=
  ⟨own_kept h.o1 (.below hb), own_kept h.o2 (.below hb), own_kept h.o3 (.below hb), own_kept h.o4 (.below hb), by
    obtain ⟨xs, h1, h2⟩ := h.o5
    exact ⟨xs, own_kept h1 (.below hb), h2.kept (.below hb)⟩⟩

theorem OwnCfg.at {w : World} {base : Nat} {c : Cfg} {s1 s2 s3 s4 s5 : Value} (h : OwnCfg w base c s1 s2 s3 s4 s5) (hok : c.ok) :
    ∃ A : Adr, s1 = .slice A.a1 c.parts.length A.k1 ∧ s2 = .slice A.a2 c.wins.length A.k2 ∧ s3 = .slice A.a3 c.regs.length A.k3 ∧ s4 = .slice A.a4 c.ports.length A.k4 ∧ s5 = .slice A.a5 c.chans.length A.k5 ∧ CfgAt w c A := by
  obtain ⟨h1, h2, h3, h4, xs, h5, h6⟩ := h
  obtain ⟨a1, k1, rfl, l1⟩ := own_slice h1
  obtain ⟨a2, k2, rfl, l2⟩ := own_slice h2
  obtain ⟨a3, k3, rfl, l3⟩ := own_slice h3
  obtain ⟨a4, k4, rfl, l4⟩ := own_slice h4
  obtain ⟨a5, k5, rfl, l5⟩ := own_slice h5
  exact ⟨⟨a1, k1, a2, k2, a3, k3, a4, k4, a5, k5⟩, rfl, rfl, rfl, rfl, rfl, hok, own_row h1 (fun _ _ => rfl) rfl, own_row h2 (fun _ _ => rfl) rfl, own_row h3 (fun _ _ => rfl) rfl, own_row h4 (fun _ _ => rfl) rfl, chn_of_own h5 h6 rfl, l1, l2, l3, l4, l5⟩
end Go.Proofs.Ytmoignbaphddeaa
namespace Go.Proofs.Ytmoignbaphddeaa
open Go.RowKit Go.Sort

section
variable {α : Type} [Inhabited α] {enc : α → List Value} {k : Nat}
theorem flatK_list (hk : ∀ x, (enc x).length = k) (d : Array α) : (flatK enc k d).toList = d.toList.flatMap enc := by
  apply List.ext_getElem?
  intro t
  by_cases ht : t < d.size * k
  · have h1 : (flatK enc k d).toList[t]? = some (flatK enc k d)[t]! := by
      rw [Array.getElem?_toList, Array.getElem?_eq_getElem (by simpa using ht), getElem!_pos (flatK enc k d) t (by simpa using ht)]
    have k0 : 0 < k := by
      rcases Nat.eq_zero_or_pos k with h | h
      · subst h; simp at ht
      · exact h
    have hq : t / k < d.size := (Nat.div_lt_iff_lt_mul k0).2 ht
    have hm : t % k < k := Nat.mod_lt _ k0
    have he : t / k * k + t % k = t := by rw [Nat.mul_comm]; exact Nat.div_add_mod t k
    have h2 := flatMap_get (enc := enc) (sz := k) (l := d.toList) (fun x _ => hk x) (k := t / k) (j := t % k) (x := d[t / k]) (u := (enc d[t / k])[t % k]'(by rw [hk]; exact hm)) (by simp [hq]) (by simp [hk, hm])
    rw [he] at h2
    rw [h1, get_flatK enc k d t ht, h2, getElem!_pos d _ hq, getElem!_pos (enc d[t / k]) _ (by rw [hk]; exact hm)]
  · rw [List.getElem?_eq_none (by simpa using ht), List.getElem?_eq_none (by rw [flat_len hk]; simpa using ht)]

theorem own_holds {w : World} {base : Nat} {e : TypeId} {g n cap : Nat} {d : Array α} (hk : ∀ x, (enc x).length = k) (h : w.ownsRow base e k (.slice (some ⟨g, 0, none⟩) n cap) n (d.toList.flatMap enc)) (hn : d.size = n) : HoldsK enc k w g 0 d := by
  intro j hj
  rcases h.2 with ⟨h', _⟩ | ⟨g', cap', cur, h', _, hg, _, _, hsz, htake⟩
  · cases h'
  · simp only [Value.slice.injEq, Option.some.injEq, Addr.mk.injEq, and_true, true_and] at h'
    obtain ⟨rfl, rfl⟩ := h'
    have hj' : j < n * k := by rw [← hn]; simpa using hj
    refine ⟨?_, by simp [World.frozen?, hg]⟩
    rw [← flatK_list hk] at htake
    have h1 : (cur.toList.take (n * k))[j]? = (flatK enc k d).toList[j]? := by rw [htake]
    rw [List.getElem?_take, if_pos hj', Array.getElem?_toList, Array.getElem?_toList, Array.getElem?_eq_getElem (xs := flatK enc k d) (by simpa using hj)] at h1
    rw [Nat.zero_add]
    simp only [World.cell?, hg, id_eq]
    rw [getElem!_pos _ j (by simpa using hj)]
    simpa using h1

theorem own_put {w : World} {base : Nat} {e : TypeId} {g n cap m : Nat} {xs : List Value} {d : Array α} (hk : ∀ x, (enc x).length = k) (h : w.ownsRow base e k (.slice (some ⟨g, 0, none⟩) n cap) n xs) (hn : d.size = n) :
    (putRowK enc k (Sort.ahead w m) g 0 d).ownsRow base e k (.slice (some ⟨g, 0, none⟩) n cap) n (d.toList.flatMap enc) ∧ w.grownBy (putRowK enc k (Sort.ahead w m) g 0 d) (some g) := by
  rcases h.2 with ⟨h', _⟩ | ⟨g', cap', cur, h', hb, hg, hc, hcm, hsz, htake⟩
  · cases h'
  · simp only [Value.slice.injEq, Option.some.injEq, Addr.mk.injEq, and_true, true_and] at h'
    obtain ⟨rfl, rfl⟩ := h'
    constructor
    · refine ⟨by rw [flat_len hk]; simp [hn], .inr ⟨g, cap, putCells id 0 (flatK enc k d) cur, rfl, hb, ?_, hc, hcm, by simp [putCells, hsz], ?_⟩⟩
      · show ((Sort.ahead w m).heap.modify g (onCells (putCells id 0 (flatK enc k d))))[g]? = _
        rw [Array.getElem?_modify, Sort.heap_ahead, hg]
        simp [onCells]
      · rw [← flatK_list hk]
        apply List.ext_getElem?
        intro t
        rw [List.getElem?_take]
        by_cases ht : t < n * k
        · have hle : n * k ≤ cap * k := Nat.mul_le_mul_right k hc
          have htf : t < (flatK enc k d).size := by rw [size_flatK, hn]; exact ht
          rw [if_pos ht, Array.getElem?_toList, Array.getElem?_toList, putCells, Array.getElem?_mapIdx, Array.getElem?_eq_getElem (show t < cur.size by omega), Array.getElem?_eq_getElem htf]
          simp only [Option.map_some, Nat.zero_le, Nat.zero_add, htf, and_self, if_true, Nat.sub_zero, id_eq]
          rw [getElem!_pos _ t htf]
        · rw [if_neg ht, List.getElem?_eq_none (by simp [hn]; omega)]
    · refine ⟨rfl, rfl, rfl, ?_, fun i hi hne => ?_⟩
      · show w.heap.size ≤ ((Sort.ahead w m).heap.modify g _).size
        simp
      · show ((Sort.ahead w m).heap.modify g _)[i]? = _
        have : g ≠ i := fun h => hne (by rw [h])
        rw [Array.getElem?_modify, if_neg this, Sort.heap_ahead]

end
end Go.Proofs.Ytmoignbaphddeaa
namespace Go.Proofs.Ytmoignbaphddeaa
open Go.RowKit

def addF : Int → List Int → Int × Bool
  | n, [] => (n, true)
  | n, x :: l => if n + x ≤ 18446744073709551615 then addF (n + x) l else (0, false)

theorem plus_c (w : World) (x y : Int) (hx : U64 x) (hy : U64 y) :
    Calls Try.prog 56 #[.int .u64 x, .int .u64 y] w fun e w' => (x + y ≤ 18446744073709551615 → e = .returned (.tuple #[.int .u64 (x + y), .bool true])) ∧ (¬ x + y ≤ 18446744073709551615 → ∃ n : Int, e = .returned (.tuple #[.int .u64 n, .bool false])) ∧ w' = w := by
  unfold U64 at hx hy
  have hadd : ∀ W : World, (callFunc 69 #[.int .u64 x, .int .u64 y, .int .u64 0]).run Try.prog W = .ok (.value (.tuple #[.int .u64 ((x + y + 0) % 18446744073709551616), .int .u64 ((x + y + 0) / 18446744073709551616)])) W := fun W => by
    rw [run_callFunc_extern Try.func69 (by kernel_rfl) (by kernel_rfl) (by kernel_rfl) (e := add64Entry) (by kernel_rfl), run_add64 x y 0 (by omega) (by omega) (by omega) (by omega)]
    rfl
  obtain ⟨lo, hlo⟩ : ∃ lo, (x + y + 0) % 18446744073709551616 = lo := ⟨_, rfl⟩
  obtain ⟨hi, hhi⟩ : ∃ hi, (x + y + 0) / 18446744073709551616 = hi := ⟨_, rfl⟩
  rw [hlo, hhi] at hadd
  by_cases hs : x + y ≤ 18446744073709551615
  · have h1 : hi = 0 := by omega
    have h2 : lo = x + y := by omega
    subst h1
    have H2 := hid h2
    have Hs := hid hs
    clear hhi hlo h2 hs
    go_enter Try.func56, Try.ntmps56
    go_wp2
    go_ret2
    exact ⟨fun _ => by rw [← H2.out]; rfl, fun h => False.elim (by have := Hs.out; omega), rfl⟩
  · have h1 : (hi == 0) = false := by rw [beq_eq_false_iff_ne]; omega
    have Hs := hid hs
    clear hhi hlo hs
    go_enter Try.func56, Try.ntmps56
    go_wp2
    go_ret2
    exact ⟨fun h => False.elim (by have := Hs.out; omega), fun _ => ⟨_, rfl⟩, rfl⟩

set_option maxHeartbeats 1000000 in
theorem foldAdd_c (w : World) (a : Option Addr) (cap : Nat) (l : List Int) (hrow : RowAt 1 (fun n => [.int .u64 n]) w a l) (hlen : l.length ≤ 9223372036854775807) (hl : ∀ x ∈ l, U64 x) :
    Calls Try.prog 55 #[.int .u64 0, .func (.func 56) #[] #[], .slice a l.length cap] w fun e w' => e = .returned (.tuple #[.int .u64 (addF 0 l).1, .bool (addF 0 l).2]) ∧ Below w.heap.size w w' := by
  obtain ⟨e0, e1, hm⟩ : ∃ e0 e1, addF 0 l = (e0, e1) := ⟨_, _, rfl⟩
  rw [hm]
  have Hm := hid hm
  have Hl := hid hl
  clear hm hl
  go_enter Try.func55, Try.ntmps55
  go_wp2
  go_loopw [8, 9, 15] (fun n ok i wr => ∃ (k : Nat) (q : Int), k ≤ l.length ∧ i = .int .i64 k ∧ n = .int .u64 q ∧ ok = .bool true ∧ 0 ≤ q ∧ q ≤ 18446744073709551615 ∧ Hid (addF q (l.drop k) = (e0, e1)) ∧ Below w.heap.size w wr) (fun _ _ i _ => l.length - (intOf i).toNat)
  case atStart => exact ⟨0, 0, Nat.zero_le _, rfl, rfl, rfl, by omega, by omega, Hm.out, Below.refl _ _⟩
  case round =>
    obtain ⟨k, q, hkn, rfl, rfl, rfl, hq0, hq1, Hk, hbr⟩ := hrel
    by_cases hlt : k < l.length
    · obtain ⟨b, o, rfl, hb0, h0⟩ := (hrow.below hbr).one hlt
      have hux := Hl.out _ (List.getElem_mem hlt)
      have hk := Hk.out
      rw [List.drop_eq_getElem_cons hlt] at hk
      obtain ⟨x, hx⟩ : ∃ x, l[k] = x := ⟨_, rfl⟩
      rw [hx] at h0 hk hux
      unfold addF at hk
      have Hk2 := hid hk
      have Hrow := hid hrow
      have Hux := hid hux
      clear hx hk hrow Hk hux
      go_wp2_with fail
      refine (plus_c wr q x ⟨hq0, hq1⟩ Hux.out).mono ?_
      rintro e w2 ⟨hy, hn, rfl⟩
      by_cases hs : q + x ≤ 18446744073709551615
      · have he := hy hs
        subst he
        have Hs : Hid (addF (q + x) (l.drop (k + 1)) = (e0, e1)) := by show _ = _; rw [← Hk2.out, if_pos hs]
        have hp0 : 0 ≤ q + x := by have := Hux.out.1; omega
        obtain ⟨q', hq'⟩ : ∃ q', q + x = q' := ⟨_, rfl⟩
        rw [hq'] at Hs hs hp0 ⊢
        clear hy hn hq'
        go_wp2
        go_roundw
        case rel => exact ⟨k + 1, q', by omega, by go_num, rfl, rfl, hp0, hs, Hs, hbr⟩
        case measure => simp [intOf]; omega
      · obtain ⟨n, he⟩ := hn hs
        subst he
        have Hs : Hid (((0 : Int), false) = (e0, e1)) := by show _ = _; rw [← Hk2.out, if_neg hs]
        clear hy hn hs
        go_wp2
        go_ret2
        have hf := Hs.out
        simp only [Prod.mk.injEq] at hf
        obtain ⟨rfl, rfl⟩ := hf
        exact ⟨rfl, hbr⟩
    · have hke : k = l.length := by omega
      subst hke
      have hk := Hk.out
      rw [List.drop_length] at hk
      unfold addF at hk
      have Hs := hid hk
      clear hk
      go_wp2
      go_ret2
      have hf := Hs.out
      simp only [Prod.mk.injEq] at hf
      obtain ⟨rfl, rfl⟩ := hf
      exact ⟨rfl, hbr⟩
theorem addNum_c (w : World) (a : Option Addr) (cap : Nat) (l : List Int) (hrow : RowAt 1 (fun n => [.int .u64 n]) w a l) (hlen : l.length ≤ 9223372036854775807) (hl : ∀ x ∈ l, U64 x) :
    Calls Try.prog 46 #[.slice a l.length cap] w fun e w' => e = .returned (.tuple #[.int .u64 (addF 0 l).1, .bool (addF 0 l).2]) ∧ Below w.heap.size w w' := by
  obtain ⟨e0, e1, hm⟩ : ∃ e0 e1, addF 0 l = (e0, e1) := ⟨_, _, rfl⟩
  have hfold := hid (foldAdd_c w a cap l hrow hlen hl)
  rw [hm] at hfold ⊢
  clear hrow hl hm
  go_enter Try.func46, Try.ntmps46
  go_wp2_with fail
  refine hfold.out.mono ?_
  rintro e w3 ⟨rfl, hb3⟩
  go_wp2
  go_ret2
  exact ⟨rfl, hb3⟩

end Go.Proofs.Ytmoignbaphddeaa
namespace Go.Proofs.Ytmoignbaphddeaa
open Go.RowKit

def partVal (p : Part) : Value := .agg #[.int .u16 p.id, .string p.name, .int .u64 p.period, .int .u64 p.dur]
def prtVal (p : Prt) : Value := .agg #[.int .u16 p.id, .int .u16 p.part, .string p.name, .bool p.output, .bool p.queuing, .int .u32 p.size]

/-- the key of a port by its name -/
def namedVal (k : Int × ByteArray) : Value := .agg #[.int .u16 k.1, .string k.2]

theorem equal_named (k k' : Int × ByteArray) (w : World) : (Op.equal 96 (namedVal k) (namedVal k')).run Try.prog w = .ok (decide (k = k')) w := by
  have hp : Try.prog.stoodInHeld 96 = false := by kernel_rfl
  have hf : Try.prog.underlying 96 = some (.struct (Try.prog.fieldsOf 96)) := by kernel_rfl
  obtain ⟨a, s⟩ := k
  obtain ⟨b, t⟩ := k'
  unfold namedVal Op.equal Op.maxDepth
  rw [run_equalIn_agg w _ _ _ _ hf hp]
  have hfs : (Try.prog.fieldsOf 96).toList = [{ name := "partition", type := 38, offset := 0, embedded := false, tag := "", pkgPath := "fenestra/uniq", byteOffset := 0 },
        { name := "name", type := 9, offset := 1, embedded := false, tag := "", pkgPath := "fenestra/uniq", byteOffset := 8 }] := by kernel_rfl
  rw [hfs]
  simp [go_sem, Op.eqFields]
  have e : (s.toList = t.toList) ↔ s = t := by
    constructor
    · intro h
      exact bytes_eq_of_beq (by rw [beq_toListBytes, h]; simp)
    · intro h; rw [h]
  by_cases h1 : a = b <;> by_cases h2 : s = t <;> simp [h1, h2, e]

theorem named_law {β : Type} {encV : β → Value} : KeyLaw namedVal encV Try.prog 96 (fun _ => True) where
  check := by
    intro em k w _
    unfold Instr.checkKey namedVal
    simp [go_sem]
    have h1 : (Instr.checkKey em 9999 38 (Value.int IntKind.u16 k.fst)).run Try.prog w = .ok () w := by
      unfold Instr.checkKey
      simp [go_sem]
    have h2 : (Instr.checkKey em 9999 9 (Value.string k.snd)).run Try.prog w = .ok () w := by
      unfold Instr.checkKey
      simp [go_sem]
    simp [h1, h2]
  find := by
    intro k l es w _ _ h
    have hu : Try.prog.underlying 96 = some (.struct (Try.prog.fieldsOf 96)) := by kernel_rfl
    have key : ∀ (es : List MapEntry) (l : List ((Int × ByteArray) × β)) (i : Nat), es.map (fun e => (e.key, e.val)) = l.map (fun p => (namedVal p.1, encV p.2)) →
        (Instr.findAsking 96 (namedVal k) es i).run Try.prog w = .ok ((place k l i).map fun p => (p.1, encV p.2)) w := by
      intro es
      induction es with
      | nil => intro l i h; cases l <;> simp_all [Instr.findAsking, place]
      | cons e es ih =>
        intro l i h
        cases l with
        | nil => simp at h
        | cons p l =>
          simp only [List.map_cons, List.cons.injEq, Prod.mk.injEq] at h
          obtain ⟨⟨h1, h2⟩, h3⟩ := h
          simp only [Instr.findAsking, h1, Sem.run_bind, equal_named, Result.andThen_ok, place]
          by_cases hk : k = p.1
          · simp [hk, h2]
          · simp [hk, ih l (i + 1) h3]
    unfold Instr.findKey
    simp only [Sem.run_bind, run_underlying hu, Result.andThen_ok]
    cases es with
    | nil => cases l <;> simp_all [Instr.findNow, place]
    | cons e es =>
      cases l with
      | nil => simp at h
      | cons p l =>
        have h' := h
        simp only [List.map_cons, List.cons.injEq, Prod.mk.injEq] at h'
        have hn : Instr.findNow (.struct (Try.prog.fieldsOf 96)) (namedVal k) (e :: es) 0 = none := by
          simp [Instr.findNow, Instr.sameNow]
        rw [hn]
        exact key _ _ 0 h

theorem partitionID_c (p : Part) (w : World) : Calls Try.prog 36 #[partVal p] w fun e w' => e = .returned (.int .u16 p.id) ∧ Below w.heap.size w w' := by
  unfold partVal
  go_enter Try.func36, Try.ntmps36
  go_wp2
  go_ret
  exact ⟨rfl, below_new _ _⟩

theorem portID_c (p : Prt) (w : World) : Calls Try.prog 39 #[prtVal p] w fun e w' => e = .returned (.int .u16 p.id) ∧ Below w.heap.size w w' := by
  unfold prtVal
  go_enter Try.func39, Try.ntmps39
  go_wp2
  go_ret
  exact ⟨rfl, below_new _ _⟩
theorem portName_c (p : Prt) (w : World) : Calls Try.prog 43 #[prtVal p] w fun e w' => e = .returned (namedVal (p.part, p.name)) ∧ Below w.heap.size w w' := by
  unfold prtVal
  go_enter Try.func43, Try.ntmps43
  go_wp2
  exact bodyPost_ret (v := .agg #[.int .u16 p.part, .string p.name]) (by simp [results, Try.results43, go_sem]) rfl ⟨rfl, (below_new _ _).alloc (by simp) _⟩
theorem channelID_c (x d : Value) (id : Int) (w : World) : Calls Try.prog 41 #[.agg #[.int .u16 id, x, d]] w fun e w' => e = .returned (.int .u16 id) ∧ Below w.heap.size w w' := by
  go_enter Try.func41, Try.ntmps41
  go_wp2
  go_ret
  exact ⟨rfl, below_new _ _⟩

/-! ### places -/
abbrev Map16 (w : World) (r : Nat) (l : List (Int × Int)) : Prop := MapAt (Value.int .u16) (Value.int .i64) w r l
abbrev MapStr (w : World) (r : Nat) (l : List (ByteArray × Int)) : Prop := MapAt Value.string (Value.int .i64) w r l
abbrev MapNm (w : World) (r : Nat) (l : List ((Int × ByteArray) × Int)) : Prop := MapAt namedVal (Value.int .i64) w r l

theorem law16 : KeyLaw (Value.int .u16) (Value.int .i64) Try.prog 38 (fun _ => True) := int_law .u16 Try.underlying38
theorem lawStr : KeyLaw Value.string (Value.int .i64) Try.prog 9 (fun _ => True) := str_law Try.underlying9
theorem lawNm : KeyLaw namedVal (Value.int .i64) Try.prog 96 (fun _ => True) := named_law

theorem find16_c (w : World) (r : Nat) (l : List (Int × Int)) (h : Map16 w r l) (k : Int) :
    Calls Try.prog 54 #[.map (some r), Value.int .u16 k] w fun e w' => e = .returned (.int .i64 ((look k l).getD (-1))) ∧ Below w.heap.size w w' := by
  have hl : ∀ w', w'.heap[r]? = w.heap[r]? → (Instr.lookup 82 (.map (some r)) (Value.int .u16 k) true).run Try.prog w' = .ok (.tuple #[.int .i64 ((look k l).getD 0), .bool (look k l).isSome]) w' := by
    intro w' hw
    have := (h.kept hw).lookup law16 Try.underlying82 (fun _ _ => trivial) (k := k) trivial (Try.zeroValue3 w') true
    rw [this]
    cases look k l <;> simp
  have hrun := hl w rfl
  clear hl
  generalize look k l = o at hrun ⊢
  cases o with
  | none =>
    simp only [Option.getD_none, Option.isSome_none] at hrun
    go_enter Try.func54, Try.ntmps54
    go_wp2
    go_ret
    exact ⟨rfl, Below.refl _ _⟩
  | some v =>
    simp only [Option.getD_some, Option.isSome_some] at hrun
    go_enter Try.func54, Try.ntmps54
    go_wp2
    go_ret
    exact ⟨rfl, Below.refl _ _⟩

theorem add16_c (w : World) (r : Nat) (l : List (Int × Int)) (h : Map16 w r l) (k : Int) (i : Int) :
    Calls Try.prog 37 #[.map (some r), Value.int .u16 k, .int .i64 i] w fun e w' => e = .returned (.bool (look k l).isNone) ∧
      Map16 w' r (addKey l k i) ∧ w.grownBy w' (some r) := by
  have hlt := h.lt
  have hl : ∀ w', w'.heap[r]? = w.heap[r]? → (Instr.lookup 82 (.map (some r)) (Value.int .u16 k) true).run Try.prog w' = .ok (.tuple #[.int .i64 ((look k l).getD 0), .bool (look k l).isSome]) w' := by
    intro w' hw
    have := (h.kept hw).lookup law16 Try.underlying82 (fun _ _ => trivial) (k := k) trivial (Try.zeroValue3 w') true
    rw [this]
    cases look k l <;> simp
  have hrun := hl w rfl
  cases ho : look k l with
  | none =>
    rw [ho] at hrun
    simp only [Option.getD_none, Option.isSome_none] at hrun
    obtain ⟨w2, hput, hm2, hg2, hs2⟩ := MapAt.put (P := Try.prog) (w := w) law16 Try.underlying82 (h.kept rfl) (fun _ _ => trivial) (k := k) trivial ho i
    have Hm2 := hid hm2
    have Hg2 := hid hg2
    have Ho := hid ho
    clear hl hm2 hg2 hs2 ho h
    go_enter Try.func37, Try.ntmps37
    go_wp2
    go_ret
    exact ⟨rfl, by rw [addKey_none Ho.out]; exact Hm2.out, Hg2.out⟩
  | some v =>
    rw [ho] at hrun
    simp only [Option.getD_some, Option.isSome_some] at hrun
    have Ho := hid ho
    have H := hid h
    clear hl ho h
    go_enter Try.func37, Try.ntmps37
    go_wp2
    go_ret
    exact ⟨rfl, by rw [addKey_some Ho.out]; exact H.out, ⟨rfl, rfl, rfl, Nat.le_refl _, fun _ _ _ => rfl⟩⟩





theorem addNm_c (w : World) (r : Nat) (l : List ((Int × ByteArray) × Int)) (h : MapNm w r l) (k : (Int × ByteArray)) (i : Int) :
    Calls Try.prog 44 #[.map (some r), namedVal k, .int .i64 i] w fun e w' => e = .returned (.bool (look k l).isNone) ∧
      MapNm w' r (addKey l k i) ∧ w.grownBy w' (some r) := by
  have hlt := h.lt
  have hl : ∀ w', w'.heap[r]? = w.heap[r]? → (Instr.lookup 84 (.map (some r)) (namedVal k) true).run Try.prog w' = .ok (.tuple #[.int .i64 ((look k l).getD 0), .bool (look k l).isSome]) w' := by
    intro w' hw
    have := (h.kept hw).lookup lawNm Try.underlying84 (fun _ _ => trivial) (k := k) trivial (Try.zeroValue3 w') true
    rw [this]
    cases look k l <;> simp
  have hrun := hl (w.alloc (.cells #[.int .u16 k.1, .string k.2] 96)) (Below.heap_alloc _ _ _ h.lt)
  cases ho : look k l with
  | none =>
    rw [ho] at hrun
    simp only [Option.getD_none, Option.isSome_none] at hrun
    obtain ⟨w2, hput, hm2, hg2, hs2⟩ := MapAt.put (P := Try.prog) (w := (w.alloc (.cells #[.int .u16 k.1, .string k.2] 96))) lawNm Try.underlying84 (h.kept (Below.heap_alloc _ _ _ h.lt)) (fun _ _ => trivial) (k := k) trivial ho i
    have Hm2 := hid hm2
    have Hg2 := hid hg2
    have Ho := hid ho
    clear hl hm2 hg2 hs2 ho h
    unfold namedVal at *
    go_enter Try.func44, Try.ntmps44
    go_wp2
    go_ret
    exact ⟨rfl, by rw [addKey_none Ho.out]; exact Hm2.out, gtrans (World.grownBy_alloc _ _ _) Hg2.out⟩
  | some v =>
    rw [ho] at hrun
    simp only [Option.getD_some, Option.isSome_some] at hrun
    have Ho := hid ho
    have H := hid h
    clear hl ho h
    unfold namedVal at *
    go_enter Try.func44, Try.ntmps44
    go_wp2
    go_ret
    exact ⟨rfl, by rw [addKey_some Ho.out]; exact H.out.kept (Below.heap_alloc _ _ _ hlt), World.grownBy_alloc _ _ _⟩
end Go.Proofs.Ytmoignbaphddeaa
