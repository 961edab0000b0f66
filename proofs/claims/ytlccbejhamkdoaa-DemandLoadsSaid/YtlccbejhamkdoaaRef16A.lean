/- the reference's small functions of the layers 1, 14, 15, 16 -/
import Derived.Test.YtlccbejhamkdoaaPlain16
import Derived.Test.YtlccbejhamkdoaaRefA
import Derived.Test.YtlccbejhamkdoaaAux
import Derived.Test.YtlccbejhamkdoaaLater
namespace Go.Proofs.Ytlccbejhamkdoaa
open Go.RowKit

/-- whether a number divides another one -/
def divs (a b : Int) : Bool := decide (0 < a ∧ b % a = 0)
theorem divs_pos {a b : Int} (h : 0 < a) : (b % a == 0) = divs a b := by
  unfold divs
  by_cases h2 : b % a = 0 <;> simp [h, h2]
theorem divs_zero (b : Int) : divs 0 b = false := by simp [divs]

theorem refDivides_c (w : World) (a b : Int) (ha : U64 a) (hb : U64 b) :
    Calls Try.prog 62 #[.int .u64 a, .int .u64 b] w fun e w' => e = .returned (.bool (divs a b)) ∧ Below w.heap.size w w' := by
  unfold U64 at ha hb
  obtain ⟨r, hr⟩ : ∃ r, divs a b = r := ⟨_, rfl⟩
  rw [hr]
  go_enter Try.func62, Try.ntmps62
  by_cases h0 : 0 < a
  · have hne : ¬ a = 0 := by omega
    rw [← divs_pos h0] at hr
    have Hr := hid hr
    clear hr
    go_wp2
    go_ret
    exact ⟨ret_bool Hr.out, Below.refl _ _⟩
  · have hz : a = 0 := by omega
    subst hz
    rw [divs_zero] at hr
    subst hr
    go_wp2
    go_ret
    exact ⟨rfl, Below.refl _ _⟩

/-- the ticks of a window of a partition in a range -/
def term (id a b : Int) (x : Win) : Int := if x.part = id then ovl x a b else 0
/-- the ticks of a partition in a range: windows of all partitions are given -/
def usedP (ws : List Win) (id a b : Int) : Int := (ws.map (term id a b)).sum
theorem term_nonneg (id a b : Int) (x : Win) : 0 ≤ term id a b x := by
  unfold term; split
  · exact ovl_nonneg _ _ _
  · omega
theorem usedP_nil (id a b : Int) : usedP [] id a b = 0 := rfl
theorem usedP_cons (x : Win) (ws : List Win) (id a b : Int) : usedP (x :: ws) id a b = term id a b x + usedP ws id a b := by simp [usedP]
theorem usedP_append (l m : List Win) (id a b : Int) : usedP (l ++ m) id a b = usedP l id a b + usedP m id a b := by
  induction l with
  | nil => simp [usedP_nil]
  | cons x l ih => rw [List.cons_append, usedP_cons, usedP_cons, ih]; omega
theorem usedP_nonneg (ws : List Win) (id a b : Int) : 0 ≤ usedP ws id a b := by
  induction ws with
  | nil => simp [usedP_nil]
  | cons x l ih => rw [usedP_cons]; have := term_nonneg id a b x; omega
theorem usedP_filter (ws : List Win) (id a b : Int) : usedP ws id a b = usedL (ws.filter fun x => decide (x.part = id)) a b := by
  induction ws with
  | nil => rfl
  | cons x l ih =>
    rw [usedP_cons, ih, List.filter_cons]
    unfold term
    split
    · rename_i h; simp [h, usedL_cons]
    · rename_i h; simp [h]
theorem usedP_take (ws : List Win) (id a b : Int) {k : Nat} (h : k < ws.length) : usedP (ws.take (k + 1)) id a b = usedP (ws.take k) id a b + term id a b ws[k] := by
  rw [List.take_add_one, List.getElem?_eq_getElem h, usedP_append]
  simp [usedP_cons, usedP_nil]
theorem usedP_take_le (ws : List Win) (id a b : Int) (k : Nat) : usedP (ws.take k) id a b ≤ usedP ws id a b := by
  have h : usedP (ws.take k ++ ws.drop k) id a b = usedP ws id a b := by rw [List.take_append_drop]
  rw [usedP_append] at h
  have := usedP_nonneg (ws.drop k) id a b
  omega
theorem Apart.used_le {F : Int} {ws : List Win} (h : Apart F ws) (id : Int) {a b : Int} (ha : 0 ≤ a) (hab : a ≤ b) : usedP ws id a b ≤ b - a := by
  have h1 := h.filter (fun x => decide (x.part = id))
  rw [usedP_filter]
  have hp := List.mergeSort_perm (ws.filter fun x => decide (x.part = id)) (fun x y => decide (x.start ≤ y.start))
  rw [← usedL_perm hp]
  have hs : ((ws.filter fun x => decide (x.part = id)).mergeSort (fun x y => decide (x.start ≤ y.start))).Pairwise (fun x y => x.start ≤ y.start) := by
    have := List.pairwise_mergeSort (le := fun x y : Win => decide (x.start ≤ y.start)) (fun x y z h1 h2 => by simp at *; omega) (fun x y => by simp; omega) (ws.filter fun x => decide (x.part = id))
    exact this.imp (fun h => by simpa using h)
  have hc := (h1.perm hp.symm).chain hs (E := 0) (fun x hx => ((h1.perm hp.symm).each x hx).1)
  have := hc.used_le a b
  omega

set_option maxHeartbeats 1000000 in
theorem refUsed_c (w : World) (c : Cfg) (A : Adr) (hc : CfgAt w c A) (hap : Apart c.frame c.wins) (id a b : Int) (_hid' : U16 id) (ha : 0 ≤ a) (hab : a ≤ b) (hb : b ≤ 18446744073709551615) :
    Calls Try.prog 67 #[cfgVal c A, .int .u16 id, .int .u64 a, .int .u64 b] w fun e w' => e = .returned (.int .u64 (usedP c.wins id a b)) ∧ Below w.heap.size w w' := by
  have htop := hap.used_le id ha hab
  have hfr := hc.ok.frame
  unfold U64 at hfr
  obtain ⟨a1, k1, a2, k2, a3, k3, a4, k4, a5, k5⟩ := A
  have hn := hc.ok.nwins
  have hall := hap.each
  have hmost : ∀ k, usedP (c.wins.take k) id a b ≤ 18446744073709551615 := fun k => by have := usedP_take_le c.wins id a b k; omega
  simp only [cfgVal, cfgCells]
  go_enter Try.func67, Try.ntmps67
  go_wp2
  refine wp_name (fun W => Below w.heap.size w W ∧ W.heap[w.heap.size]? = some (.cells (cfgCells c ⟨a1, k1, a2, k2, a3, k3, a4, k4, a5, k5⟩) 29 (0, 0))) ⟨below_new _ _, heap_new _ _⟩ ?_
  rintro w1 ⟨hb1, hbox⟩
  have hrow := (hc.below hb1).wins
  have hb2 := (box_cfg hbox).2.2.1
  simp only at hb2 hrow
  have Hall := hid hall
  have Hmost := hid hmost
  clear hbox hc hall hmost hap htop
  go_loopw [9, 10] (fun n i wr => ∃ k : Nat, k ≤ c.wins.length ∧ i = .int .i64 k ∧ n = .int .u64 (usedP (c.wins.take k) id a b) ∧ Below w1.heap.size w1 wr) (fun _ i _ => c.wins.length - (intOf i).toNat)
  case atStart => exact ⟨0, Nat.zero_le _, rfl, rfl, Below.refl _ _⟩
  case round =>
    obtain ⟨k, hkn, rfl, rfl, hbr⟩ := hrel
    have hb2 := cell_below hbr hb2
    by_cases hlt : k < c.wins.length
    · obtain ⟨bb, o, rfl, hb0, h0, h1, h2⟩ := (hrow.below hbr).win hlt
      have hsucc := hid (usedP_take c.wins id a b hlt)
      obtain ⟨e1, e2, e3⟩ := Hall.out _ (List.getElem_mem hlt)
      have m1 := Hmost.out (k + 1)
      rw [hsucc.out] at m1
      have m0 := usedP_nonneg (c.wins.take k) id a b
      obtain ⟨U, hU⟩ : ∃ U, usedP (c.wins.take k) id a b = U := ⟨_, rfl⟩
      rw [hU] at m0 m1 hsucc ⊢
      clear hrow
      by_cases hp : c.wins[k].part = id
      · have hpe : (c.wins[k].part == id) = true := by simpa using hp
        by_cases hlo : max c.wins[k].start a < min (c.wins[k].start + c.wins[k].len) b
        · have ht : term id a b c.wins[k] = min (c.wins[k].start + c.wins[k].len) b - max c.wins[k].start a := by unfold term ovl; rw [if_pos hp, if_pos hlo]
          rw [ht] at hsucc m1
          go_wp2
          all_goals (try (refine ⟨⟨k + 1, by omega, by go_num, ?_, hbr.alloc hbr.size _⟩, by simp [intOf]; omega⟩; rw [hsucc.out]; congr 1; omega))
        · have ht : term id a b c.wins[k] = 0 := by unfold term ovl; rw [if_pos hp, if_neg hlo]
          rw [ht] at hsucc m1
          have hno : ¬ (if c.wins[k].start < a then a else c.wins[k].start) < if b < c.wins[k].start + c.wins[k].len then b else c.wins[k].start + c.wins[k].len := by omega
          go_wp2
          all_goals (try (refine ⟨⟨k + 1, by omega, by go_num, ?_, hbr.alloc hbr.size _⟩, by simp [intOf]; omega⟩; rw [hsucc.out]; congr 1; omega))
      · have hpe : (c.wins[k].part == id) = false := by simpa using hp
        have ht : term id a b c.wins[k] = 0 := by unfold term; rw [if_neg hp]
        rw [ht] at hsucc m1
        go_wp2
        all_goals (try (refine ⟨⟨k + 1, by omega, by go_num, ?_, hbr.alloc hbr.size _⟩, by simp [intOf]; omega⟩; rw [hsucc.out]; congr 1; omega))
    · have hke : k = c.wins.length := by omega
      subst hke
      rw [List.take_length]
      have hbf := bthen hb1 hbr
      clear hrow
      go_wp2
      go_ret
      exact ⟨rfl, hbf⟩

/-- the value of a record of a partition -/
def partVal (p : Part) : Value := .agg #[.int .u16 p.id, .string p.name, .int .u64 p.period, .int .u64 p.dur]

set_option maxHeartbeats 1000000 in
theorem refIn_c (w : World) (c : Cfg) (A : Adr) (hc : CfgAt w c A) (hap : Apart c.frame c.wins) (p : Part) (hid' : U16 p.id) (hP : 0 < p.period) (k count : Int) (hk : 0 ≤ k) (hF : c.frame = count * p.period) (hkc : k < count) :
    Calls Try.prog 64 #[cfgVal c A, partVal p, .int .u64 k] w fun e w' => e = .returned (.int .u64 (usedP c.wins p.id (k * p.period) ((k + 1) * p.period))) ∧ Below w.heap.size w w' := by
  have hfr := hc.ok.frame
  unfold U64 at hfr
  have f1 := step_le hP hkc
  have f2 := succ_mul' k p.period
  have f3 := mul_mono hP hk
  have f4 : k ≤ k * p.period := by have := Int.mul_le_mul_of_nonneg_left (show (1 : Int) ≤ p.period by omega) hk; omega
  rw [← hF] at f1
  obtain ⟨a1, k1, a2, k2, a3, k3, a4, k4, a5, k5⟩ := A
  obtain ⟨pid, pname, P, pdur⟩ := p
  simp only at hid' hP hF f1 f2 f3 f4
  simp only [cfgVal, cfgCells, partVal]
  go_enter Try.func64, Try.ntmps64
  have hcall := refUsed_c ((w.alloc (.cells (cfgCells c ⟨a1, k1, a2, k2, a3, k3, a4, k4, a5, k5⟩) 29)).alloc (.cells #[.int .u16 pid, .string pname, .int .u64 P, .int .u64 pdur] 36)) c ⟨a1, k1, a2, k2, a3, k3, a4, k4, a5, k5⟩ (hc.below ((below_new _ _).alloc (by simp) _)) hap pid (k * P) ((k + 1) * P) hid' (by omega) (by omega) (by omega)
  have Hcall := hid hcall
  have g1 : 0 ≤ (k + 1) * P := by omega
  have g2 : (k + 1) * P ≤ 18446744073709551615 := by omega
  have g3 : k * P ≤ 18446744073709551615 := by omega
  have g4 : k ≤ 18446744073709551614 := by omega
  clear hcall hap hc f1 f2 hF
  go_wp2_with fail
  refine Hcall.out.mono ?_
  rintro e w2 ⟨rfl, hb2⟩
  have hbf := bthen ((below_new w _).alloc (by simp) _) hb2
  clear Hcall hb2
  go_wp2
  go_ret
  exact ⟨rfl, hbf⟩

/-- the ticks of a partition in its periods -/
def inC (c : Cfg) (p : Part) (k : Int) : Int := usedP c.wins p.id (k * p.period) ((k + 1) * p.period)

theorem quo_count {c : Cfg} {p : Part} {count : Int} (hP : 0 < p.period) (hF : c.frame = count * p.period) : c.frame / p.period = count := by
  rw [hF]; exact Int.mul_ediv_cancel _ (by omega)

theorem allOf_split {used : Int → Int} {count : Int} {k : Nat} (h : (k : Int) < count) :
    ∃ post, allOf used count = ((List.range k).map fun j : Nat => ((j : Int), used j)) ++ ((k : Int), used k) :: post := by
  obtain ⟨m, hm⟩ : ∃ m, count.toNat = (k + 1) + m := ⟨count.toNat - (k + 1), by omega⟩
  rw [allOf, periodsOf, List.map_map, hm, List.range_add, List.map_append, List.range_succ, List.map_append, List.append_assoc]
  exact ⟨_, rfl⟩
theorem firstAll_at {used : Int → Int} {count d : Int} {k : Nat} (h : (k : Int) < count) (hb : ∀ j : Nat, j < k → ¬ used j < d) (hk : used k < d) : firstShort d (allOf used count) = ((k : Int), true) := by
  obtain ⟨post, e⟩ := allOf_split (used := used) h
  rw [e, firstShort_at _ (by exact hk)]
  intro z hz
  obtain ⟨j, hj, rfl⟩ := List.mem_map.1 hz
  rw [List.mem_range] at hj
  exact hb j hj
theorem firstAll_no {used : Int → Int} {count d : Int} (h : ∀ j : Nat, (j : Int) < count → ¬ used j < d) : firstShort d (allOf used count) = (0, false) := by
  refine firstShort_no (fun y hy => ?_)
  obtain ⟨k, hk, rfl⟩ := List.mem_map.1 hy
  obtain ⟨k1, k2⟩ := mem_periodsOf.1 hk
  have := h k.toNat (by omega)
  rw [show ((k.toNat : Nat) : Int) = k by omega] at this
  exact this

set_option maxHeartbeats 1000000 in
theorem refShort_c (w : World) (c : Cfg) (A : Adr) (hc : CfgAt w c A) (hap : Apart c.frame c.wins) (i : Nat) (hi : i < c.parts.length) (hP : 0 < c.parts[i].period) (count : Int) (hcnt : 0 ≤ count) (hF : c.frame = count * c.parts[i].period) :
    Calls Try.prog 26 #[cfgVal c A, .int .i64 i] w fun e w' => e = .returned (.tuple #[.int .u64 (firstShort c.parts[i].dur (allOf (inC c c.parts[i]) count)).1, .bool (firstShort c.parts[i].dur (allOf (inC c c.parts[i]) count)).2]) ∧ Below w.heap.size w w' := by
  have hfr := hc.ok.frame
  have hok := hc.ok.parts _ (List.getElem_mem hi)
  have hq := quo_count hP hF
  have hn := hc.ok.nparts
  unfold U64 at hfr
  obtain ⟨p, hp⟩ : ∃ p, c.parts[i] = p := ⟨_, rfl⟩
  rw [hp] at hP hok hF hq ⊢
  obtain ⟨r, hr⟩ : ∃ r, firstShort p.dur (allOf (inC c p) count) = r := ⟨_, rfl⟩
  rw [hr]
  have hcc := hc
  have hctop : count ≤ c.frame := by have := Int.mul_le_mul_of_nonneg_left (show (1 : Int) ≤ p.period by omega) hcnt; omega
  obtain ⟨a1, k1, a2, k2, a3, k3, a4, k4, a5, k5⟩ := A
  obtain ⟨b, o, rfl, hb0, h0, h1, h2, h3⟩ := hc.parts.part hi
  rw [hp] at h0 h1 h2 h3
  simp only [cfgVal, cfgCells]
  go_enter Try.func26, Try.ntmps26
  have Hr := hid hr
  have HF := hid hF
  have Hcc := hid hcc
  have Hap := hid hap
  clear hr hF hcc hc hap hp
  go_wp2
  refine wp_name (fun W => Below w.heap.size w W ∧ W.heap[w.heap.size]? = some (.cells (cfgCells c ⟨some ⟨b, o, none⟩, k1, a2, k2, a3, k3, a4, k4, a5, k5⟩) 29 (0, 0)) ∧ W.heap[w.heap.size + 1]? = some (.cells #[.int .u16 p.id, .string p.name, .int .u64 p.period, .int .u64 p.dur] 36 (0, 0))) ⟨(below_new _ _).alloc (by simp) _, by repeat (first | (refine heap_at ?_; simp; done) | refine heap_alloc' ?_ _), by repeat (first | (refine heap_at ?_; simp; done) | refine heap_alloc' ?_ _)⟩ ?_
  rintro w1 ⟨hb1, hbox, hpb⟩
  have hc1 := hid (Hcc.out.below hb1)
  have Hbox := hid hbox
  have Hpb := hid hpb
  clear Hcc hbox hpb h0 h1 h2 h3
  go_loopw [7] (fun n wr => ∃ k : Nat, (k : Int) ≤ count ∧ n = .int .u64 k ∧ Hid (∀ j : Nat, j < k → p.dur ≤ inC c p j) ∧ Below w1.heap.size w1 wr) (fun n _ => count.toNat - (intOf n).toNat)
  case atStart => exact ⟨0, by omega, rfl, fun j hj => by omega, Below.refl _ _⟩
  case round =>
    obtain ⟨k, hkn, rfl, hbef, hbr⟩ := hrel
    by_cases hlt : (k : Int) < count
    · obtain ⟨e0, e1, e2, e3, e4, e5⟩ := box_cfg (heap_keep Hbox.out hbr)
      simp only at e0 e1 e2 e3 e4 e5
      have q2 := cell_of_heap (i := 2) (heap_keep Hpb.out hbr) rfl
      go_wp2_with fail
      clear e0 e1 e2 e3 e4 e5 q2
      obtain ⟨e0, e1, e2, e3, e4, e5⟩ := box_later (heap_keep Hbox.out hbr)
      have q0 := cells_later (heap_keep Hpb.out hbr) 0 rfl
      have q1 := cells_later (heap_keep Hpb.out hbr) 1 rfl
      have q2 := cells_later (heap_keep Hpb.out hbr) 2 rfl
      have q3 := cells_later (heap_keep Hpb.out hbr) 3 rfl
      have hu : inC c p k = usedP c.wins p.id (k * p.period) ((k + 1) * p.period) := rfl
      go_region_held3 (fun W => Below wr.heap.size wr W) (first | assumption | exact (Below.refl _ _).drew) (first
        | (go_at_call 64; refine (refIn_c _ c ⟨some ⟨b, o, none⟩, k1, a2, k2, a3, k3, a4, k4, a5, k5⟩ (hc1.out.below (bthen hbr (by assumption))) Hap.out p hok.1 hP k count (by omega) HF.out hlt).mono ?_; rintro e w6 ⟨rfl, hb6⟩; have hS := bthen (w := wr) (by assumption) hb6))
      have hbf := bthen hbr hS
      have hbw := bthen hb1 hbf
      clear hb6 hS e0 e1 e2 e3 e4 e5 q0 q1 q2 q3
      obtain ⟨U, hU⟩ : ∃ U, usedP c.wins p.id (k * p.period) ((k + 1) * p.period) = U := ⟨_, rfl⟩
      rw [hU] at hu ⊢
      by_cases hsh : U < p.dur
      · have hfin : Hid (r = ((k : Int), true)) := by
          rw [← Hr.out]
          exact firstAll_at hlt (fun j hj => Int.not_lt.2 (hbef.out j hj)) (by rw [hu]; exact hsh)
        have hsb : decide (U < p.dur) = true := by simpa using hsh
        clear hU hu
        go_wp2
        go_ret2
        exact ⟨by rw [hfin.out]; rfl, hbw⟩
      · have hnext : Hid (∀ j : Nat, j < k + 1 → p.dur ≤ inC c p j) := by
          intro j hj
          rcases Nat.lt_succ_iff_lt_or_eq.1 hj with h | rfl
          · exact hbef.out j h
          · rw [hu]; exact Int.not_lt.1 hsh
        have hsb : decide (U < p.dur) = false := by simpa using hsh
        clear hU hu
        go_wp2
        go_roundw
        case rel => exact ⟨k + 1, by omega, by go_num, hnext, hbf⟩
        case measure => simp [intOf]; omega
    · have hfin : Hid (r = (0, false)) := by
        rw [← Hr.out]
        exact firstAll_no (fun j hj => Int.not_lt.2 (hbef.out j (by omega)))
      obtain ⟨e0, e1, e2, e3, e4, e5⟩ := box_cfg (heap_keep Hbox.out hbr)
      simp only at e0 e1 e2 e3 e4 e5
      have q2 := cell_of_heap (i := 2) (heap_keep Hpb.out hbr) rfl
      have hbw := bthen hb1 hbr
      go_wp2
      go_ret2
      exact ⟨by rw [hfin.out]; rfl, hbw⟩

set_option maxHeartbeats 1000000 in
theorem refLeast_c (w : World) (c : Cfg) (A : Adr) (hc : CfgAt w c A) (hap : Apart c.frame c.wins) (i : Nat) (hi : i < c.parts.length) (hP : 0 < c.parts[i].period) (count : Int) (hcnt : 0 ≤ count) (hF : c.frame = count * c.parts[i].period) :
    Calls Try.prog 28 #[cfgVal c A, .int .i64 i] w fun e w' => e = .returned (.int .u64 (leastOf c.parts[i].period ((periodsOf count).map (inC c c.parts[i])))) ∧ Below w.heap.size w w' := by
  have hfr := hc.ok.frame
  have hok := hc.ok.parts _ (List.getElem_mem hi)
  have hq := quo_count hP hF
  have hn := hc.ok.nparts
  unfold U64 at hfr
  obtain ⟨p, hp⟩ : ∃ p, c.parts[i] = p := ⟨_, rfl⟩
  rw [hp] at hP hok hF hq ⊢
  have hperiods : periodsOf count = periodsOf (count.toNat : Nat) := by rw [show ((count.toNat : Nat) : Int) = count by omega]
  have hcc := hc
  have hctop : count ≤ c.frame := by have := Int.mul_le_mul_of_nonneg_left (show (1 : Int) ≤ p.period by omega) hcnt; omega
  obtain ⟨a1, k1, a2, k2, a3, k3, a4, k4, a5, k5⟩ := A
  obtain ⟨b, o, rfl, hb0, h0, h1, h2, h3⟩ := hc.parts.part hi
  rw [hp] at h0 h1 h2 h3
  simp only [cfgVal, cfgCells]
  go_enter Try.func28, Try.ntmps28
  have HF := hid hF
  have Hcc := hid hcc
  have Hap := hid hap
  have Hperiods := hid hperiods
  clear hF hcc hc hap hp hperiods
  go_wp2
  refine wp_name (fun W => Below w.heap.size w W ∧ W.heap[w.heap.size]? = some (.cells (cfgCells c ⟨some ⟨b, o, none⟩, k1, a2, k2, a3, k3, a4, k4, a5, k5⟩) 29 (0, 0)) ∧ W.heap[w.heap.size + 1]? = some (.cells #[.int .u16 p.id, .string p.name, .int .u64 p.period, .int .u64 p.dur] 36 (0, 0))) ⟨(below_new _ _).alloc (by simp) _, by repeat (first | (refine heap_at ?_; simp; done) | refine heap_alloc' ?_ _), by repeat (first | (refine heap_at ?_; simp; done) | refine heap_alloc' ?_ _)⟩ ?_
  rintro w1 ⟨hb1, hbox, hpb⟩
  have hc1 := hid (Hcc.out.below hb1)
  have Hbox := hid hbox
  have Hpb := hid hpb
  clear Hcc hbox hpb h0 h1 h2 h3
  go_loopw [6, 7] (fun m n wr => ∃ k : Nat, (k : Int) ≤ count ∧ n = .int .u64 k ∧ m = .int .u64 (leastOf p.period ((periodsOf k).map (inC c p))) ∧ Below w1.heap.size w1 wr) (fun _ n _ => count.toNat - (intOf n).toNat)
  case atStart => exact ⟨0, by omega, rfl, rfl, Below.refl _ _⟩
  case round =>
    obtain ⟨k, hkn, rfl, rfl, hbr⟩ := hrel
    obtain ⟨e0, e1, e2, e3, e4, e5⟩ := box_cfg (heap_keep Hbox.out hbr)
    simp only at e0 e1 e2 e3 e4 e5
    have q0 := cell_of_heap (i := 0) (heap_keep Hpb.out hbr) rfl
    have q1 := cell_of_heap (i := 1) (heap_keep Hpb.out hbr) rfl
    have q2 := cell_of_heap (i := 2) (heap_keep Hpb.out hbr) rfl
    have q3 := cell_of_heap (i := 3) (heap_keep Hpb.out hbr) rfl
    by_cases hlt : (k : Int) < count
    · have hsucc : Hid (leastOf p.period ((periodsOf ((k + 1 : Nat) : Int)).map (inC c p)) = min (leastOf p.period ((periodsOf k).map (inC c p))) (inC c p k)) := by
        have : periodsOf ((k + 1 : Nat) : Int) = periodsOf k ++ [(k : Int)] := by
          unfold periodsOf
          rw [show ((k + 1 : Nat) : Int).toNat = k + 1 by omega, show ((k : Nat) : Int).toNat = k by omega, List.range_succ, List.map_append]; rfl
        rw [Hid, this, List.map_append, List.map_cons, List.map_nil, leastOf_snoc]
      obtain ⟨L, hL⟩ : ∃ L, leastOf p.period ((periodsOf k).map (inC c p)) = L := ⟨_, rfl⟩
      rw [hL] at hsucc ⊢
      have hcr := hid (hc1.out.below hbr)
      go_wp2_with fail
      refine (refIn_c _ c ⟨some ⟨b, o, none⟩, k1, a2, k2, a3, k3, a4, k4, a5, k5⟩ hcr.out Hap.out p hok.1 hP k count (by omega) HF.out hlt).mono ?_
      rintro e w6 ⟨rfl, hb6⟩
      rw [show usedP c.wins p.id (k * p.period) ((k + 1) * p.period) = inC c p k from rfl]
      obtain ⟨U, hU⟩ : ∃ U, inC c p k = U := ⟨_, rfl⟩
      rw [hU] at hsucc ⊢
      have hbf := bthen hbr hb6
      clear hb6 e0 e1 e2 e3 e4 e5 q0 q1 q2 q3 hU hL
      go_wp2
      refine ⟨⟨k + 1, by omega, by go_num, ?_, hbf⟩, by simp [intOf]; omega⟩
      rw [hsucc.out]
      congr 1
      omega
    · have hke : count = k := by omega
      have hbw := bthen hb1 hbr
      go_wp2
      go_ret
      exact ⟨rfl, hbw⟩
end Go.Proofs.Ytlccbejhamkdoaa
