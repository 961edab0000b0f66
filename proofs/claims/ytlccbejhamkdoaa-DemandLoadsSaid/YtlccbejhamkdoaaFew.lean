/- Counts and Few of fenestraref05 -/
import Derived.Test.YtlccbejhamkdoaaAux
namespace Go.Proofs.Ytlccbejhamkdoaa
open Go.RowKit

/-- the number of links, as 64 bits count it -/
def linksW (l : List Chn) : Nat → Int
  | 0 => 0
  | k + 1 => wrap64 (linksW l k + ((l[k]?.map (fun x => x.dests.length)).getD 0 : Nat))
theorem linksW_succ {l : List Chn} {k : Nat} (h : k < l.length) : linksW l (k + 1) = wrap64 (linksW l k + (l[k].dests.length : Nat)) := by
  simp [linksW, List.getElem?_eq_getElem h]

set_option maxHeartbeats 400000 in
theorem Counts_c (w : World) (c : Cfg) (A : Adr) (hc : CfgAt w c A) :
    Calls Try.prog 34 #[cfgVal c A] w fun e w' => e = .returned (.agg #[.int .i64 0, .int .i64 c.parts.length, .int .i64 c.wins.length, .int .i64 c.regs.length, .int .i64 c.ports.length, .int .i64 c.chans.length, .int .i64 (linksW c.chans c.chans.length)]) ∧ Below w.heap.size w w' := by
  obtain ⟨a1, k1, a2, k2, a3, k3, a4, k4, a5, k5⟩ := A
  have hn := hc.ok.nchans
  simp only [cfgVal, cfgCells]
  go_enter Try.func34, Try.ntmps34
  go_wp2
  refine wp_name (fun W => Below w.heap.size w W ∧ W.heap.size = w.heap.size + 2 ∧ W.heap[w.heap.size]? = some (.cells (cfgCells c ⟨a1, k1, a2, k2, a3, k3, a4, k4, a5, k5⟩) 29 (0, 0)) ∧ W.heap[w.heap.size + 1]? = some (.cells #[.int .i64 0, .int .i64 0, .int .i64 0, .int .i64 0, .int .i64 0, .int .i64 0, .int .i64 0] 58 (0, 0))) ⟨(below_new _ _).alloc (by simp) _, by simp, by repeat (first | (refine heap_at ?_; simp; done) | refine heap_alloc' ?_ _), by repeat (first | (refine heap_at ?_; simp; done) | refine heap_alloc' ?_ _)⟩ ?_
  rintro w1 ⟨hb1, -, hbox, hres⟩
  have hrow := (hc.below hb1).chans
  obtain ⟨e0, e1, e2, e3, e4, e5⟩ := box_cfg hbox
  simp only at e0 e1 e2 e3 e4 e5
  have Hres := hid hres
  clear hbox hc hres e0
  go_loop [3, 4] (fun n i => ∃ k : Nat, k ≤ c.chans.length ∧ i = .int .i64 k ∧ n = .int .i64 (linksW c.chans k)) (fun _ i => c.chans.length - (intOf i).toNat)
  case atStart => exact ⟨0, Nat.zero_le _, rfl, rfl⟩
  case round =>
    obtain ⟨k, hkn, rfl, rfl⟩ := hrel
    by_cases hlt : k < c.chans.length
    · obtain ⟨b, o, d, cc, rfl, hb0, h0, h1, h2, hcc, _⟩ := hrow.chn hlt
      have hs := linksW_succ hlt
      have Hs := hid hs
      clear hs hrow h0 h1 e1 e2 e3 e4
      go_wp2
      go_round
      case rel => exact ⟨k + 1, by omega, by go_num, by rw [Hs.out]⟩
      case measure => simp [intOf]; omega
    · have hke : k = c.chans.length := by omega
      subst hke
      have q0 := cell_of_heap (i := 0) Hres.out rfl
      have q1 := cell_of_heap (i := 1) Hres.out rfl
      have q2 := cell_of_heap (i := 2) Hres.out rfl
      have q3 := cell_of_heap (i := 3) Hres.out rfl
      have q4 := cell_of_heap (i := 4) Hres.out rfl
      have q5 := cell_of_heap (i := 5) Hres.out rfl
      have q6 := cell_of_heap (i := 6) Hres.out rfl
      have qf : ∀ i, w1.frozen? ⟨w.heap.size + 1, i, none⟩ = false := fun i => free_of_heap Hres.out
      clear hrow
      go_wp2
      refine bodyPost_seven rfl rfl rfl (set7 Hres.out _ _ _ _ _ _ _) ⟨rfl, ?_⟩
      exact bset (bset (bset (bset (bset (bset (bset hb1 (by simp) _ _) (by simp) _ _) (by simp) _ _) (by simp) _ _) (by simp) _ _) (by simp) _ _) (by simp) _ _

/-- whether a configuration has few records with short names, as the reference reckons it -/
def few (c : Cfg) : Bool := (c.parts.all fun p => decide (p.name.size ≤ 1000)) && (c.ports.all fun p => decide (p.name.size ≤ 1000)) &&
  decide (wrap64 ((c.parts.length : Int) + c.wins.length + c.regs.length + c.ports.length + c.chans.length + linksW c.chans c.chans.length) ≤ 120)

theorem all_no {α : Type} {l : List α} {p : α → Bool} {k : Nat} (h : k < l.length) (hp : p l[k] = false) : l.all p = false := by
  rw [List.all_eq_false]
  exact ⟨l[k], List.getElem_mem h, by simp [hp]⟩
theorem all_yes {α : Type} {l : List α} {p : α → Bool} (h : ∀ k (hk : k < l.length), p l[k] = true) : l.all p = true := by
  rw [List.all_eq_true]
  intro x hx
  obtain ⟨k, hk, rfl⟩ := List.getElem_of_mem hx
  exact h k hk

set_option maxHeartbeats 1000000 in
theorem Few_c (w : World) (c : Cfg) (A : Adr) (hc : CfgAt w c A) :
    Calls Try.prog 8 #[cfgVal c A] w fun e w' => e = .returned (.bool (few c)) ∧ Below w.heap.size w w' := by
  obtain ⟨a1, k1, a2, k2, a3, k3, a4, k4, a5, k5⟩ := A
  have n1 := hc.ok.nparts
  have n2 := hc.ok.nwins
  have n3 := hc.ok.nregs
  have n4 := hc.ok.nports
  have n5 := hc.ok.nchans
  have hok := hid hc.ok
  obtain ⟨f, hf⟩ : ∃ f, few c = f := ⟨_, rfl⟩
  rw [hf]
  have Hf := hid hf
  clear hf
  simp only [cfgVal, cfgCells]
  go_enter Try.func8, Try.ntmps8
  go_wp2_with fail
  have hc0 := hid hc
  have hcw := hc.below (below_new w (.cells (cfgCells c ⟨a1, k1, a2, k2, a3, k3, a4, k4, a5, k5⟩) 29))
  refine (Counts_c _ c ⟨a1, k1, a2, k2, a3, k3, a4, k4, a5, k5⟩ hcw).mono ?_
  rintro e w2 ⟨rfl, hb2⟩
  have hb02 : Below w.heap.size w w2 := bthen (below_new _ _) hb2
  have hbox2 := heap_keep (heap_new w (.cells (cfgCells c ⟨a1, k1, a2, k2, a3, k3, a4, k4, a5, k5⟩) 29)) hb2
  have hc2 := hc.below hb02
  clear hc hcw hb2
  go_wp2
  have hs2 := hb02.size
  have hlt2 := lt_of_block hbox2
  refine wp_name (fun W => Below w.heap.size w W ∧ W.heap[w.heap.size]? = some (.cells (cfgCells c ⟨a1, k1, a2, k2, a3, k3, a4, k4, a5, k5⟩) 29 (0, 0)) ∧ W.heap[w2.heap.size]? = some (.cells #[.int .i64 0, .int .i64 c.parts.length, .int .i64 c.wins.length, .int .i64 c.regs.length, .int .i64 c.ports.length, .int .i64 c.chans.length, .int .i64 (linksW c.chans c.chans.length)] 58 (0, 0))) ⟨hb02.alloc hs2 _, heap_alloc' hbox2 _, heap_new _ _⟩ ?_
  rintro w3 ⟨hb3, hbox3, hn3⟩
  obtain ⟨e0, e1, e2, e3, e4, e5⟩ := box_cfg hbox3
  simp only at e0 e1 e2 e3 e4 e5
  have hc3 := hid (hc0.out.below hb3)
  have hsev := hid hn3
  clear hc2 hbox2 hbox3 hn3 hb02 hs2 e0 e2 e3 e5
  go_loop [4] (fun i => ∃ k : Nat, k ≤ c.parts.length ∧ i = .int .i64 k ∧ Hid (∀ j (hj : j < c.parts.length), j < k → c.parts[j].name.size ≤ 1000)) (fun i => c.parts.length - (intOf i).toNat)
  case atStart => exact ⟨0, Nat.zero_le _, rfl, fun j _ hj => by omega⟩
  case round =>
    obtain ⟨k, hkn, rfl, Hk⟩ := hrel
    by_cases hlt : k < c.parts.length
    · obtain ⟨b, o, ha, hb0, h0, h1, h2, h3⟩ := hc3.out.parts.part hlt
      simp only at ha
      subst ha
      have hsz := (hok.out.parts c.parts[k] (List.getElem_mem hlt)).2.1
      clear h0 h2 h3 e4
      by_cases hl : 1000 < c.parts[k].name.size
      · have hfin : Hid (f = false) := by
          rw [← Hf.out]; unfold few
          rw [all_no (l := c.parts) hlt (by simpa using hl)]; rfl
        go_wp2
        go_ret
        exact ⟨ret_bool hfin.out.symm, hb3⟩
      · have hnext : Hid (∀ j (hj : j < c.parts.length), j < k + 1 → c.parts[j].name.size ≤ 1000) := by
          intro j hj hjk
          rcases Nat.lt_succ_iff_lt_or_eq.1 hjk with h | rfl
          · exact Hk.out j hj h
          · omega
        go_wp2
        go_round
        case rel => exact ⟨k + 1, by omega, by go_num, hnext⟩
        case measure => simp [intOf]; omega
    · have hp : Hid (∀ j (hj : j < c.parts.length), c.parts[j].name.size ≤ 1000) := fun j hj => Hk.out j hj (by omega)
      go_wp2
      go_loop [5] (fun i => ∃ k : Nat, k ≤ c.ports.length ∧ i = .int .i64 k ∧ Hid (∀ j (hj : j < c.ports.length), j < k → c.ports[j].name.size ≤ 1000)) (fun i => c.ports.length - (intOf i).toNat)
      case atStart => exact ⟨0, Nat.zero_le _, rfl, fun j _ hj => by omega⟩
      case round =>
        obtain ⟨k, hkn, rfl, Hk⟩ := hrel
        by_cases hlt : k < c.ports.length
        · obtain ⟨b, o, ha, hb0, h0, h1, h2, h3, h4, h5⟩ := hc3.out.ports.prt hlt
          simp only at ha
          subst ha
          have hsz := (hok.out.ports c.ports[k] (List.getElem_mem hlt)).2.2.1
          clear h0 h1 h3 h4 h5 e1
          by_cases hl : 1000 < c.ports[k].name.size
          · have hfin : Hid (f = false) := by
              show f = false
              rw [← Hf.out]; unfold few
              rw [all_no (l := c.ports) hlt (by simpa using hl)]; simp
            go_wp2
            go_ret
            exact ⟨ret_bool hfin.out.symm, hb3⟩
          · have hnext : Hid (∀ j (hj : j < c.ports.length), j < k + 1 → c.ports[j].name.size ≤ 1000) := by
              intro j hj hjk
              rcases Nat.lt_succ_iff_lt_or_eq.1 hjk with h | rfl
              · exact Hk.out j hj h
              · omega
            go_wp2
            go_round
            case rel => exact ⟨k + 1, by omega, by go_num, hnext⟩
            case measure => simp [intOf]; omega
        · have hq : Hid (∀ j (hj : j < c.ports.length), c.ports[j].name.size ≤ 1000) := fun j hj => Hk.out j hj (by omega)
          have q1 := cell_of_heap (i := 1) hsev.out rfl
          have q2 := cell_of_heap (i := 2) hsev.out rfl
          have q3 := cell_of_heap (i := 3) hsev.out rfl
          have q4 := cell_of_heap (i := 4) hsev.out rfl
          have q5 := cell_of_heap (i := 5) hsev.out rfl
          have q6 := cell_of_heap (i := 6) hsev.out rfl
          have hfin : Hid (f = decide (wrap64 ((c.parts.length : Int) + c.wins.length + c.regs.length + c.ports.length + c.chans.length + linksW c.chans c.chans.length) ≤ 120)) := by
            show f = _
            rw [← Hf.out]; unfold few
            rw [all_yes (l := c.parts) (fun k hk => by simpa using hp.out k hk), all_yes (l := c.ports) (fun k hk => by simpa using hq.out k hk)]
            simp
          go_wp2
          go_ret
          exact ⟨ret_bool hfin.out.symm, hb3⟩
end Go.Proofs.Ytlccbejhamkdoaa
