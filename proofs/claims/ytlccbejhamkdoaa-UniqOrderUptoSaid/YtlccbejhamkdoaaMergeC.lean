/- slices.Clone of identifiers, conf.Merge, conf.Clone -/
import Derived.Test.YtlccbejhamkdoaaMergeB
import Derived.Test.YtlccbejhamkdoaaRefC
import Derived.Lib.SliceRun
namespace Go.Proofs.Ytlccbejhamkdoaa
open Go.RowKit

set_option maxHeartbeats 1000000 in
set_option maxRecDepth 100000 in
theorem clone16_c (w : World) (d : Option Addr) (cap : Nat) (l : List Int) (hrow : RowAt 1 (fun n => [.int .u16 n]) w d l) (hlen : l.length * 2 ≤ 140737488355328) :
    Calls Try.prog 77 #[.slice d l.length cap] w fun e w' => ∃ d' cap', e = .returned (.slice d' l.length cap') ∧
      w'.ownsRow w.heap.size 34 1 (.slice d' l.length cap') l.length (l.flatMap fun n => [.int .u16 n]) ∧ Below w.heap.size w w' := by
  have q60 : ∀ (w : World) (a : Option Addr) (n c n' c' : Nat), (binOp .eql 42 (.slice a n c) (.slice none n' c')).run Try.prog w = .ok (.bool a.isNone) w := fun w a n c n' c' => Lib.run_eql_slice_nil w _ _ a n c n' c' Try.underlying42
  cases d with
  | none =>
    have hl : l = [] := by
      cases l with
      | nil => rfl
      | cons u r => obtain ⟨b, o, hb', _⟩ := hrow 0 u rfl; cases hb'
    subst hl
    go_enter Try.func77, Try.ntmps77
    go_wp2
    go_ret
    exact ⟨none, 0, rfl, World.ownsRow_nil _ _ _ _, Below.refl _ _⟩
  | some ad =>
    have Hrow := hid hrow
    have Hmade := hid (World.ownsRow_made (base := w.heap.size) (e := 34) (size := 1) w #[] 0 (Nat.le_refl _) (by decide) rfl)
    clear hrow
    go_enter Try.func77, Try.ntmps77
    go_wp2_with (at_builtin; refine stop ?_)
    refine go_on ?_
    refine wp_append_src rfl _ _ 42 34 rfl (z := .int .u16 0) (size := 1) (bytes := 2) Try.underlying42 info_u16 rfl (by decide) _ w.heap.size _ 0 [] (l.flatMap fun n => [.int .u16 n]) (some ad) l.length cap rfl rfl (by exact Hmade.out) ((Hrow.out.below (below_new _ _)).src (fun _ => rfl)) (by rw [flat_len (sz := 1) (fun _ => rfl)]) (by intro u hu; simp only [List.mem_flatMap, List.mem_singleton] at hu; obtain ⟨x, _, rfl⟩ := hu; rfl) (by omega) (by omega) (by simp) ?_
    intro v' w' hown' hg
    obtain ⟨d', cap', rfl, _⟩ := own_slice hown'
    rw [Nat.zero_add] at hown'
    rw [List.nil_append] at hown'
    have Hown' := hid hown'
    have Hb := hid (bgrown (below_new w _) hg (Nat.le_refl _))
    clear hown' hg
    go_wp2
    go_ret
    exact ⟨d', cap', rfl, Hown'.out, Hb.out⟩
theorem fa1 {α : Type} {enc : α → List Value} (h : ∀ x, ∀ v ∈ enc x, v.oneCell' = true) (l : List α) : ∀ u ∈ l.flatMap enc, u.oneCell' = true := by
  intro u hu
  obtain ⟨x, _, hx⟩ := List.mem_flatMap.1 hu
  exact h x u hx
theorem one_part : ∀ x, ∀ v ∈ encPart x, v.oneCell' = true := by intro x v hv; simp only [encPart, List.mem_cons, List.not_mem_nil, or_false] at hv; rcases hv with rfl | rfl | rfl | rfl <;> rfl
theorem one_win : ∀ x, ∀ v ∈ encWin x, v.oneCell' = true := by intro x v hv; simp only [encWin, List.mem_cons, List.not_mem_nil, or_false] at hv; rcases hv with rfl | rfl | rfl <;> rfl
theorem one_reg : ∀ x, ∀ v ∈ encReg x, v.oneCell' = true := by intro x v hv; simp only [encReg, List.mem_cons, List.not_mem_nil, or_false] at hv; rcases hv with rfl | rfl | rfl | rfl | rfl <;> rfl
theorem one_prt : ∀ x, ∀ v ∈ encPrt x, v.oneCell' = true := by intro x v hv; simp only [encPrt, List.mem_cons, List.not_mem_nil, or_false] at hv; rcases hv with rfl | rfl | rfl | rfl | rfl | rfl <;> rfl

/-- the configurations in a row -/
def CfgsAt (w : World) (b o : Nat) (cs : List (Cfg × Adr)) : Prop := ∀ k x, cs[k]? = some x → CellsAt w b (o + k * 6) (cfgCells x.1 x.2).toList ∧ CfgAt w x.1 x.2
theorem CfgsAt.below {w w' : World} {b o : Nat} {cs : List (Cfg × Adr)} (h : CfgsAt w b o cs) (hb : Below w.heap.size w w') : CfgsAt w' b o cs :=
  fun k x hx => ⟨(h k x hx).1.below hb, (h k x hx).2.below hb⟩
theorem CfgsAt.get {w : World} {b o : Nat} {cs : List (Cfg × Adr)} (h : CfgsAt w b o cs) {k : Nat} (hk : k < cs.length) : b < w.heap.size ∧
    w.cell? ⟨b, o + k * 6, none⟩ = some (.int .u64 cs[k].1.frame) ∧ w.cell? ⟨b, o + k * 6 + 1, none⟩ = some (.slice cs[k].2.a1 cs[k].1.parts.length cs[k].2.k1) ∧
    w.cell? ⟨b, o + k * 6 + 2, none⟩ = some (.slice cs[k].2.a2 cs[k].1.wins.length cs[k].2.k2) ∧ w.cell? ⟨b, o + k * 6 + 3, none⟩ = some (.slice cs[k].2.a3 cs[k].1.regs.length cs[k].2.k3) ∧
    w.cell? ⟨b, o + k * 6 + 4, none⟩ = some (.slice cs[k].2.a4 cs[k].1.ports.length cs[k].2.k4) ∧ w.cell? ⟨b, o + k * 6 + 5, none⟩ = some (.slice cs[k].2.a5 cs[k].1.chans.length cs[k].2.k5) := by
  have hc := (h k cs[k] (List.getElem?_eq_getElem hk)).1
  exact ⟨hc.lt (by simp [cfgCells]), hc 0 _ rfl, hc 1 _ rfl, hc 2 _ rfl, hc 3 _ rfl, hc 4 _ rfl, hc 5 _ rfl⟩

/-- all sections stay small -/
def Room (c : Cfg) : Prop := c.parts.length ≤ 4194304 ∧ c.wins.length ≤ 4194304 ∧ c.regs.length ≤ 4194304 ∧ c.ports.length ≤ 4194304 ∧ c.chans.length ≤ 4194304

theorem cells6 {w : World} {b : Nat} {x0 x1 x2 x3 x4 x5 : Value} {t : TypeId} {f : Nat × Nat} (h : w.heap[b]? = some (.cells #[x0, x1, x2, x3, x4, x5] t f)) :
    w.cell? ⟨b, 0, none⟩ = some x0 ∧ w.cell? ⟨b, 1, none⟩ = some x1 ∧ w.cell? ⟨b, 2, none⟩ = some x2 ∧ w.cell? ⟨b, 3, none⟩ = some x3 ∧ w.cell? ⟨b, 4, none⟩ = some x4 ∧ w.cell? ⟨b, 5, none⟩ = some x5 :=
  ⟨cell_of_heap h rfl, cell_of_heap h rfl, cell_of_heap h rfl, cell_of_heap h rfl, cell_of_heap h rfl, cell_of_heap h rfl⟩
theorem MIn.mid {w1 w w' : World} {d c : Cfg} {A : Adr} {T : Nat} {s1 s2 s3 s4 s5 s : Value} {e : TypeId} {sz n : Nat} {xs : List Value} (h : MIn w1 d s1 s2 s3 s4 s5 T c A w) (ho : w.ownsRow w1.heap.size e sz s n xs) (hne : 29 ≠ e) (hg : w.grownBy w' s.ownBlock) :
    w'.heap[w1.heap.size + 1]? = some (.cells #[.int .u64 d.frame, s1, s2, s3, s4, s5] 29 (0, 0)) ∧ w'.heap[T]? = some (.cells (cfgCells c A) 29 (0, 0)) :=
  ⟨KeptE.grown ho hg hne _ _ _ h.m.box, KeptE.grown ho hg hne _ _ _ h.tb⟩
theorem OwnCfg.set {w : World} {base b i : Nat} {c : Cfg} {s1 s2 s3 s4 s5 : Value} {cur : Array Value} {f : Nat × Nat} (h : OwnCfg w base c s1 s2 s3 s4 s5) (hb : w.heap[b]? = some (.cells cur 29 f)) (v : Value) : OwnCfg (w.setCell ⟨b, i, none⟩ v) base c s1 s2 s3 s4 s5 :=
  ⟨own_kept h.o1 (.set hb (by decide) v), own_kept h.o2 (.set hb (by decide) v), own_kept h.o3 (.set hb (by decide) v), own_kept h.o4 (.set hb (by decide) v), by
    obtain ⟨xs, h1, h2⟩ := h.o5
    exact ⟨xs, own_kept h1 (.set hb (by decide) v), h2.kept (.set hb (by decide) v)⟩⟩
theorem set6 {w : World} {b : Nat} {a0 a1 a2 a3 a4 a5 : Value} {t : TypeId} {f : Nat × Nat} (h : w.heap[b]? = some (.cells #[a0, a1, a2, a3, a4, a5] t f)) (x0 x1 x2 x3 x4 x5 : Value) :
    ((((((w.setCell ⟨b, 0, none⟩ x0).setCell ⟨b, 1, none⟩ x1).setCell ⟨b, 2, none⟩ x2).setCell ⟨b, 3, none⟩ x3).setCell ⟨b, 4, none⟩ x4).setCell ⟨b, 5, none⟩ x5).heap[b]? = some (.cells #[x0, x1, x2, x3, x4, x5] t f) := by
  rw [heap_set (heap_set (heap_set (heap_set (heap_set (heap_set h x0) x1) x2) x3) x4) x5]; rfl
theorem OwnCfg.set6 {w : World} {base b : Nat} {c : Cfg} {s1 s2 s3 s4 s5 : Value} {cur : Array Value} {f : Nat × Nat} (h : OwnCfg w base c s1 s2 s3 s4 s5) (hb : w.heap[b]? = some (.cells cur 29 f)) (x0 x1 x2 x3 x4 x5 : Value) :
    OwnCfg ((((((w.setCell ⟨b, 0, none⟩ x0).setCell ⟨b, 1, none⟩ x1).setCell ⟨b, 2, none⟩ x2).setCell ⟨b, 3, none⟩ x3).setCell ⟨b, 4, none⟩ x4).setCell ⟨b, 5, none⟩ x5) base c s1 s2 s3 s4 s5 :=
  (((((h.set hb x0).set (heap_set hb x0) x1).set (heap_set (heap_set hb x0) x1) x2).set (heap_set (heap_set (heap_set hb x0) x1) x2) x3).set (heap_set (heap_set (heap_set (heap_set hb x0) x1) x2) x3) x4).set (heap_set (heap_set (heap_set (heap_set (heap_set hb x0) x1) x2) x3) x4) x5
theorem bset6 {w W : World} {b : Nat} (h : Below w.heap.size w W) (hb : w.heap.size ≤ b) (x0 x1 x2 x3 x4 x5 : Value) :
    Below w.heap.size w ((((((W.setCell ⟨b, 0, none⟩ x0).setCell ⟨b, 1, none⟩ x1).setCell ⟨b, 2, none⟩ x2).setCell ⟨b, 3, none⟩ x3).setCell ⟨b, 4, none⟩ x4).setCell ⟨b, 5, none⟩ x5) :=
  bset (bset (bset (bset (bset (bset h hb 0 x0) hb 1 x1) hb 2 x2) hb 3 x3) hb 4 x4) hb 5 x5
theorem bodyPost_six {fn : Func} {R : Ending → World → Prop} {a : Act} {w : World} {p : Tmp} (hres : fn.results = #[.cell p 29]) (hd : a.defers = []) {b : Nat} (hp : a.tmps.getD p undef = .pointer (some ⟨b, 0, none⟩))
    {x0 x1 x2 x3 x4 x5 : Value} {t : TypeId} {f : Nat × Nat} (hh : w.heap[b]? = some (.cells #[x0, x1, x2, x3, x4, x5] t f)) (hR : R (.returned (.agg #[x0, x1, x2, x3, x4, x5])) w) : bodyPost Try.prog fn R .ret a w := by
  have h0 : w.cell? ⟨b, 0, none⟩ = some x0 := cell_of_heap hh rfl
  have h1 : w.cell? ⟨b, 1, none⟩ = some x1 := cell_of_heap hh rfl
  have h2 : w.cell? ⟨b, 2, none⟩ = some x2 := cell_of_heap hh rfl
  have h3 : w.cell? ⟨b, 3, none⟩ = some x3 := cell_of_heap hh rfl
  have h4 : w.cell? ⟨b, 4, none⟩ = some x4 := cell_of_heap hh rfl
  have h5 : w.cell? ⟨b, 5, none⟩ = some x5 := cell_of_heap hh rfl
  refine bodyPost_ret (v := .agg #[x0, x1, x2, x3, x4, x5]) ?_ hd hR
  simp only [Array.getD_eq_getD_getElem?] at hp
  simp [results, hres, go_sem, hp, h0, h1, h2, h3, h4, h5]
theorem room_snoc {fr : Int} {cs : List (Cfg × Adr)} {k : Nat} {c : Cfg} {A : Adr} (hk : cs[k]? = some (c, A)) : joinCfg fr ((cs.take (k + 1)).map (·.1)) =
    { frame := fr, parts := (joinCfg fr ((cs.take k).map (·.1))).parts ++ c.parts, wins := (joinCfg fr ((cs.take k).map (·.1))).wins ++ c.wins, regs := (joinCfg fr ((cs.take k).map (·.1))).regs ++ c.regs, ports := (joinCfg fr ((cs.take k).map (·.1))).ports ++ c.ports, chans := (joinCfg fr ((cs.take k).map (·.1))).chans ++ c.chans } := by
  rw [List.take_add_one, hk, ← joinCfg_snoc]
  simp

set_option maxHeartbeats 4000000 in
set_option maxRecDepth 100000 in
theorem Merge_c (w : World) (fr : Int) (cs : List (Cfg × Adr)) (b o cap : Nat) (hin : CfgsAt w b o cs) (hcs : cs.length ≤ 1000) (hds : ∀ (k : Nat) (x : Cfg × Adr), cs[k]? = some x → ∀ y ∈ x.1.chans, y.dests.length ≤ 4194304) (hroom : ∀ k, k ≤ cs.length → Room (joinCfg fr ((cs.take k).map (·.1)))) :
    Calls Try.prog 39 #[.int .u64 fr, .slice (some ⟨b, o, none⟩) cs.length cap] w fun e w' => ∃ s1 s2 s3 s4 s5, e = .returned (.agg #[.int .u64 fr, s1, s2, s3, s4, s5]) ∧
      OwnCfg w' w.heap.size (joinCfg fr (cs.map (·.1))) s1 s2 s3 s4 s5 ∧ Below w.heap.size w w' := by
  have Hin := hid hin
  have Hroom := hid hroom
  have Hcs := hid hcs
  have Hds := hid hds
  clear hin hroom hcs hds
  go_enter Try.func39, Try.ntmps39
  go_wp2
  refine wp_name (fun W => MInv w (joinCfg fr []) (.slice none 0 0) (.slice none 0 0) (.slice none 0 0) (.slice none 0 0) (.slice none 0 0) W) ?_ ?_
  · refine ⟨(below_new _ _).alloc (by simp) _, ?_, ?_, ⟨World.ownsRow_nil _ _ _ _, World.ownsRow_nil _ _ _ _, World.ownsRow_nil _ _ _ _, World.ownsRow_nil _ _ _ _, [], World.ownsRow_nil _ _ _ _, rfl⟩⟩
    · repeat (first | (refine heap_at ?_; simp; done) | refine heap_alloc' ?_ _)
    · repeat (first | (refine heap_at ?_; simp; done) | refine heap_alloc' ?_ _)
  intro w0 hm0
  go_loopw [14] (fun i wr => ∃ k : Nat, k ≤ cs.length ∧ i = .int .i64 k ∧ ∃ s1 s2 s3 s4 s5, MInv w (joinCfg fr ((cs.take k).map (·.1))) s1 s2 s3 s4 s5 wr) (fun i _ => cs.length - (intOf i).toNat)
  case atStart => exact ⟨0, Nat.zero_le _, rfl, _, _, _, _, _, hm0⟩
  case round =>
    clear hm0
    obtain ⟨wt, rfl⟩ : ∃ wt : World, wt = wr := ⟨_, rfl⟩
    obtain ⟨k, hkn, rfl, s1, s2, s3, s4, s5, hm⟩ := hrel
    by_cases hlt : k < cs.length
    · obtain ⟨⟨c, A⟩, hcA⟩ : ∃ x, cs[k] = x := ⟨_, rfl⟩
      have hsome : cs[k]? = some (c, A) := by rw [List.getElem?_eq_getElem hlt, hcA]
      have hroom := Hroom.out (k + 1) hlt
      have Hs := hid (room_snoc (fr := fr) hsome)
      rw [Hs.out] at hroom
      obtain ⟨hr1, hr2, hr3, hr4, hr5⟩ := hroom
      simp only [List.length_append] at hr1 hr2 hr3 hr4 hr5
      obtain ⟨d, hd⟩ : ∃ d, joinCfg fr ((cs.take k).map (·.1)) = d := ⟨_, rfl⟩
      have hfr := hid (show d.frame = fr by rw [← hd]; rfl)
      rw [hd] at hm hr1 hr2 hr3 hr4 hr5 Hs
      have hat := Hin.out.below hm.below
      obtain ⟨hbw, p0, p1, p2, p3, p4, p5⟩ := hat.get hlt
      rw [hcA] at p0 p1 p2 p3 p4 p5
      simp only at p0 p1 p2 p3 p4 p5
      have Hc := hid (hat k _ hsome).2
      obtain ⟨q0, q1, q2, q3, q4, q5⟩ := cells6 hm.box
      have hbsz : w.heap.size + 1 < wt.heap.size := lt_of_block hm.box
      have Hm1 := hid (MIn.mk (T := wt.heap.size) (c := c) (A := A) (hm.next (below_new wt _)) hbsz (heap_new wt _))
      have Hm := hid hm
      have Hbw := hid hbw
      have HcA := hid hcA
      have Hsome := hid hsome
      have Hd := hid hd
      clear hm hat hbw hcA hsome hd
      -- STAGES (printed by gen_mergec.py)
      go_wp2_with (at_builtin; refine stop ?_)
      refine go_on ?_
      refine wp_append_src rfl _ _ 23 36 rfl (z := .agg #[.int .u16 0, .string ByteArray.empty, .int .u64 0, .int .u64 0]) (size := 4) (bytes := 40) Try.underlying23 info_part rfl (by decide) _ w.heap.size _ d.parts.length _ (c.parts.flatMap encPart) A.a1 c.parts.length A.k1 rfl rfl (by exact Hm1.out.m.own.o1) (((Hin.out k _ Hsome.out).2.below Hm1.out.m.below).parts.src (fun _ => rfl)) (by rw [flat_len (sz := 4) (fun _ => rfl)]) (fa1 one_part _) (by omega) (by omega) (by exact Hm1.out.m.below.size) ?_
      intro v1 w1 hown hg
      obtain ⟨e1, f1, rfl, _⟩ := own_slice hown
      obtain ⟨hB, hT⟩ := Hm1.out.mid Hm1.out.m.own.o1 (by decide) hg
      have Hm2 := hid (Hm1.out.step1 c.parts hown hg)
      obtain ⟨y0, y1, y2, y3, y4, y5⟩ := cells6 hB
      obtain ⟨t0, t1, t2, t3, t4, t5⟩ := cells6 hT
      have hf : ∀ i, w1.frozen? ⟨w.heap.size + 1, i, none⟩ = false := fun i => free_of_heap hB
      clear hown hg hB hT p0 p1 p2 p3 p4 p5 q0 q1 q2 q3 q4 q5
      have z0 := y0; have z1 := y1; have z2 := y2; have z3 := y3; have z4 := y4; have z5 := y5
      have x0 := t0; have x1 := t1; have x2 := t2; have x3 := t3; have x4 := t4; have x5 := t5; have hg0 := hf
      clear y0 y1 y2 y3 y4 y5 t0 t1 t2 t3 t4 t5 hf
      go_wp2_with (at_builtin; refine stop ?_)
      refine go_on ?_
      refine wp_append_src rfl _ _ 24 91 rfl (z := .agg #[.int .u64 0, .int .u64 0, .int .u16 0]) (size := 3) (bytes := 24) Try.underlying24 info_win rfl (by decide) _ w.heap.size _ d.wins.length _ (c.wins.flatMap encWin) A.a2 c.wins.length A.k2 rfl rfl (by exact Hm2.out.m.own.o2) (((Hin.out k _ Hsome.out).2.below Hm2.out.m.below).wins.src (fun _ => rfl)) (by rw [flat_len (sz := 3) (fun _ => rfl)]) (fa1 one_win _) (by omega) (by omega) (by exact Hm2.out.m.below.size) ?_
      intro v2 w2 hown hg
      obtain ⟨e2, f2, rfl, _⟩ := own_slice hown
      obtain ⟨hB, hT⟩ := Hm2.out.mid Hm2.out.m.own.o2 (by decide) hg
      have Hm3 := hid (Hm2.out.step2 c.wins hown hg)
      obtain ⟨y0, y1, y2, y3, y4, y5⟩ := cells6 hB
      obtain ⟨t0, t1, t2, t3, t4, t5⟩ := cells6 hT
      have hf : ∀ i, w2.frozen? ⟨w.heap.size + 1, i, none⟩ = false := fun i => free_of_heap hB
      clear hown hg hB hT z0 z1 z2 z3 z4 z5 x0 x1 x2 x3 x4 x5 hg0
      have z0 := y0; have z1 := y1; have z2 := y2; have z3 := y3; have z4 := y4; have z5 := y5
      have x0 := t0; have x1 := t1; have x2 := t2; have x3 := t3; have x4 := t4; have x5 := t5; have hg0 := hf
      clear y0 y1 y2 y3 y4 y5 t0 t1 t2 t3 t4 t5 hf
      go_wp2_with (at_builtin; refine stop ?_)
      refine go_on ?_
      refine wp_append_src rfl _ _ 25 181 rfl (z := .agg #[.int .u64 0, .int .u64 0, .int .u16 0, .int .u8 0, .bool false]) (size := 5) (bytes := 24) Try.underlying25 info_reg rfl (by decide) _ w.heap.size _ d.regs.length _ (c.regs.flatMap encReg) A.a3 c.regs.length A.k3 rfl rfl (by exact Hm3.out.m.own.o3) (((Hin.out k _ Hsome.out).2.below Hm3.out.m.below).regs.src (fun _ => rfl)) (by rw [flat_len (sz := 5) (fun _ => rfl)]) (fa1 one_reg _) (by omega) (by omega) (by exact Hm3.out.m.below.size) ?_
      intro v3 w3 hown hg
      obtain ⟨e3, f3, rfl, _⟩ := own_slice hown
      obtain ⟨hB, hT⟩ := Hm3.out.mid Hm3.out.m.own.o3 (by decide) hg
      have Hm4 := hid (Hm3.out.step3 c.regs hown hg)
      obtain ⟨y0, y1, y2, y3, y4, y5⟩ := cells6 hB
      obtain ⟨t0, t1, t2, t3, t4, t5⟩ := cells6 hT
      have hf : ∀ i, w3.frozen? ⟨w.heap.size + 1, i, none⟩ = false := fun i => free_of_heap hB
      clear hown hg hB hT z0 z1 z2 z3 z4 z5 x0 x1 x2 x3 x4 x5 hg0
      have z0 := y0; have z1 := y1; have z2 := y2; have z3 := y3; have z4 := y4; have z5 := y5
      have x0 := t0; have x1 := t1; have x2 := t2; have x3 := t3; have x4 := t4; have x5 := t5; have hg0 := hf
      clear y0 y1 y2 y3 y4 y5 t0 t1 t2 t3 t4 t5 hf
      go_wp2_with (at_builtin; refine stop ?_)
      refine go_on ?_
      refine wp_append_src rfl _ _ 26 40 rfl (z := .agg #[.int .u16 0, .int .u16 0, .string ByteArray.empty, .bool false, .bool false, .int .u32 0]) (size := 6) (bytes := 32) Try.underlying26 info_prt rfl (by decide) _ w.heap.size _ d.ports.length _ (c.ports.flatMap encPrt) A.a4 c.ports.length A.k4 rfl rfl (by exact Hm4.out.m.own.o4) (((Hin.out k _ Hsome.out).2.below Hm4.out.m.below).ports.src (fun _ => rfl)) (by rw [flat_len (sz := 6) (fun _ => rfl)]) (fa1 one_prt _) (by omega) (by omega) (by exact Hm4.out.m.below.size) ?_
      intro v4 w4 hown hg
      obtain ⟨e4, f4, rfl, _⟩ := own_slice hown
      obtain ⟨hB, hT⟩ := Hm4.out.mid Hm4.out.m.own.o4 (by decide) hg
      have Hm5 := hid (Hm4.out.step4 c.ports hown hg)
      obtain ⟨y0, y1, y2, y3, y4, y5⟩ := cells6 hB
      obtain ⟨t0, t1, t2, t3, t4, t5⟩ := cells6 hT
      have hf : ∀ i, w4.frozen? ⟨w.heap.size + 1, i, none⟩ = false := fun i => free_of_heap hB
      clear hown hg hB hT z0 z1 z2 z3 z4 z5 x0 x1 x2 x3 x4 x5 hg0
      have z0 := y0; have z1 := y1; have z2 := y2; have z3 := y3; have z4 := y4; have z5 := y5
      have x0 := t0; have x1 := t1; have x2 := t2; have x3 := t3; have x4 := t4; have x5 := t5; have hg0 := hf
      clear y0 y1 y2 y3 y4 y5 t0 t1 t2 t3 t4 t5 hf
      go_wp2_with fail
      refine wp_name (fun W => ∃ s, MIn w { frame := d.frame, parts := d.parts ++ c.parts, wins := d.wins ++ c.wins, regs := d.regs ++ c.regs, ports := d.ports ++ c.ports, chans := d.chans ++ c.chans.take 0 } (.slice e1 (d.parts.length + c.parts.length) f1) (.slice e2 (d.wins.length + c.wins.length) f2) (.slice e3 (d.regs.length + c.regs.length) f3) (.slice e4 (d.ports.length + c.ports.length) f4) s wt.heap.size c A W) ⟨s5, by simpa using Hm5.out⟩ ?_
      rintro wo ⟨so, hmo⟩
      clear z0 z1 z2 z3 z4 z5 x0 x1 x2 x3 x4 x5 hg0 Hm1 Hm2 Hm3 Hm4 Hm5
      go_loopw [45] (fun i wq => ∃ j : Nat, j ≤ c.chans.length ∧ i = .int .i64 j ∧ ∃ s, MIn w { frame := d.frame, parts := d.parts ++ c.parts, wins := d.wins ++ c.wins, regs := d.regs ++ c.regs, ports := d.ports ++ c.ports, chans := d.chans ++ c.chans.take j } (.slice e1 (d.parts.length + c.parts.length) f1) (.slice e2 (d.wins.length + c.wins.length) f2) (.slice e3 (d.regs.length + c.regs.length) f3) (.slice e4 (d.ports.length + c.ports.length) f4) s wt.heap.size c A wq) (fun i _ => c.chans.length - (intOf i).toNat)
      case atStart => exact ⟨0, Nat.zero_le _, rfl, so, hmo⟩
      case round =>
        clear hmo
        obtain ⟨wq, rfl⟩ : ∃ wq : World, wq = wr := ⟨_, rfl⟩
        obtain ⟨j, hjn, rfl, s, hq⟩ := hrel
        by_cases hltj : j < c.chans.length
        · obtain ⟨b5, o5, dd, cc, ha5, hb5, g0, g1, g2, hdl, hdrow⟩ := ((Hin.out k _ Hsome.out).2.below hq.m.below).chans.chn hltj
          obtain ⟨x, hx⟩ : ∃ x, c.chans[j] = x := ⟨_, rfl⟩
          have hdx := Hds.out k _ Hsome.out c.chans[j] (List.getElem_mem hltj)
          rw [hx] at g0 g1 g2 hdl hdrow hdx
          have hlen : (d.chans ++ c.chans.take j).length + 1 ≤ 4194304 := by rw [List.length_append, List.length_take]; omega
          have Hx := hid hx
          have Hq := hid hq
          have Hdrow := hid hdrow
          have Hlen := hid hlen
          clear hq hdrow hx hlen
          go_wp2_with fail
          refine (clone16_c _ dd cc x.dests (Hdrow.out.below (below_new _ _)) (by omega)).mono ?_
          rintro e w6 ⟨d', cap', rfl, hown6, hb6⟩
          have hb := bthen (below_new wq _) hb6
          have hT2 := heap_keep (heap_new wq _) hb6
          have Hown6 := hid (own_kept (own_base hown6 (Nat.le_trans Hq.out.m.below.size (by simp))) (KeptE.set (i := 2) hT2 (by decide) (.slice d' x.dests.length cap')))
          have Hq0 := hid (Hq.out.next (bset hb (Nat.le_refl _) 2 (.slice d' x.dests.length cap')))
          have hB6 := heap_keep Hq.out.m.box hb
          obtain ⟨z0, z1, z2, z3, z4, z5⟩ := cells6 hB6
          have y0 := cell_of_heap (i := 0) hT2 rfl
          have y1 := cell_of_heap (i := 1) hT2 rfl
          have y2 := cell_of_heap (i := 2) hT2 rfl
          have hf2 : ∀ i, w6.frozen? ⟨wq.heap.size, i, none⟩ = false := fun i => free_of_heap hT2
          have hlt2 : w.heap.size + 1 < wq.heap.size := lt_of_block Hq.out.m.box
          clear hown6 hb6 hT2 hB6 g0 g1 g2
          obtain ⟨xs, ho5, hr5'⟩ := Hq0.out.m.own.o5
          have Ho5 := hid ho5
          have Hr5 := hid hr5'
          have Hb := hid hb
          clear ho5 hr5' hb
          go_wp2_with (at_builtin; refine stop ?_)
          refine go_on ?_
          refine wp_append_lit rfl _ _ 27 44 rfl (z := .agg #[.int .u16 0, .int .u16 0, .slice none 0 0]) (size := 3) (bytes := 32) Try.underlying27 info_chn rfl (by decide) _ w.heap.size _ (d.chans ++ c.chans.take j).length _ [.int .u16 x.id, .int .u16 x.src, .slice d' x.dests.length cap'] 1 rfl (by rw [World.size_setCell]; rfl) (by exact Ho5.out) rfl (by simp [Value.oneCell']) (by have := Hlen.out; omega) (by have := Hlen.out; omega) (by exact Hq0.out.m.below.size) ?_
          intro v7 w7 hown7 hg7 _
          obtain ⟨e7, f7, rfl, _⟩ := own_slice hown7
          obtain ⟨hB, hT⟩ := Hq0.out.mid Ho5.out (by decide) hg7
          have Hnext := hid (Hq0.out.step5 x Ho5.out Hr5.out Hown6.out hown7 hg7)
          clear z0 z1 z2 z3 z4 z5 y0 y1 y2 hf2
          obtain ⟨z0, z1, z2, z3, z4, z5⟩ := cells6 hB
          have hf : ∀ i, w7.frozen? ⟨w.heap.size + 1, i, none⟩ = false := fun i => free_of_heap hB
          clear hown7 hg7 hB hT
          go_wp2
          go_roundw
          case rel =>
            refine ⟨j + 1, by omega, by go_num, .slice e7 (d.chans.length + j + 1) f7, ?_⟩
            have hlj : (d.chans ++ c.chans.take j).length = d.chans.length + j := by rw [List.length_append, List.length_take]; omega
            have h := Hnext.out
            rw [← Hx.out, hlj] at h
            rw [List.take_add_one, List.getElem?_eq_getElem hltj, ← List.append_assoc, Option.toList_some]
            exact h
          case measure => simp [intOf]; omega
        · have hje : j = c.chans.length := by omega
          subst hje
          rw [List.take_length] at hq
          have Hfin := hid (show MInv w (joinCfg fr ((cs.take (k + 1)).map (·.1))) _ _ _ _ _ wq by rw [Hs.out, ← hfr.out]; exact hq.m)
          have hcs1 := Hcs.out
          clear hq
          go_wp2
          go_roundw
          case rel => exact ⟨k + 1, by omega, by go_num, _, _, _, _, _, Hfin.out⟩
          case measure => simp [intOf]; omega
    · have hke : k = cs.length := by omega
      subst hke
      rw [List.take_length] at hm
      obtain ⟨e1, f1, rfl, _⟩ := own_slice hm.own.o1
      obtain ⟨e2, f2, rfl, _⟩ := own_slice hm.own.o2
      obtain ⟨e3, f3, rfl, _⟩ := own_slice hm.own.o3
      obtain ⟨e4, f4, rfl, _⟩ := own_slice hm.own.o4
      obtain ⟨xs, ho5, _⟩ := hm.own.o5
      obtain ⟨e5, f5, rfl, _⟩ := own_slice ho5
      obtain ⟨q0, q1, q2, q3, q4, q5⟩ := cells6 hm.box
      obtain ⟨r0, r1, r2, r3, r4, r5⟩ := cells6 hm.res
      have hf : ∀ i, wt.frozen? ⟨w.heap.size, i, none⟩ = false := fun i => free_of_heap hm.res
      have Hm := hid hm
      clear hm ho5
      go_wp2
      refine bodyPost_six rfl rfl rfl (set6 Hm.out.res _ _ _ _ _ _) ⟨_, _, _, _, _, rfl, ?_, ?_⟩
      · exact Hm.out.own.set6 Hm.out.res _ _ _ _ _ _
      · exact bset6 Hm.out.below (Nat.le_refl _) _ _ _ _ _ _
end Go.Proofs.Ytlccbejhamkdoaa
