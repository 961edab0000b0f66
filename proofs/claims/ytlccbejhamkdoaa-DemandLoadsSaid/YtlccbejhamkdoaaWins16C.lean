/- the windows of a partition in their order: slices.SortFunc, and the function of -/
import Derived.Test.YtlccbejhamkdoaaWins16B
import Derived.Test.YtlccbejhamkdoaaShelfSort
import Derived.Test.YtlccbejhamkdoaaPlain16
namespace Go.Proofs.Ytlccbejhamkdoaa
open Go.RowKit Go.Sort

instance winDefault : Inhabited Win := ⟨⟨0, 0, 0⟩⟩
/-- the order of two windows -/
def cmpW (x y : Win) : Int := if x.start < y.start then -1 else if y.start < x.start then 1 else 0

theorem isNaN_c (w : World) (x : Int) : Calls Try.prog 99 #[.int .u64 x] w fun e w' => e = .returned (.bool false) ∧ w' = w := by
  go_enter Try.func99, Try.ntmps99
  go_wp2
  go_ret
  exact ⟨rfl, rfl⟩

theorem compare_c (w : World) (x y : Int) : Calls Try.prog 84 #[.int .u64 x, .int .u64 y] w fun e w' => e = .returned (.int .i64 (if x < y then -1 else if y < x then 1 else 0)) ∧ w' = w := by
  have hnan := fun (w : World) (x : Int) => isNaN_c w x
  by_cases h1 : x < y
  · rw [if_pos h1]
    go_enter Try.func84, Try.ntmps84
    go_wp2_with (go_at_call 99; refine (hnan _ _).mono ?_; rintro e w2 ⟨rfl, rfl⟩)
    all_goals (try omega)
    all_goals (go_ret; exact ⟨rfl, rfl⟩)
  · rw [if_neg h1]
    by_cases h2 : y < x
    · rw [if_pos h2]
      go_enter Try.func84, Try.ntmps84
      go_wp2_with (go_at_call 99; refine (hnan _ _).mono ?_; rintro e w2 ⟨rfl, rfl⟩)
      all_goals (try omega)
      all_goals (go_ret; exact ⟨rfl, rfl⟩)
    · rw [if_neg h2]
      go_enter Try.func84, Try.ntmps84
      go_wp2_with (go_at_call 99; refine (hnan _ _).mono ?_; rintro e w2 ⟨rfl, rfl⟩)
      all_goals (try omega)
      all_goals (go_ret; exact ⟨rfl, rfl⟩)

theorem of2_c (w : World) (x y : Win) : Calls Try.prog 83 #[.agg #[.int .u64 x.start, .int .u64 x.len, .int .u16 x.part], .agg #[.int .u64 y.start, .int .u64 y.len, .int .u16 y.part]] w fun e w' =>
    e = .returned (.int .i64 (cmpW x y)) ∧ ∃ q os', w' = grow (w.drewN q) os' := by
  have hcmp : ∀ W, Calls Try.prog 84 #[.int .u64 x.start, .int .u64 y.start] W fun e w' => e = .returned (.int .i64 (cmpW x y)) ∧ w' = W := fun W => compare_c W _ _
  obtain ⟨r, hr⟩ : ∃ r, cmpW x y = r := ⟨_, rfl⟩
  rw [hr] at hcmp ⊢
  clear hr
  go_enter Try.func83, Try.ntmps83
  go_wp2_with fail
  refine (hcmp _).mono ?_
  rintro e w2 ⟨rfl, rfl⟩
  go_wp2
  go_ret
  refine ⟨rfl, 0, #[.cells #[.int .u64 x.start, .int .u64 x.len, .int .u16 x.part] 91, .cells #[.int .u64 y.start, .int .u64 y.len, .int .u16 y.part] 91], ?_⟩
  rw [alloc_eq_grow, alloc_eq_grow, grow_grow]
  rfl

theorem cmpW_neg (x y : Win) : cmpW x y < 0 ↔ x.start < y.start := by
  unfold cmpW
  by_cases h : x.start < y.start
  · rw [if_pos h]; omega
  · rw [if_neg h]
    by_cases h2 : y.start < x.start
    · rw [if_pos h2]; omega
    · rw [if_neg h2]; omega
theorem ltW' (x y : Win) : ltOf cmpW x y = decide (x.start < y.start) := decide_eq_decide.2 (cmpW_neg x y)
theorem cmpW_swo : SWO (ltOf cmpW) := by
  refine ⟨fun x => ?_, fun x y z h1 h2 => ?_, fun x y z h1 h2 => ?_⟩
  · rw [ltW']; simp
  · rw [ltW', decide_eq_true_eq] at *; omega
  · rw [ltW', decide_eq_false_iff_not] at *; omega
theorem ltW (x y : Win) : ltOf cmpW x y = false ↔ y.start ≤ x.start := by
  rw [ltW', decide_eq_false_iff_not]; omega

theorem grow_grown (w : World) (os : Array Obj) : w.grownBy (grow w os) none :=
  ⟨rfl, rfl, rfl, by show w.heap.size ≤ (w.heap ++ os).size; simp, fun i hi _ => by
    show (w.heap ++ os)[i]? = _
    rw [Array.getElem?_append_left hi]⟩

theorem sortW_c (w : World) (base : Nat) (s : Value) (l : List Win) (hsz : l.length < 4611686018427387904) (h : w.ownsRow base 91 3 s l.length (l.flatMap encWin)) :
    Calls Try.prog 82 #[s, .func (.func 83) #[] #[]] w fun e' w' => e' = .returned (.tuple #[]) ∧
      (∃ m : List Win, l.Perm m ∧ (m.Pairwise fun a b => a.start ≤ b.start) ∧ w'.ownsRow base 91 3 s m.length (m.flatMap encWin)) ∧ w.grownBy w' s.ownBlock := by
  rcases h.2 with ⟨rfl, hn⟩ | ⟨g, cap, cur, rfl, hrest⟩
  · have hl : l = [] := List.eq_nil_of_length_eq_zero hn
    subst hl
    refine (Try.slices_SortFunc_none (α := Win) none 0 _ w).mono ?_
    rintro e' w' ⟨rfl, rfl⟩
    exact ⟨rfl, ⟨[], List.Perm.nil, List.Pairwise.nil, World.ownsRow_nil _ _ _ _⟩, grefl _ _⟩
  · have hH : HoldsK encWin 3 w g 0 l.toArray := own_holds (fun _ => rfl) (by simpa using h) (by simp)
    have hlt : g < w.heap.size := (h.lt g rfl).2
    have := Try.slices_SortFunc (α := Win) 3 Try.isAgg91 Try.sizeOf91 encWin (fun _ => rfl) oneW cmpW cmpW_swo 83 #[] g 0 cap l.toArray w (enters_of Try.func83 (by kernel_rfl) rfl)
      (fun m os dk _ x y => of2_c _ x y) hH hlt (by simpa using hsz)
    simp only [List.size_toArray] at this
    refine this.mono ?_
    rintro e' w' ⟨rfl, d', n, os, hperm, hsorted, rfl⟩
    have hsize : d'.size = l.length := by have := hperm.1; simpa using this
    have hp := own_put (m := n) (d := d') (enc := encWin) (k := 3) (fun _ => rfl) h hsize
    refine ⟨rfl, ⟨d'.toList, ?_, ?_, ?_⟩, gtrans hp.2 ?_⟩
    · have h3 := hperm.2.2
      rw [Array.extract_eq_self_of_le (by simp [hsize]), Array.extract_eq_self_of_le (by simp)] at h3
      simpa using h3.symm
    · rw [List.pairwise_iff_getElem]
      intro i j hi hj hij
      have h4 := hsorted i j (Nat.zero_le _) hij (by simpa [hsize] using hj)
      simp only [Array.length_toList] at hi hj
      rw [getElem!_pos d' j hj, getElem!_pos d' i hi, ltW] at h4
      simpa using h4
    · have h5 := hp.1.kept (grow_grown _ os) (.inr (by simp [Value.ownBlock]))
      have e : d'.toList.length = l.length := by simp [hsize]
      rw [e]
      exact h5
    · have h6 := grow_grown (putRowK encWin 3 (Sort.ahead w n) g 0 d') os
      exact ⟨h6.os, h6.tape, h6.output, h6.size, fun i hi _ => h6.block i hi (by simp)⟩

theorem setSix {w : World} {b : Nat} {a0 a1 a2 a3 a4 a5 : Value} {t : TypeId} {f : Nat × Nat} (h : w.heap[b]? = some (.cells #[a0, a1, a2, a3, a4, a5] t f)) (x0 x1 x2 x3 x4 x5 : Value) :
    ((((((w.setCell ⟨b, 0, none⟩ x0).setCell ⟨b, 1, none⟩ x1).setCell ⟨b, 2, none⟩ x2).setCell ⟨b, 3, none⟩ x3).setCell ⟨b, 4, none⟩ x4).setCell ⟨b, 5, none⟩ x5).heap[b]? = some (.cells #[x0, x1, x2, x3, x4, x5] t f) := by
  rw [heap_set (heap_set (heap_set (heap_set (heap_set (heap_set h x0) x1) x2) x3) x4) x5]; rfl
theorem bsetSix {w W : World} {b : Nat} (h : RowKit.Below w.heap.size w W) (hb : w.heap.size ≤ b) (x0 x1 x2 x3 x4 x5 : Value) :
    RowKit.Below w.heap.size w ((((((W.setCell ⟨b, 0, none⟩ x0).setCell ⟨b, 1, none⟩ x1).setCell ⟨b, 2, none⟩ x2).setCell ⟨b, 3, none⟩ x3).setCell ⟨b, 4, none⟩ x4).setCell ⟨b, 5, none⟩ x5) :=
  bset (bset (bset (bset (bset (bset h hb 0 x0) hb 1 x1) hb 2 x2) hb 3 x3) hb 4 x4) hb 5 x5
theorem bodyPost_part {fn : Func} {R : Ending → World → Prop} {a : Act} {w : World} {p : Tmp} (hres : fn.results = #[.cell p 94]) (hd : a.defers = []) {b : Nat} (hp : a.tmps.getD p undef = .pointer (some ⟨b, 0, none⟩))
    {x0 x1 x2 x3 x4 x5 : Value} {t : TypeId} {f : Nat × Nat} (hh : w.heap[b]? = some (.cells #[x0, x1, x2, x3, x4, x5] t f)) (hR : R (.returned (.agg #[x0, x1, x2, x3, x4, x5])) w) : bodyPost Try.prog fn R .ret a w := by
  have h0 : w.cell? ⟨b, 0, none⟩ = some x0 := cell_of_heap hh rfl
  have h1 : w.cell? ⟨b, 1, none⟩ = some x1 := cell_of_heap hh rfl
  have h2 : w.cell? ⟨b, 2, none⟩ = some x2 := cell_of_heap hh rfl
  have h3 : w.cell? ⟨b, 3, none⟩ = some x3 := cell_of_heap hh rfl
  have h4 : w.cell? ⟨b, 4, none⟩ = some x4 := cell_of_heap hh rfl
  have h5 : w.cell? ⟨b, 5, none⟩ = some x5 := cell_of_heap hh rfl
  refine bodyPost_ret (v := .agg #[x0, x1, x2, x3, x4, x5]) ?_ hd hR
  simp only [Array.getD_eq_getD_getElem?] at hp
  simp [results, hres, go_sem, hp, h0, h1, h2, h3, h4, h5]
/-- what lies outside a row of the call's own stays -/
theorem own_else {w w' : World} {base : Nat} {e : TypeId} {size n : Nat} {v : Value} {xs : List Value} (h : w.ownsRow base e size v n xs) (hg : w.grownBy w' v.ownBlock) {b : Nat} {o : Obj} (hb : b < base) (ho : w.heap[b]? = some o) : w'.heap[b]? = some o :=
  (hg.block b (lt_of_block ho) (fun he => by have := (h.lt b he.symm).1; omega)).trans ho
theorem below_own2 {w w1 w' : World} {base : Nat} {e : TypeId} {size n : Nat} {v : Value} {xs : List Value} (h : RowKit.Below w.heap.size w w1) (hown : w1.ownsRow base e size v n xs) (hbase : w.heap.size ≤ base) (hg : w1.grownBy w' v.ownBlock) : RowKit.Below w.heap.size w w' :=
  below_own h hown hbase hg
theorem calls_name {P : Program} {f : FuncId} {args : Array Value} {Q : Ending → World → Prop} {W : World} (F : World → Prop) (hF : F W) (h : ∀ W, F W → Calls P f args W Q) : Calls P f args W Q := h W hF

/-- the value that the function of returns -/
def ofVal (p : Part) (fr : Int) (s : Value) : Value := .agg #[.int .u16 p.id, .string p.name, .int .u64 p.period, .int .u64 p.dur, .int .u64 fr, s]

set_option maxHeartbeats 1000000 in
theorem of_c (w : World) (c : Cfg) (A : Adr) (hc : CfgAt w c A) (p : Part) :
    Calls Try.prog 59 #[cfgVal c A, .agg #[.int .u16 p.id, .string p.name, .int .u64 p.period, .int .u64 p.dur]] w fun e w' => ∃ a cap, ∃ m : List Win, e = .returned (ofVal p c.frame (.slice a m.length cap)) ∧
      (ofPart c.wins p.id).Perm m ∧ (m.Pairwise fun a b => a.start ≤ b.start) ∧ RowAt 3 encWin w' a m ∧ m.length ≤ cap ∧ m.length * 24 ≤ 140737488351232 ∧ (∀ b o, a = some ⟨b, o, none⟩ → b < w'.heap.size) ∧ Below w.heap.size w w' := by
  obtain ⟨a1, k1, a2, k2, a3, k3, a4, k4, a5, k5⟩ := A
  have hn := hc.ok.nwins
  have hrow := hid hc.wins
  clear hc
  simp only [cfgVal, cfgCells, ofVal]
  go_enter Try.func59, Try.ntmps59
  go_wp2_with fail
  refine calls_name (fun W => Below w.heap.size w W ∧ W.heap.size = w.heap.size + 3 ∧ W.heap[w.heap.size]? = some (.cells (cfgCells c ⟨a1, k1, a2, k2, a3, k3, a4, k4, a5, k5⟩) 29 (0, 0)) ∧
    W.heap[w.heap.size + 1]? = some (.cells #[.int .u16 p.id, .string p.name, .int .u64 p.period, .int .u64 p.dur] 36 (0, 0)) ∧
    W.heap[w.heap.size + 1 + 1]? = some (.cells #[.int .u16 0, .string ⟨#[]⟩, .int .u64 0, .int .u64 0, .int .u64 0, .slice none 0 0] 94 (0, 0)))
    ⟨((below_new _ _).alloc (by simp) _).alloc (by simp; omega) _, by simp, by repeat (first | (refine heap_at ?_; simp; done) | refine heap_alloc' ?_ _), by repeat (first | (refine heap_at ?_; simp; done) | refine heap_alloc' ?_ _), by repeat (first | (refine heap_at ?_; simp; done) | refine heap_alloc' ?_ _)⟩ ?_
  rintro w1 ⟨hb1, hs1, hbox, hpb, hres⟩
  refine (cloneW_c w1 a2 k2 c.wins (hrow.out.below hb1) (by omega)).mono ?_
  rintro e w2 ⟨d', cap', rfl, hown2, hb2⟩
  have hbox2 := heap_keep hbox hb2
  have hpb2 := heap_keep hpb hb2
  have hres2 := heap_keep hres hb2
  have hb02 := bthen hb1 hb2
  have hs2 := hb2.size
  have Hown2 := hid hown2
  have Hb02 := hid hb02
  clear hown2 hb02 hb2 hb1
  go_wp2_with fail
  refine (deleteW_c w2 w1.heap.size _ c.wins Hown2.out (by omega) (w.heap.size + 1) p.id (by omega) hs2 (cell_of_heap hpb2 rfl)).mono ?_
  rintro e w3 ⟨s3, rfl, hown3, hg3⟩
  have hbox3 := own_else Hown2.out hg3 (by omega) hbox2
  have hpb3 := own_else Hown2.out hg3 (by omega) hpb2
  have hres3 := own_else Hown2.out hg3 (by omega) hres2
  have Hb03 := hid (below_own2 Hb02.out Hown2.out (by omega) hg3)
  have Hown3 := hid hown3
  have hs3 := hg3.size
  have hml : (ofPart c.wins p.id).length ≤ c.wins.length := List.length_filter_le _ _
  clear hown3 hg3 Hown2 Hb02 hbox2 hpb2 hres2 hbox hpb hres
  go_wp2_with fail
  refine (sortW_c w3 w1.heap.size _ (ofPart c.wins p.id) (by omega) Hown3.out).mono ?_
  rintro e w4 ⟨rfl, ⟨m, hperm, hsorted, hown4⟩, hg4⟩
  have hbox4 := own_else Hown3.out hg4 (by omega) hbox3
  have hpb4 := own_else Hown3.out hg4 (by omega) hpb3
  have hres4 := own_else Hown3.out hg4 (by omega) hres3
  have Hb04 := hid (below_own2 Hb03.out Hown3.out (by omega) hg4)
  obtain ⟨a', c', rfl, hc'⟩ := own_slice hown4
  have Hown4 := hid hown4
  have hml' : m.length ≤ c.wins.length := by rw [← hperm.length_eq]; exact hml
  have Hperm := hid hperm
  have Hsorted := hid hsorted
  have hs4 := hg4.size
  have hrow4 := hid (own_row hown4 (fun _ _ => rfl) rfl : RowAt 3 encWin w4 a' m)
  have e0 : w4.cell? ⟨w.heap.size, 0, none⟩ = some (.int .u64 c.frame) := cell_of_heap hbox4 rfl
  have p0 := cell_of_heap (i := 0) hpb4 rfl
  have p1 := cell_of_heap (i := 1) hpb4 rfl
  have p2 := cell_of_heap (i := 2) hpb4 rfl
  have p3 := cell_of_heap (i := 3) hpb4 rfl
  have q0 := cell_of_heap (i := 0) hres4 rfl
  have q1 := cell_of_heap (i := 1) hres4 rfl
  have q2 := cell_of_heap (i := 2) hres4 rfl
  have q3 := cell_of_heap (i := 3) hres4 rfl
  have q4 := cell_of_heap (i := 4) hres4 rfl
  have q5 := cell_of_heap (i := 5) hres4 rfl
  have qf : ∀ i, w4.frozen? ⟨w.heap.size + 1 + 1, i, none⟩ = false := fun i => free_of_heap hres4
  have Hres4 := hid hres4
  clear hown4 hg4 hperm hsorted Hown3 Hb03 hbox3 hpb3 hres3 hbox4 hpb4 hres4 hml
  go_wp2
  refine bodyPost_part rfl rfl rfl (setSix Hres4.out _ _ _ _ _ _) ⟨a', c', m, rfl, Hperm.out, Hsorted.out, ?_, hc', by omega, ?_, bsetSix Hb04.out (by omega) _ _ _ _ _ _⟩
  rotate_left
  · intro b o hb
    subst hb
    have := (Hown4.out.lt b rfl).2
    simpa using this
  have hown5 := Hown4.out
  have hne : ∀ b, a' = some ⟨b, 0, none⟩ → b ≠ w.heap.size + 1 + 1 := by
    rintro b rfl
    have := (hown5.lt b rfl).1
    omega
  have hset : ∀ (W : World) (i : Nat) (v : Value), RowAt 3 encWin W a' m → RowAt 3 encWin (W.setCell ⟨w.heap.size + 1 + 1, i, none⟩ v) a' m := by
    intro W i v hW k x hx
    obtain ⟨b, o, ha, hcs⟩ := hW k x hx
    refine ⟨b, o, ha, fun j u hj => ?_⟩
    have hbo : b ≠ w.heap.size + 1 + 1 := by
      rcases hown5.2 with ⟨h', _⟩ | ⟨g, cap, cur, h', hb, _⟩
      · simp only [Value.slice.injEq] at h'; rw [h'.1] at ha; cases ha
      · simp only [Value.slice.injEq] at h'
        rw [h'.1] at ha
        simp only [Option.some.injEq, Addr.mk.injEq] at ha
        omega
    exact (World.cell?_of_block (Below.heap_setCell _ _ _ _ (by exact hbo))).trans (hcs j u hj)
  exact hset _ _ _ (hset _ _ _ (hset _ _ _ (hset _ _ _ (hset _ _ _ (hset _ _ _ hrow4.out)))))
end Go.Proofs.Ytlccbejhamkdoaa
