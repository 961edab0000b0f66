/- the least number of ticks in a period; the first period that is short -/
import Derived.Test.YtlccbejhamkdoaaPer16B
import Derived.Test.YtlccbejhamkdoaaWins16C
import Derived.Laws.EntriesVeiled
namespace Go.Proofs.Ytlccbejhamkdoaa
open Go.RowKit Go.Shelf
attribute [local go_sem] Oper.semAt_some

theorem heap_from {A B : World} {row : Option Nat} {b B0 : Nat} {cs : Array Value} {t : TypeId} {f : Nat × Nat} (h : A.heap[b]? = some (.cells cs t f)) (hg : A.grownBy B row) (hr : ∀ r, row = some r → B0 ≤ r ∧ ∃ o : Obj, A.heap[r]? = some o ∧ o.isCells = false) : B.heap[b]? = some (.cells cs t f) := by
  refine (hg.block b (lt_of_block h) ?_).trans h
  intro he
  obtain ⟨_, o, h1, h2⟩ := hr b he.symm
  rw [h] at h1
  cases h1
  cases h2
theorem heap_put {W : World} {b D : Nat} {cs : Array Value} {t : TypeId} {f : Nat × Nat} {o o' : Obj} (h : W.heap[b]? = some (.cells cs t f)) (hD : W.heap[D]? = some o) (ho : o.isCells = false) : (W.putObj D o').heap[b]? = some (.cells cs t f) :=
  heap_from (B0 := 0) h (grownBy_putObj' W D o') (fun r e => by cases e; exact ⟨Nat.zero_le _, o, hD, ho⟩)

/-- none of these is short; the last one is the first that is short -/
def NoneIn (d : Int) (pre : List (Int × Int)) : Prop := ∀ z ∈ pre, ¬ z.2 < d
def LastIn (d : Int) (pre : List (Int × Int)) (k : Int) : Prop := ∃ pre0 n, pre = pre0 ++ [(k, n)] ∧ NoneIn d pre0 ∧ n < d
theorem KpM.set {own : Nat → Prop} {l b : Nat} {W : World} (h : own b) (v : Value) : KpM own l W (W.setCell ⟨b, 0, none⟩ v) :=
  ⟨by simp, fun c _ _ hc => Below.heap_setCell _ _ _ _ (fun e => hc (e ▸ h))⟩
theorem KpM.refl (own : Nat → Prop) (l : Nat) (W : World) : KpM own l W W := ⟨Nat.le_refl _, fun _ _ _ _ => rfl⟩

theorem periods_c (w : World) (p : Part) (fr : Int) (s : Value) : CallsIn Fence.wide 1 Try.prog 86 #[.agg #[.int .u16 p.id, .string p.name, .int .u64 p.period, .int .u64 p.dur, .int .u64 fr, s]] w fun e w' =>
    e = .returned (.func (.func 101) #[] #[.pointer (some ⟨w.heap.size, 0, none⟩)]) ∧ w' = w.alloc (.cells #[.int .u16 p.id, .string p.name, .int .u64 p.period, .int .u64 p.dur, .int .u64 fr, s] 94) := by
  refine callsIn_of_wp Try.func86 rfl trivial ?_ rfl
  simp only [Try.ntmps86, List.size_toArray, List.length_cons, List.length_nil, Nat.reduceAdd, Nat.reduceSub, Array.replicate_succ, Array.replicate_zero, List.push_toArray, List.append_toArray, List.nil_append, List.cons_append]
  gi_wp2
  go_ret
  exact ⟨rfl, rfl⟩
theorem periods_any (m : Nat) (w : World) (p : Part) (fr : Int) (s : Value) : CallsIn Fence.wide m Try.prog 86 #[.agg #[.int .u16 p.id, .string p.name, .int .u64 p.period, .int .u64 p.dur, .int .u64 fr, s]] w fun e w' =>
    e = .returned (.func (.func 101) #[] #[.pointer (some ⟨w.heap.size, 0, none⟩)]) ∧ w' = w.alloc (.cells #[.int .u16 p.id, .string p.name, .int .u64 p.period, .int .u64 p.dur, .int .u64 fr, s] 94) :=
  callsIn_wide.2 (callsIn_wide.1 (periods_c w p fr s))

set_option maxHeartbeats 4000000 in
set_option maxRecDepth 100000 in
theorem short_c (w : World) (p : Part) (fr count : Int) (a : Option Addr) (cap : Nat) (ws : List Win) (hP : 0 < p.period) (hok : U64 p.period) (hfr : U64 fr) (hF : fr = count * p.period) (hlen : ws.length * 24 ≤ 140737488351232) (hch : Chain fr 0 ws) (hrow : RowAt 3 encWin w a ws) (ha : ∀ b o, a = some ⟨b, o, none⟩ → b < w.heap.size) :
    Calls Try.prog 63 #[ofVal p fr (.slice a ws.length cap)] w fun e w' => e = .returned (.tuple #[.int .u64 (firstShort p.dur (yields p count ws)).1, .bool (firstShort p.dur (yields p count ws)).2]) ∧ Below w.heap.size w w' := by
  simp only [ofVal]
  obtain ⟨ys, hys⟩ : ∃ ys, yields p count ws = ys := ⟨_, rfl⟩
  rw [hys]
  have Hys := hid hys
  clear hys
  refine (callsIn_wide (n := 9)).1 ?_
  refine callsIn_of_wp_marks Try.func63 rfl trivial ?_ rfl
  simp only [Try.ntmps63, List.size_toArray, List.length_cons, List.length_nil, Nat.reduceAdd, Nat.reduceSub, Array.replicate_succ, Array.replicate_zero, List.push_toArray, List.append_toArray, List.nil_append, List.cons_append]
  have hq := hid (And.intro hok (And.intro hfr (And.intro hF (And.intro hlen (And.intro hch hrow)))))
  clear hok hfr hF hlen hch hrow
  gi_wp2_with fail
  refine ⟨trivial, ?_⟩
  refine (periods_any _ _ _ _ _).mono ?_
  rintro e w' ⟨rfl, rfl⟩
  gi_wp2
  refine wp_cutIn (fun W => Below w.heap.size w W ∧ W.heap.size = w.heap.size + 4 ∧ W.heap[w.heap.size]? = some (.cells #[.int .u16 p.id, .string p.name, .int .u64 p.period, .int .u64 p.dur, .int .u64 fr, .slice a ws.length cap] 94 (0, 0)) ∧
    W.heap[w.heap.size + 1]? = some (.cells #[.int .u64 0] 22 (0, 0)) ∧ W.heap[w.heap.size + 1 + 1]? = some (.cells #[.bool false] 4 (0, 0)) ∧
    W.heap[w.heap.size + 1 + 1 + 1]? = some (.cells #[.int .u16 p.id, .string p.name, .int .u64 p.period, .int .u64 p.dur, .int .u64 fr, .slice a ws.length cap] 94 (0, 0)))
    ⟨(((below_new _ _).alloc (by simp) _).alloc (by simp; omega) _).alloc (by simp; omega) _, by simp, by repeat (first | (refine heap_at ?_; simp; done) | refine heap_alloc' ?_ _), by repeat (first | (refine heap_at ?_; simp; done) | refine heap_alloc' ?_ _), by repeat (first | (refine heap_at ?_; simp; done) | refine heap_alloc' ?_ _), by repeat (first | (refine heap_at ?_; simp; done) | refine heap_alloc' ?_ _)⟩ ?_
  rintro w1 ⟨hb1, hs1, hbx, hn1, hf1, hpb1⟩
  obtain ⟨hok, hfr, hF, hlen, hch, hrow⟩ := hq.out
  have hseq := periods_in 8 w1 (fun b => b = w.heap.size + 1 ∨ b = w.heap.size + 1 + 1) (w.heap.size + 1 + 1 + 1) p fr a cap ws count hP hok hfr hF hlen hch hpb1 (hrow.below hb1) (by omega) (fun b o e => by have := ha b o e; omega) (fun b hb => by omega)
  rw [Hys.out] at hseq
  clear hq hok hfr hF hlen hch hrow
  refine wpIn_rangeB (α := Int × Int) rfl (by omega) (gf := 101) (lb := #[.pointer (some ⟨w.heap.size + 1 + 1 + 1, 0, none⟩)]) rfl trivial (enters_of Try.func101 (by kernel_rfl) rfl)
    hseq (fun h k => KpM.trans h k) (fun W o' => KpM.put _ _ W o') (Below.refl _ _) (fun _ => rfl)
    (fun pre W => (NoneIn p.dur pre ∧ W.heap[w.heap.size]? = some (.cells #[.int .u16 p.id, .string p.name, .int .u64 p.period, .int .u64 p.dur, .int .u64 fr, .slice a ws.length cap] 94 (0, 0)) ∧ W.heap[w.heap.size + 1]? = some (.cells #[.int .u64 0] 22 (0, 0)) ∧ W.heap[w.heap.size + 1 + 1]? = some (.cells #[.bool false] 4 (0, 0))) ∧ Below w.heap.size w W)
    (fun c pre W => (c = .ret ∧ ∃ k : Int, LastIn p.dur pre k ∧ W.heap[w.heap.size + 1]? = some (.cells #[.int .u64 k] 22 (0, 0)) ∧ W.heap[w.heap.size + 1 + 1]? = some (.cells #[.bool true] 4 (0, 0))) ∧ Below w.heap.size w W)
    (OwnFrom.and (fun s A B row hs hg hr => ⟨hs.1, heap_from hs.2.1 hg hr, heap_from hs.2.2.1 hg hr, heap_from hs.2.2.2 hg hr⟩) (ownFrom_below (Nat.le_refl _) (by omega)))
    (fun c => OwnFrom.and (fun s A B row hs hg hr => by
      obtain ⟨h1, k, h2, h5, h6⟩ := hs
      exact ⟨h1, k, h2, heap_from h5 hg hr, heap_from h6 hg hr⟩) (ownFrom_below (Nat.le_refl _) (by omega)))
    (fun s A B hs hb => ⟨⟨hs.1.1, (hb.block _ (by omega)).trans hs.1.2.1, (hb.block _ (by omega)).trans hs.1.2.2.1, (hb.block _ (by omega)).trans hs.1.2.2.2⟩, hs.2.trans (hb.mono (by omega))⟩)
    (fun c s A B hs hb => by
      obtain ⟨⟨h1, k, h2, h5, h6⟩, h7⟩ := hs
      exact ⟨⟨h1, k, h2, (hb.block _ (by omega)).trans h5, (hb.block _ (by omega)).trans h6⟩, h7.trans (hb.mono (by omega))⟩)
    ⟨⟨fun z hz => by simp at hz, hbx, hn1, hf1⟩, hb1⟩
    (fun x => { tmps := #[.agg #[.int .u16 p.id, .string p.name, .int .u64 p.period, .int .u64 p.dur, .int .u64 fr, .slice a ws.length cap], .pointer (some ⟨w.heap.size, 0, none⟩), .pointer (some ⟨w.heap.size + 1, 0, none⟩), .pointer (some ⟨w.heap.size + 1 + 1, 0, none⟩), .int .u64 x.1, .int .u64 x.2,
      .agg #[.int .u16 p.id, .string p.name, .int .u64 p.period, .int .u64 p.dur, .int .u64 fr, .slice a ws.length cap], .func (.func 101) #[] #[.pointer (some ⟨w.heap.size + 1 + 1 + 1, 0, none⟩)], .int .u64 x.1, .int .u64 x.2, undef, undef, undef, undef, undef, undef], defers := [] }) ?assign ?body ?done ?stop
  case assign =>
    intro l x W K hK
    gi_wp2
    exact hK
  case body =>
    rintro l pre x W hlt ⟨⟨hp, h1, h2, h3⟩, hB⟩
    have e3 := cell_of_heap (i := 3) h1 rfl
    have n0 := cell_of_heap (i := 0) h2 rfl
    have f0 := cell_of_heap (i := 0) h3 rfl
    have n1 : W.frozen? ⟨w.heap.size + 1, 0, none⟩ = false := free_of_heap h2
    have f1 : W.frozen? ⟨w.heap.size + 1 + 1, 0, none⟩ = false := free_of_heap h3
    have Hp := hid hp
    clear hp hb1 hbx hn1 hf1 hpb1 hseq
    by_cases hx : x.2 < p.dur
    · gi_wp2
      refine ⟨(KeepsOthers.setCell _ _ _).trans (KeepsOthers.setCell _ _ _), (KpM.set (.inl rfl) _).trans (KpM.set (.inr rfl) _), ⟨rfl, x.1, ⟨pre, x.2, rfl, Hp.out, hx⟩, heap_set_ne (heap_set h2 _) (by omega) _, ?_⟩, (hB.setCell (p := ⟨w.heap.size + 1, 0, none⟩) (by show w.heap.size ≤ w.heap.size + 1; omega) _).setCell (p := ⟨w.heap.size + 1 + 1, 0, none⟩) (by show w.heap.size ≤ w.heap.size + 1 + 1; omega) _⟩
      exact heap_set (heap_set_ne h3 (by omega) _) _
    · gi_wp2
      refine ⟨KeepsOthers.refl _, KpM.refl _ _ _, ⟨fun z hz => ?_, h1, h2, h3⟩, hB⟩
      rcases List.mem_append.1 hz with hz | hz
      · exact Hp.out z hz
      · rw [List.mem_singleton.1 hz]; exact Int.not_lt.2 (Int.not_lt.1 (by omega))
  case done =>
    rintro D ys' W hD rfl ⟨⟨hp, h1, h2, h3⟩, hB⟩ hK
    have n0 := cell_of_heap (i := 0) h2 rfl
    have f0 := cell_of_heap (i := 0) h3 rfl
    have n1 : W.frozen? ⟨w.heap.size + 1, 0, none⟩ = false := free_of_heap h2
    have f1 : W.frozen? ⟨w.heap.size + 1 + 1, 0, none⟩ = false := free_of_heap h3
    have Hp := hid hp
    clear hp hb1 hbx hn1 hf1 hpb1 hseq
    gi_wp2
    have hK' := ((KeepsOthers.setCell W ⟨w.heap.size + 1, 0, none⟩ (.int .u64 0)).trans (KeepsOthers.setCell _ ⟨w.heap.size + 1 + 1, 0, none⟩ (.bool false))).same D _ hK rfl
    refine ⟨by simp, .inl ⟨_, _, rfl, run_takeDeferred hK', ?_⟩⟩
    have g2 := heap_put (o' := .deferred none) (heap_set_ne (b := w.heap.size + 1 + 1) (i := 0) (heap_set (i := 0) h2 (.int .u64 0)) (by omega) (.bool false)) hK' rfl
    have g3 := heap_put (o' := .deferred none) (heap_set (b := w.heap.size + 1 + 1) (i := 0) (heap_set_ne (b := w.heap.size + 1) (i := 0) h3 (by omega) (.int .u64 0)) (.bool false)) hK' rfl
    have c2 := cell_of_heap (i := 0) g2 rfl
    have c3 := cell_of_heap (i := 0) g3 rfl
    refine ⟨.tuple #[.int .u64 0, .bool false], ?_, by rw [firstShort_no Hp.out], ?_⟩
    · simp [results, Try.f63, go_sem, c2, c3]
    · exact ((hB.setCell (p := ⟨w.heap.size + 1, 0, none⟩) (by show w.heap.size ≤ w.heap.size + 1; omega) _).setCell (p := ⟨w.heap.size + 1 + 1, 0, none⟩) (by show w.heap.size ≤ w.heap.size + 1 + 1; omega) _).trans (belowK_b (w := w) (Nat.le_refl _) _ D _ _ (by omega) hK' rfl rfl)
  case stop =>
    rintro D c pre W hD ⟨post, hpost, hne⟩ ⟨⟨rfl, k, hlast, h2, h3⟩, hB⟩ hK
    have Hlast := hid hlast
    clear hlast hb1 hbx hn1 hf1 hpb1 hseq
    gi_wp2
    refine ⟨by simp, .inl ⟨_, _, rfl, run_takeDeferred hK, ?_⟩⟩
    have g2 := heap_put (o' := .deferred none) h2 hK rfl
    have g3 := heap_put (o' := .deferred none) h3 hK rfl
    have c2 := cell_of_heap (i := 0) g2 rfl
    have c3 := cell_of_heap (i := 0) g3 rfl
    refine ⟨.tuple #[.int .u64 k, .bool true], ?_, ?_, hB.trans (belowK_b (w := w) (Nat.le_refl _) W D _ _ (by omega) hK rfl rfl)⟩
    · simp [results, Try.f63, go_sem, c2, c3]
    · obtain ⟨pre0, n, rfl, hnone, hlt⟩ := Hlast.out
      have e : ys = pre0 ++ (k, n) :: post := by rw [← hpost, List.append_assoc]; rfl
      rw [e, firstShort_at hnone hlt]

theorem note_c (w : World) (b : Nat) (t : Int) (n : Int) (h : w.heap[b]? = some (.cells #[.int .u64 t] 22 (0, 0))) :
    Calls Try.prog 87 #[.int .u64 n, .pointer (some ⟨b, 0, none⟩)] w fun e w' => (∃ v, e = .returned v) ∧ w' = w.setCell ⟨b, 0, none⟩ (.int .u64 (min t n)) := by
  have n0 := cell_of_heap (i := 0) h rfl
  have n1 : w.frozen? ⟨b, 0, none⟩ = false := free_of_heap h
  obtain ⟨r, hr⟩ : ∃ r, min t n = r := ⟨_, rfl⟩
  rw [hr]
  have Hr : Hid ((if n < t then n else t) = r) := by show (if n < t then n else t) = r; omega
  clear hr
  go_enter Try.func87, Try.ntmps87
  go_wp2
  go_end0
  exact ⟨⟨_, rfl⟩, by rw [show min t n = r by have := Hr.out; omega]⟩

set_option maxHeartbeats 4000000 in
set_option maxRecDepth 100000 in
theorem least_c (w : World) (p : Part) (fr count : Int) (a : Option Addr) (cap : Nat) (ws : List Win) (hP : 0 < p.period) (hok : U64 p.period) (hfr : U64 fr) (hF : fr = count * p.period) (hlen : ws.length * 24 ≤ 140737488351232) (hch : Chain fr 0 ws) (hrow : RowAt 3 encWin w a ws) (ha : ∀ b o, a = some ⟨b, o, none⟩ → b < w.heap.size) :
    Calls Try.prog 65 #[ofVal p fr (.slice a ws.length cap)] w fun e w' => e = .returned (.int .u64 (leastOf p.period ((yields p count ws).map Prod.snd))) ∧ Below w.heap.size w w' := by
  simp only [ofVal]
  obtain ⟨ys, hys⟩ : ∃ ys, yields p count ws = ys := ⟨_, rfl⟩
  rw [hys]
  have Hys := hid hys
  clear hys
  refine (callsIn_wide (n := 9)).1 ?_
  refine callsIn_of_wp_marks Try.func65 rfl trivial ?_ rfl
  simp only [Try.ntmps65, List.size_toArray, List.length_cons, List.length_nil, Nat.reduceAdd, Nat.reduceSub, Array.replicate_succ, Array.replicate_zero, List.push_toArray, List.append_toArray, List.nil_append, List.cons_append]
  have hq := hid (And.intro hok (And.intro hfr (And.intro hF (And.intro hlen (And.intro hch hrow)))))
  clear hok hfr hF hlen hch hrow
  gi_wp2_with fail
  refine ⟨trivial, ?_⟩
  refine (periods_any _ _ _ _ _).mono ?_
  rintro e w' ⟨rfl, rfl⟩
  gi_wp2
  refine wp_cutIn (fun W => Below w.heap.size w W ∧ W.heap.size = w.heap.size + 4 ∧
    W.heap[w.heap.size + 1]? = some (.cells #[.int .u64 p.period] 22 (0, 0)) ∧ W.heap[w.heap.size + 1 + 1]? = some (.cells #[.func (.func 87) #[] #[.pointer (some ⟨w.heap.size + 1, 0, none⟩)]] 125 (0, 0)) ∧
    W.heap[w.heap.size + 1 + 1 + 1]? = some (.cells #[.int .u16 p.id, .string p.name, .int .u64 p.period, .int .u64 p.dur, .int .u64 fr, .slice a ws.length cap] 94 (0, 0)))
    ⟨(((below_new _ _).alloc (by simp) _).alloc (by simp; omega) _).alloc (by simp; omega) _, by simp, by repeat (first | (refine heap_at ?_; simp; done) | refine heap_alloc' ?_ _), by repeat (first | (refine heap_at ?_; simp; done) | refine heap_alloc' ?_ _), by repeat (first | (refine heap_at ?_; simp; done) | refine heap_alloc' ?_ _)⟩ ?_
  rintro w1 ⟨hb1, hs1, hn1, hf1, hpb1⟩
  obtain ⟨hok, hfr, hF, hlen, hch, hrow⟩ := hq.out
  have hseq := periods_in 8 w1 (fun b => b = w.heap.size + 1) (w.heap.size + 1 + 1 + 1) p fr a cap ws count hP hok hfr hF hlen hch hpb1 (hrow.below hb1) (by omega) (fun b o e => by have := ha b o e; omega) (fun b hb => by omega)
  rw [Hys.out] at hseq
  clear hq hok hfr hF hlen hch hrow
  refine wpIn_rangeB (α := Int × Int) rfl (by omega) (gf := 101) (lb := #[.pointer (some ⟨w.heap.size + 1 + 1 + 1, 0, none⟩)]) rfl trivial (enters_of Try.func101 (by kernel_rfl) rfl)
    hseq (fun h k => KpM.trans h k) (fun W o' => KpM.put _ _ W o') (Below.refl _ _) (fun _ => rfl)
    (fun pre W => (W.heap[w.heap.size + 1]? = some (.cells #[.int .u64 (leastOf p.period (pre.map Prod.snd))] 22 (0, 0)) ∧ W.heap[w.heap.size + 1 + 1]? = some (.cells #[.func (.func 87) #[] #[.pointer (some ⟨w.heap.size + 1, 0, none⟩)]] 125 (0, 0))) ∧ Below w.heap.size w W)
    (fun _ _ _ => False)
    (OwnFrom.and (fun s A B row hs hg hr => ⟨heap_from hs.1 hg hr, heap_from hs.2 hg hr⟩) (ownFrom_below (Nat.le_refl _) (by omega)))
    (fun _ _ _ _ _ hs _ _ => hs)
    (fun s A B hs hb => ⟨⟨(hb.block _ (by omega)).trans hs.1.1, (hb.block _ (by omega)).trans hs.1.2⟩, hs.2.trans (hb.mono (by omega))⟩)
    (fun c s A B hs hb => hs)
    ⟨⟨hn1, hf1⟩, hb1⟩
    (fun x => { tmps := #[.agg #[.int .u16 p.id, .string p.name, .int .u64 p.period, .int .u64 p.dur, .int .u64 fr, .slice a ws.length cap], .pointer (some ⟨w.heap.size, 0, none⟩), .int .u64 0, .pointer (some ⟨w.heap.size + 1, 0, none⟩), .pointer (some ⟨w.heap.size + 1 + 1, 0, none⟩), undef, .int .u64 x.2,
      .pointer (some ⟨w.heap.size, 0, none⟩), .pointer (some ⟨w.heap.size, 2, none⟩), .int .u64 p.period, .func (.func 87) #[] #[.pointer (some ⟨w.heap.size + 1, 0, none⟩)], .agg #[.int .u16 p.id, .string p.name, .int .u64 p.period, .int .u64 p.dur, .int .u64 fr, .slice a ws.length cap],
      .func (.func 101) #[] #[.pointer (some ⟨w.heap.size + 1 + 1 + 1, 0, none⟩)], .int .u64 x.1, .int .u64 x.2, undef, undef, undef, undef], defers := [] }) ?assign ?body ?done ?stop
  case assign =>
    intro l x W K hK
    gi_wp2
    exact hK
  case body =>
    rintro l pre x W hlt ⟨⟨h1, h2⟩, hB⟩
    have f0 := cell_of_heap (i := 0) h2 rfl
    clear hb1 hn1 hf1 hpb1 hseq
    gi_wp2_with fail
    refine ⟨trivial, ?_⟩
    refine (CallsIn.inRound l (callsIn_wide.2 (note_c W _ _ x.2 h1))).mono ?_
    rintro e w' ⟨⟨v, rfl⟩, rfl⟩
    gi_wp2
    refine ⟨KeepsOthers.setCell _ _ _, KpM.set (own := fun b => b = w.heap.size + 1) rfl _, ⟨?_, heap_set_ne h2 (by omega) _⟩, hB.setCell (p := ⟨w.heap.size + 1, 0, none⟩) (by show w.heap.size ≤ w.heap.size + 1; omega) _⟩
    rw [List.map_append, List.map_cons, List.map_nil, leastOf_snoc]
    exact heap_set h1 _
  case done =>
    rintro D ys' W hD rfl ⟨⟨h1, h2⟩, hB⟩ hK
    have n0 := cell_of_heap (i := 0) h1 rfl
    clear hb1 hn1 hf1 hpb1 hseq
    gi_wp2
    refine ⟨by simp, .inl ⟨_, _, rfl, run_takeDeferred hK, ?_⟩⟩
    exact ⟨_, results_tmp rfl _ _ _, rfl, hB.trans (belowK_b (w := w) (Nat.le_refl _) W D _ _ (by omega) hK rfl rfl)⟩
  case stop =>
    rintro D c pre W hD _ h _
    exact h.elim
end Go.Proofs.Ytlccbejhamkdoaa
