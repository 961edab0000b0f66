/-
  sweep.queue's Push
  sweep.visit: the first loop, which fills the queue
  sweep.visit: the state of its second loop, and its steps
  sweep.visit
  the pairs that sweep.visit passes: plain law; the function that sweep.Pairs hands to visit
  the function that sweep.Pairs hands to visit
-/
import Derived.Test.YtmoignbaphddeaaB3Law15A
import Derived.Test.YtmoignbaphddeaaB2Law15A
import Derived.Deep.RegionLaw
import Derived.Deep.AppendLies
import Derived.BigQuiet
import Derived.Deep.QuietTactic
set_option linter.unusedVariables false
namespace Go.Proofs.Ytmoignbaphddeaa
open Go.RowKit

theorem infoItem : (Try.prog.info? 110).map (fun i => (i.zero, i.size, i.bytes)) = some (some (.agg #[.int .u64 0, .int .u64 0, .int .i64 0]), 3, 24) := by kernel_rfl

theorem taItem (v : Value) (w : World) : (Instr.typeAssert (.iface 110 v) 20 110 false).run Try.prog w = .ok v w := by
  simp [Instr.typeAssert, run_underlying Try.underlying110, go_sem, Result.andThen]

/-- a queue in memory, its row named -/
structure QS (W : World) (base qb : Nat) (f : FuncId) (a : Array Itm) (s : Value) : Prop where
  box : W.heap[qb]? = some (.cells #[s, .func (.func f) #[] #[]] 129 (0, 0))
  own : W.ownsRow base 110 3 s a.size (a.toList.flatMap encItm)
  ok : ∀ x ∈ a.toList, x.ok
  len : a.size * 24 ≤ 140737488351232
theorem QS.at {W : World} {base qb : Nat} {f : FuncId} {a : Array Itm} {s : Value} (h : QS W base qb f a s) : QAt W base qb f a := ⟨⟨s, h.box, h.own⟩, h.ok, h.len⟩
theorem QG.qs {W : World} {base qb g cap : Nat} {f : FuncId} {a : Array Itm} (h : QG W base qb g cap f a) : QS W base qb f a (.slice (some ⟨g, 0, none⟩) a.size cap) := ⟨h.box, h.own, h.ok, h.len⟩
theorem QS.ne {W : World} {base qb g n cap : Nat} {f : FuncId} {a : Array Itm} (h : QS W base qb f a (.slice (some ⟨g, 0, none⟩) n cap)) : qb ≠ g := by
  rintro rfl
  rcases h.own.2 with ⟨hv, _⟩ | ⟨g', cap', cur, hv, _, hgg, _⟩
  · cases hv
  · simp only [Value.slice.injEq, Option.some.injEq, Addr.mk.injEq, and_true] at hv
    obtain ⟨rfl, _⟩ := hv
    rw [h.box] at hgg
    simp only [Option.some.injEq, Obj.cells.injEq] at hgg
    exact absurd hgg.2.1 (by decide)
theorem QS.qg {W : World} {base qb g n cap : Nat} {f : FuncId} {a : Array Itm} (h : QS W base qb f a (.slice (some ⟨g, 0, none⟩) n cap)) : QG W base qb g cap f a := by
  obtain ⟨ad, c, hs, _⟩ := own_slice h.own
  simp only [Value.slice.injEq] at hs
  obtain ⟨rfl, rfl, rfl⟩ := hs
  exact ⟨h.box, h.own, h.ne, h.ok, h.len⟩
theorem QS.pos {W : World} {base qb : Nat} {f : FuncId} {a : Array Itm} {s : Value} (h : QS W base qb f a s) (h0 : 0 < a.size) : ∃ g cap, s = .slice (some ⟨g, 0, none⟩) a.size cap ∧ base ≤ g ∧ QG W base qb g cap f a := by
  rcases h.own.2 with ⟨_, hv⟩ | ⟨g, cap, cur, rfl, hb, _⟩
  · omega
  · exact ⟨g, cap, rfl, hb, h.qg⟩
theorem QS.grs {S : Nat → Prop} {W W' : World} {base qb : Nat} {f : FuncId} {a : Array Itm} {s : Value} (h : QS W base qb f a s) (hg : GrS S W W') (hq : ¬ S qb) (hs : ∀ k, s.ownBlock = some k → ¬ S k) : QS W' base qb f a s :=
  ⟨hg.heap h.box hq, hg.row h.own hs, h.ok, h.len⟩
theorem QS.below {W W' : World} {base qb : Nat} {f : FuncId} {a : Array Itm} {s : Value} (h : QS W base qb f a s) (hb : Below W.heap.size W W') : QS W' base qb f a s :=
  h.grs (GrS.below hb fun _ => False) (fun h => h) (fun _ _ h => h)
theorem QS.keptE {W W' : World} {base qb : Nat} {f : FuncId} {a : Array Itm} {s : Value} (h : QS W base qb f a s) (h1 : KeptE 110 W W') (h2 : KeptE 129 W W') : QS W' base qb f a s :=
  ⟨h2 _ _ _ h.box, own_kept h.own h1, h.ok, h.len⟩

theorem QS.boxed {W W' : World} {base qb : Nat} {f : FuncId} {a : Array Itm} {s : Value} (h : QS W base qb f a s) (hg : W.grownBy W' s.ownBlock) : W'.heap[qb]? = some (.cells #[s, .func (.func f) #[] #[]] 129 (0, 0)) :=
  KeptE.grown (e := 129) h.own hg (by decide) _ _ _ h.box
/-- behind an append: the row stored into the box -/
theorem QS.pushed {W W' : World} {base qb : Nat} {f : FuncId} {a : Array Itm} {s s' : Value} {x : Itm} (h : QS W base qb f a s) (hx : x.ok) (hl : (a.size + 1) * 24 ≤ 140737488351232)
    (ho : W'.ownsRow base 110 3 s' (a.size + 1) (a.toList.flatMap encItm ++ encItm x)) (hg : W.grownBy W' s.ownBlock) :
    QS (W'.setCell ⟨qb, 0, none⟩ s') base qb f (a.push x) s' ∧ GrS (fun k => some k = s.ownBlock ∨ k = qb) W (W'.setCell ⟨qb, 0, none⟩ s') := by
  have hbox : W'.heap[qb]? = some (.cells #[s, .func (.func f) #[] #[]] 129 (0, 0)) := by
    have hk := KeptE.grown (e := 129) h.own hg (by decide)
    exact hk _ _ _ h.box
  have hne : ∀ k, s'.ownBlock = some k → k ≠ qb := by
    rintro k hk rfl
    rcases ho.2 with ⟨rfl, _⟩ | ⟨g', cap', cur, rfl, _, hgg, _⟩
    · cases hk
    · simp only [Value.ownBlock, Option.some.injEq] at hk
      subst hk
      rw [hbox] at hgg
      simp only [Option.some.injEq, Obj.cells.injEq] at hgg
      exact absurd hgg.2.1 (by decide)
  have hset := GrS.set (S := fun k => k = qb) W' qb 0 s' rfl
  refine ⟨⟨?_, ?_, ?_, ?_⟩, (GrS.grown hg fun k hk => .inl hk.symm).trans (hset.mono fun k hk => .inr hk)⟩
  · have := heap_setCell_same W' qb 0 _ 129 s' hbox
    simpa using this
  · have h2 := hset.row ho hne
    rw [Array.size_push, Array.toList_push, List.flatMap_append]
    simpa using h2
  · intro y hy
    rw [Array.toList_push, List.mem_append, List.mem_singleton] at hy
    rcases hy with hy | rfl
    · exact h.ok y hy
    · exact hx
  · rw [Array.size_push]; exact hl

set_option maxHeartbeats 2000000 in
theorem qPush_c (w : World) (base qb : Nat) (f : FuncId) (a : Array Itm) (s : Value) (h : QS w base qb f a s) (hbase : base ≤ w.heap.size) (x : Itm) (hx : x.ok) (hl : (a.size + 1) * 24 ≤ 140737488351232) :
    Calls Try.prog 65 #[.pointer (some ⟨qb, 0, none⟩), .iface 110 (itV x)] w fun e w' => (∃ v, e = .returned v) ∧ ∃ s', QS w' base qb f (a.push x) s' ∧ GrS (fun k => some k = s.ownBlock ∨ k = qb) w w' := by
  obtain ⟨ad, cap, rfl, hcap⟩ := own_slice h.own
  have H := hid h
  have Hx := hid hx
  have q0 : w.cell? ⟨qb, 0, none⟩ = some (.slice ad a.size cap) := cell_of_heap h.box rfl
  have hq1 : ∀ i, w.frozen? ⟨qb, i, none⟩ = false := fun i => free_of_heap h.box
  have hqs : qb < w.heap.size := lt_of_block h.box
  unfold itV
  clear h hx
  go_enter Try.func65, Try.ntmps65
  obtain ⟨i0, hi0, hz0, hz1, hz2⟩ := info_parts infoItem
  have hta := taItem
  go_wp2_with fail
  go_region_law
    ((refine step_append_lies _ (by rfl) _ _ _ (by rfl) base 110 i0 _ 3 24 Try.underlying111 hi0 hz0 hz1 hz2 rfl (by omega) _ a.size _ (by rfl) ((H.out.own.kept (gbelow (Below.refl _ _).drew none) (by cases (Value.ownBlock _) <;> simp)).alloc _)
        ⟨w.heap.size, 0, none⟩ 1 1 (encItm x) (by rfl) (by rfl) (World.news_of_block (cs := (encItm x).toArray) (t := 110) (fr := (0, 0)) (heap_alloc_new w _)) (by simp [encItm, Value.oneCell'])
        (by omega) (by have : maxLen = 9223372036854775807 := rfl; omega) (by omega) (by simp; omega) _ rfl ?_; intro gg cap' w1 hown1 hgrow hat hlt; have hg0 := undrew (gtrans (World.grownBy_alloc _ _ _) hgrow); have hbx := H.out.boxed hg0; have r0 := cell_of_heap (i := 0) hbx rfl; have hr1 := free_of_heap (i := 0) hbx))
  all_goals (have hfin := hid (H.out.pushed Hx.out hl hown1 hg0); clear hown1 hg0 hgrow hat hbx r0 hr1; go_wp2; go_end0; exact ⟨⟨_, rfl⟩, _, hfin.out⟩)
end Go.Proofs.Ytmoignbaphddeaa
namespace Go.Proofs.Ytmoignbaphddeaa
open Go.RowKit

/-- a span -/
structure Spn where
  lo : Int
  len : Int
def encSpn (x : Spn) : List Value := [.int .u64 x.lo, .int .u64 x.len]
def Spn.ok (x : Spn) : Prop := 0 ≤ x.lo ∧ 0 < x.len ∧ x.lo + x.len ≤ 18446744073709551616 ∧ x.len ≤ 18446744073709551615
def itemsL : Nat → List Spn → List Itm
  | _, [] => []
  | n, s :: l => ⟨s.lo, s.len, n⟩ :: itemsL (n + 1) l
theorem itemsL_len : ∀ (n : Nat) (l : List Spn), (itemsL n l).length = l.length
  | _, [] => rfl
  | n, _ :: l => by simp [itemsL, itemsL_len (n + 1) l]
theorem itemsL_get : ∀ (n : Nat) (l : List Spn) (i : Nat), (itemsL n l)[i]? = (l[i]?).map fun s => ⟨s.lo, s.len, ((n + i : Nat) : Int)⟩
  | _, [], _ => rfl
  | n, s :: l, 0 => rfl
  | n, s :: l, i + 1 => by
    rw [itemsL, List.getElem?_cons_succ, itemsL_get (n + 1) l i, List.getElem?_cons_succ]
    congr 1; funext s; congr 1; congr 1; omega
theorem itemsL_mem {n : Nat} {l : List Spn} {x : Itm} (h : x ∈ itemsL n l) : ∃ (i : Nat) (s : Spn), l[i]? = some s ∧ x = ⟨s.lo, s.len, ((n + i : Nat) : Int)⟩ := by
  obtain ⟨i, hi⟩ := List.mem_iff_getElem?.1 h
  rw [itemsL_get] at hi
  obtain ⟨s, hs, hx⟩ := Option.map_eq_some_iff.1 hi
  exact ⟨i, s, hs, hx.symm⟩
theorem itemsL_take (n : Nat) (l : List Spn) (k : Nat) : itemsL n (l.take k) = (itemsL n l).take k := by
  apply List.ext_getElem?
  intro i
  rw [itemsL_get, List.getElem?_take, List.getElem?_take, itemsL_get]
  split <;> rfl
def itsA (l : List Spn) : Array Itm := (itemsL 0 l).toArray
theorem itsA_size (l : List Spn) : (itsA l).size = l.length := by simp [itsA, itemsL_len]
theorem itsA_ok {l : List Spn} (h : ∀ s ∈ l, s.ok) : ∀ x ∈ (itsA l).toList, x.ok := by
  intro x hx
  obtain ⟨i, s, hs, rfl⟩ := itemsL_mem (show x ∈ itemsL 0 l from hx)
  exact h s (List.mem_of_getElem? hs)
theorem itsA_snoc {l : List Spn} {k : Nat} (hk : k < l.length) : itsA (l.take (k + 1)) = (itsA (l.take k)).push ⟨l[k].lo, l[k].len, k⟩ := by
  unfold itsA
  rw [itemsL_take, itemsL_take, List.take_add_one, itemsL_get, List.getElem?_eq_getElem hk]
  simp


theorem RowAt.spn {w : World} {a : Option Addr} {l : List Spn} (h : RowAt 2 encSpn w a l) {k : Nat} (hk : k < l.length) : ∃ b o, a = some ⟨b, o, none⟩ ∧ b < w.heap.size ∧
    w.cell? ⟨b, o + k * 2, none⟩ = some (.int .u64 l[k].lo) ∧ w.cell? ⟨b, o + k * 2 + 1, none⟩ = some (.int .u64 l[k].len) := by
  obtain ⟨b, o, ha, hc⟩ := h k l[k] (List.getElem?_eq_getElem hk)
  exact ⟨b, o, ha, hc.lt (by simp [encSpn]), hc 0 _ rfl, hc 1 _ rfl⟩

/-- what the queues' steps keep: all cells but those of items and queues -/
structure QStep (W W' : World) : Prop where
  os : W'.os = W.os
  tape : W'.tape = W.tape
  output : W'.output = W.output
  size : W.heap.size ≤ W'.heap.size
  keep : ∀ (g : Nat) cur e f, W.heap[g]? = some (Obj.cells cur e f) → e ≠ 110 → e ≠ 129 → W'.heap[g]? = some (Obj.cells cur e f)
theorem QStep.refl (W : World) : QStep W W := ⟨rfl, rfl, rfl, Nat.le_refl _, fun _ _ _ _ h _ _ => h⟩
theorem QStep.trans {W W1 W2 : World} (h : QStep W W1) (k : QStep W1 W2) : QStep W W2 :=
  ⟨k.os.trans h.os, k.tape.trans h.tape, k.output.trans h.output, Nat.le_trans h.size k.size, fun g cur e f hg h1 h2 => k.keep g cur e f (h.keep g cur e f hg h1 h2) h1 h2⟩
theorem QStep.below {W W' : World} (h : Below W.heap.size W W') : QStep W W' :=
  ⟨h.os, h.tape, h.output, h.size, fun g cur e f hg _ _ => heap_keep hg h⟩
theorem QStep.grs {S : Nat → Prop} {W W' : World} (h : GrS S W W') (hS : ∀ k, S k → ∃ cur e f, W.heap[k]? = some (Obj.cells cur e f) ∧ (e = 110 ∨ e = 129)) : QStep W W' :=
  ⟨h.os, h.tape, h.output, h.size, fun g cur e f hg h1 h2 => h.heap hg (fun hk => by
    obtain ⟨cur', e', f', hg', he⟩ := hS g hk
    rw [hg] at hg'
    simp only [Option.some.injEq, Obj.cells.injEq] at hg'
    obtain ⟨-, rfl, -⟩ := hg'
    rcases he with rfl | rfl
    · exact h1 rfl
    · exact h2 rfl)⟩
theorem own_item {W : World} {base n : Nat} {s : Value} {xs : List Value} (h : W.ownsRow base 110 3 s n xs) {k : Nat} (hk : s.ownBlock = some k) : base ≤ k ∧ ∃ cur f, W.heap[k]? = some (Obj.cells cur 110 f) := by
  rcases h.2 with ⟨rfl, _⟩ | ⟨g', cap', cur, rfl, hb, hgg, _⟩
  · cases hk
  · simp only [Value.ownBlock, Option.some.injEq] at hk
    subst hk
    exact ⟨hb, _, _, hgg⟩
theorem QS.qstep {W W' : World} {base qb : Nat} {f : FuncId} {a : Array Itm} {s : Value} (h : QS W base qb f a s) (hg : GrS (fun k => some k = s.ownBlock ∨ k = qb) W W') : QStep W W' := by
  refine QStep.grs hg fun k hk => ?_
  rcases hk with hk | rfl
  · obtain ⟨_, cur, f, hc⟩ := own_item h.own hk.symm
    exact ⟨cur, _, f, hc, .inl rfl⟩
  · exact ⟨_, _, _, h.box, .inr rfl⟩
theorem QS.blw {W W' : World} {B base qb : Nat} {f : FuncId} {a : Array Itm} {s : Value} (h : QS W base qb f a s) (hg : GrS (fun k => some k = s.ownBlock ∨ k = qb) W W') (hb : B ≤ base) (hq : B ≤ qb) (hB : B ≤ W.heap.size) : Below B W W' := by
  refine hg.toBelow (fun k hk => ?_) hB
  rcases hk with hk | rfl
  · exact Nat.le_trans hb (own_item h.own hk.symm).1
  · exact hq

/-- what is handed to visit -/
structure Passes (T : List (Itm × Array Itm)) (B0 : Nat) (fn : FuncId) (caps : Array Value) (I : List (Itm × Array Itm) → World → Prop) : Prop where
  enter : ∀ (args : Array Value) (W : World), (callFunc fn args).run Try.prog W = .ok (.enter fn args) W
  kept : ∀ tr W W', I tr W → QStep W W' → I tr W'
  step : ∀ tr W (x : Itm) (o : Array Itm) ad cap, (∃ rest, tr ++ (x, o) :: rest = T) → I tr W → B0 ≤ W.heap.size → x.ok → (∀ y ∈ o.toList, y.ok) → o.size * 24 ≤ 140737488351232 → (∃ base, W.ownsRow base 110 3 (.slice ad o.size cap) o.size (o.toList.flatMap encItm)) →
    Calls Try.prog fn (#[itV x, .slice ad o.size cap] ++ caps) W fun e w' => (∃ v, e = .returned v) ∧ I (tr ++ [(x, o)]) w' ∧ KeptE 110 W w' ∧ KeptE 129 W w' ∧ Below B0 W w'

/-- the first loop's state -/
structure V1 (w : World) (l : List Spn) (I : List (Itm × Array Itm) → World → Prop) (k : Nat) (W : World) : Prop where
  qw : ∃ s, QS W w.heap.size w.heap.size 62 (itsA (l.take k)) s
  qo : W.heap[w.heap.size + 1]? = some (.cells #[.slice none 0 0, .func (.func 63) #[] #[]] 129 (0, 0))
  inv : I [] W
  bel : Below w.heap.size w W
theorem V1.mk0 {w W : World} {B0 : Nat} {l : List Spn} {I : List (Itm × Array Itm) → World → Prop} {fn caps T} (hp : Passes T B0 fn caps I) (h0 : I [] w) (hb : Below w.heap.size w W)
    (h1 : W.heap[w.heap.size]? = some (.cells #[.slice none 0 0, .func (.func 62) #[] #[]] 129 (0, 0)))
    (h2 : W.heap[w.heap.size + 1]? = some (.cells #[.slice none 0 0, .func (.func 63) #[] #[]] 129 (0, 0))) : V1 w l I 0 W :=
  ⟨⟨_, h1, World.ownsRow_nil _ _ _ _, by simp [itsA, itemsL], by simp [itsA, itemsL]⟩, h2, hp.kept _ _ _ h0 (QStep.below hb), hb⟩
theorem V1.below {w W W' : World} {B0 : Nat} {l : List Spn} {I : List (Itm × Array Itm) → World → Prop} {k : Nat} {fn caps T} (hp : Passes T B0 fn caps I) (h : V1 w l I k W) (hb : Below W.heap.size W W') : V1 w l I k W' := by
  obtain ⟨s, hs⟩ := h.qw
  exact ⟨⟨s, hs.below hb⟩, heap_keep h.qo hb, hp.kept _ _ _ h.inv (QStep.below hb), h.bel.trans (hb.mono h.bel.size)⟩
theorem V1.next {w W W' : World} {B0 : Nat} {l : List Spn} {I : List (Itm × Array Itm) → World → Prop} {k : Nat} {fn caps T} (hp : Passes T B0 fn caps I) (h : V1 w l I k W) (hk : k < l.length) {s s' : Value}
    (hs : QS W w.heap.size w.heap.size 62 (itsA (l.take k)) s) (hs' : QS W' w.heap.size w.heap.size 62 ((itsA (l.take k)).push ⟨l[k].lo, l[k].len, k⟩) s') (hg : GrS (fun k => some k = s.ownBlock ∨ k = w.heap.size) W W') : V1 w l I (k + 1) W' := by
  have hq := hs.qstep hg
  refine ⟨⟨s', by rw [itsA_snoc hk]; exact hs'⟩, ?_, hp.kept _ _ _ h.inv hq, h.bel.trans (hs.blw hg (Nat.le_refl _) (Nat.le_refl _) h.bel.size)⟩
  refine hg.heap h.qo ?_
  rintro (hk' | hk')
  · obtain ⟨_, cur, f, hc⟩ := own_item hs.own hk'.symm
    rw [h.qo] at hc
    simp only [Option.some.injEq, Obj.cells.injEq] at hc
    exact absurd hc.2.1 (by decide)
  · omega
end Go.Proofs.Ytmoignbaphddeaa
namespace Go.Proofs.Ytmoignbaphddeaa
open Go.RowKit

/-- the second loop's state -/
structure V2 (w : World) (B0 B1 : Nat) (I : List (Itm × Array Itm) → World → Prop) (tr : List (Itm × Array Itm)) (wq oq : Array Itm) (W : World) : Prop where
  qw : ∃ s, QS W w.heap.size w.heap.size 62 wq s ∧ ∀ k, s.ownBlock = some k → k < B1
  qo : ∃ s, QS W B1 (w.heap.size + 1) 63 oq s
  inv : I tr W
  bel : Below B0 w W
  big : B1 ≤ W.heap.size
  old : w.heap.size + 1 < B1

section
variable {w W W' : World} {B0 B1 : Nat} {I : List (Itm × Array Itm) → World → Prop} {tr : List (Itm × Array Itm)} {wq oq : Array Itm} {fn : FuncId} {caps : Array Value} {T : List (Itm × Array Itm)}
theorem V2.below (hp : Passes T B0 fn caps I) (hB : B0 ≤ w.heap.size) (h : V2 w B0 B1 I tr wq oq W) (hb : Below W.heap.size W W') : V2 w B0 B1 I tr wq oq W' := by
  obtain ⟨s, hs, hsb⟩ := h.qw
  obtain ⟨t, ht⟩ := h.qo
  exact ⟨⟨s, hs.below hb, hsb⟩, ⟨t, ht.below hb⟩, hp.kept _ _ _ h.inv (QStep.below hb), h.bel.trans (hb.mono (Nat.le_trans hB h.bel.size)), Nat.le_trans h.big hb.size, h.old⟩
/-- the waiting queue changes -/
theorem V2.stepW (hp : Passes T B0 fn caps I) (hB : B0 ≤ w.heap.size) (h : V2 w B0 B1 I tr wq oq W) {s s' : Value} {wq' : Array Itm} (hs : QS W w.heap.size w.heap.size 62 wq s) (hsb : ∀ k, s.ownBlock = some k → k < B1)
    (hg : GrS (fun k => some k = s.ownBlock ∨ k = w.heap.size) W W') (hs' : QS W' w.heap.size w.heap.size 62 wq' s') (hsb' : ∀ k, s'.ownBlock = some k → k < B1) : V2 w B0 B1 I tr wq' oq W' := by
  obtain ⟨t, ht⟩ := h.qo
  have hold := h.old
  refine ⟨⟨s', hs', hsb'⟩, ⟨t, ht.grs hg ?_ ?_⟩, hp.kept _ _ _ h.inv (hs.qstep hg), h.bel.trans (hs.blw hg hB hB (Nat.le_trans hB h.bel.size)), Nat.le_trans h.big hg.size, h.old⟩
  · rintro (hk | hk)
    · obtain ⟨_, cur, f, hc⟩ := own_item hs.own hk.symm
      rw [ht.box] at hc
      simp only [Option.some.injEq, Obj.cells.injEq] at hc
      exact absurd hc.2.1 (by decide)
    · omega
  · intro k hk
    have h1 := (own_item ht.own hk).1
    rintro (hk' | hk')
    · have := hsb k hk'.symm; omega
    · omega
/-- the open queue changes -/
theorem V2.stepO (hp : Passes T B0 fn caps I) (hB : B0 ≤ w.heap.size) (h : V2 w B0 B1 I tr wq oq W) {s s' : Value} {oq' : Array Itm} (hs : QS W B1 (w.heap.size + 1) 63 oq s)
    (hg : GrS (fun k => some k = s.ownBlock ∨ k = w.heap.size + 1) W W') (hs' : QS W' B1 (w.heap.size + 1) 63 oq' s') : V2 w B0 B1 I tr wq oq' W' := by
  obtain ⟨t, ht, htb⟩ := h.qw
  have hold := h.old
  refine ⟨⟨t, ht.grs hg ?_ ?_, htb⟩, ⟨s', hs'⟩, hp.kept _ _ _ h.inv (hs.qstep hg), h.bel.trans (hs.blw hg (by omega) (by omega) (Nat.le_trans hB h.bel.size)), Nat.le_trans h.big hg.size, h.old⟩
  · rintro (hk | hk)
    · have := (own_item hs.own hk.symm).1; omega
    · omega
  · intro k hk
    have h1 := htb k hk
    rintro (hk' | hk')
    · have := (own_item hs.own hk'.symm).1; omega
    · obtain ⟨_, cur, f, hc⟩ := own_item ht.own hk
      rw [hk', hs.box] at hc
      simp only [Option.some.injEq, Obj.cells.injEq] at hc
      exact absurd hc.2.1 (by decide)
/-- behind the function handed in -/
theorem V2.passed (h : V2 w B0 B1 I tr wq oq W) {tr' : List (Itm × Array Itm)} (hI : I tr' W') (h1 : KeptE 110 W W') (h2 : KeptE 129 W W') (hb : Below B0 W W') : V2 w B0 B1 I tr' wq oq W' := by
  obtain ⟨s, hs, hsb⟩ := h.qw
  obtain ⟨t, ht⟩ := h.qo
  exact ⟨⟨s, hs.keptE h1 h2, hsb⟩, ⟨t, ht.keptE h1 h2⟩, hI, h.bel.trans hb, Nat.le_trans h.big hb.size, h.old⟩

theorem v2LenW_c (h : V2 w B0 B1 I tr wq oq W) : Calls Try.prog 66 #[.pointer (some ⟨w.heap.size, 0, none⟩)] W fun e w' => e = .returned (.int .i64 wq.size) ∧ w' = W := by
  obtain ⟨s, hs, -⟩ := h.qw
  exact qLen_c W _ _ _ wq hs.at
theorem v2LenO_c (h : V2 w B0 B1 I tr wq oq W) : Calls Try.prog 66 #[.pointer (some ⟨w.heap.size + 1, 0, none⟩)] W fun e w' => e = .returned (.int .i64 oq.size) ∧ w' = W := by
  obtain ⟨s, hs⟩ := h.qo
  exact qLen_c W _ _ _ oq hs.at
theorem v2PopW_c (hp : Passes T B0 fn caps I) (hB : B0 ≤ w.heap.size) (h : V2 w B0 B1 I tr wq oq W) (h0 : 0 < wq.size) : Calls Try.prog 67 #[.iface 125 (.pointer (some ⟨w.heap.size, 0, none⟩))] W fun e w' =>
    e = .returned (.iface 110 (itV wq[0])) ∧ V2 w B0 B1 I tr (popA Itm.lo wq) oq w' := by
  obtain ⟨s, hs, hsb⟩ := h.qw
  obtain ⟨g, cap, rfl, hbg, hq⟩ := hs.pos h0
  refine (hPop_c W _ _ g cap _ Itm.lo (.inl ⟨rfl, rfl⟩) wq hq h0).mono ?_
  rintro e w' ⟨rfl, hq', hg⟩
  refine ⟨rfl, h.stepW hp hB hs hsb (hg.mono ?_) hq'.qs ?_⟩
  · rintro k (rfl | rfl)
    · exact .inl rfl
    · exact .inr rfl
  · intro k hk
    exact hsb k hk
/-- that block is not the open queue's -/
def NotO (w W : World) (b : Nat) : Prop := ∀ s, W.heap[w.heap.size + 1]? = some (.cells #[s, .func (.func 63) #[] #[]] 129 (0, 0)) → s.ownBlock ≠ some b
theorem V2.notO (h : V2 w B0 B1 I tr wq oq W) (o : Obj) : NotO w (W.alloc o) W.heap.size := by
  intro s hs hb
  obtain ⟨t, ht⟩ := h.qo
  rw [heap_alloc' ht.box o] at hs
  simp only [Option.some.injEq, Obj.cells.injEq, and_true] at hs
  have : t = s := by have := congrArg (fun a : Array Value => a[0]?) hs; simpa using this
  subst this
  obtain ⟨_, cur, f, hc⟩ := own_item ht.own hb
  exact absurd (lt_of_block hc) (Nat.lt_irrefl _)
theorem NotO.below {b : Nat} (h : NotO w W b) (hq : w.heap.size + 1 < W.heap.size) (hb : Below W.heap.size W W') : NotO w W' b := fun s hs => h s (by rw [← hb.block _ hq]; exact hs)
theorem v2PopO_c (hp : Passes T B0 fn caps I) (hB : B0 ≤ w.heap.size) (h : V2 w B0 B1 I tr wq oq W) (h0 : 0 < oq.size) {b : Nat} {o : Obj} (hb : W.heap[b]? = some o) (hn : NotO w W b) (hbq : b ≠ w.heap.size + 1) : Calls Try.prog 67 #[.iface 125 (.pointer (some ⟨w.heap.size + 1, 0, none⟩))] W fun e w' =>
    (∃ v, e = .returned v) ∧ V2 w B0 B1 I tr wq (popA Itm.last oq) w' ∧ w'.heap[b]? = some o ∧ NotO w w' b := by
  obtain ⟨s, hs⟩ := h.qo
  obtain ⟨g, cap, rfl, hbg, hq⟩ := hs.pos h0
  have hgb : ¬ g = b := fun e => hn _ hs.box (by rw [e]; rfl)
  refine (hPop_c W _ _ g cap _ Itm.last (.inr ⟨rfl, rfl⟩) oq hq h0).mono ?_
  rintro e w' ⟨rfl, hq', hg⟩
  refine ⟨⟨_, rfl⟩, h.stepO hp hB hs (hg.mono ?_) hq'.qs, hg.heap hb ?_, ?_⟩
  · rintro k (rfl | rfl)
    · exact .inl rfl
    · exact .inr rfl
  · rintro (hk | hk)
    · exact hgb hk.symm
    · exact hbq hk
  · intro s' hs' hk
    rw [hq'.box] at hs'
    simp only [Option.some.injEq, Obj.cells.injEq, and_true] at hs'
    have : Value.slice (some ⟨g, 0, none⟩) (popA Itm.last oq).size cap = s' := by have := congrArg (fun a : Array Value => a[0]?) hs'; simpa using this
    subst this
    simp only [Value.ownBlock, Option.some.injEq] at hk
    exact hgb hk
theorem v2Push_c (hp : Passes T B0 fn caps I) (hB : B0 ≤ w.heap.size) (h : V2 w B0 B1 I tr wq oq W) (x : Itm) (hx : x.ok) (hl : (oq.size + 1) * 24 ≤ 140737488351232) : Calls Try.prog 65 #[.pointer (some ⟨w.heap.size + 1, 0, none⟩), .iface 110 (itV x)] W fun e w' =>
    (∃ v, e = .returned v) ∧ V2 w B0 B1 I tr wq (oq.push x) w' := by
  obtain ⟨s, hs⟩ := h.qo
  refine (qPush_c W _ _ _ oq s hs h.big x hx hl).mono ?_
  rintro e w' ⟨hv, s', hq', hg⟩
  exact ⟨hv, h.stepO hp hB hs hg hq'⟩
theorem v2Fix_c (hp : Passes T B0 fn caps I) (hB : B0 ≤ w.heap.size) (i : Nat) (h : V2 w B0 B1 I tr wq oq W) (hi : i + 1 = oq.size) : Calls Try.prog 68 #[.iface 125 (.pointer (some ⟨w.heap.size + 1, 0, none⟩)), .int .i64 i] W fun e w' =>
    (∃ v, e = .returned v) ∧ V2 w B0 B1 I tr wq (upA Itm.last oq i) w' := by
  obtain ⟨s, hs⟩ := h.qo
  obtain ⟨g, cap, rfl, hbg, hq⟩ := hs.pos (by omega)
  refine (hFix_c W _ _ g cap _ Itm.last (.inr ⟨rfl, rfl⟩) oq hq i hi).mono ?_
  rintro e w' ⟨hv, hq', hg⟩
  refine ⟨hv, h.stepO hp hB hs (GrS.grown hg ?_) hq'.qs⟩
  intro k hk
  exact .inl hk.symm
end
end Go.Proofs.Ytmoignbaphddeaa
namespace Go.Proofs.Ytmoignbaphddeaa
open Go.RowKit

theorem hInit0_c (w : World) (base qb : Nat) (f : FuncId) (a : Array Itm) (h : QAt w base qb f a) (h0 : a.size = 0) :
    Calls Try.prog 64 #[.iface 125 (.pointer (some ⟨qb, 0, none⟩))] w fun e w' => (∃ v, e = .returned v) ∧ w' = w := by
  have hln := hid (qLen_c w base qb f a h)
  rw [h0] at hln
  clear h h0
  go_enter Try.func64, Try.ntmps64
  go_wp2_with fail
  refine hln.out.mono ?_
  rintro e w' ⟨rfl, rfl⟩
  go_wp2_with fail
  go_loopw [3] (fun v wr => v = .int .i64 (-1) ∧ wr = w') (fun v _ => 0)
  case atStart => exact ⟨rfl, rfl⟩
  case round =>
    obtain ⟨rfl, rfl⟩ := hrel
    go_wp2_with fail
    go_end0
    exact ⟨⟨_, rfl⟩, rfl⟩

section
variable {w W : World} {B0 : Nat} {I : List (Itm × Array Itm) → World → Prop} {fn : FuncId} {caps : Array Value} {l : List Spn} {T : List (Itm × Array Itm)}
theorem v1Init_c (hp : Passes T B0 fn caps I) (hB : B0 ≤ w.heap.size) (h : V1 w l I l.length W) : Calls Try.prog 64 #[.iface 125 (.pointer (some ⟨w.heap.size, 0, none⟩))] W fun e w' =>
    (∃ v, e = .returned v) ∧ ∃ B1, V2 w B0 B1 I [] (initA Itm.lo (itsA l) (l.length / 2)) #[] w' := by
  obtain ⟨s, hs⟩ := h.qw
  rw [List.take_length] at hs
  have hold := lt_of_block h.qo
  have hbel : Below B0 w W := h.bel.mono hB
  by_cases h0 : 0 < l.length
  · obtain ⟨g, cap, rfl, hbg, hq⟩ := hs.pos (by rw [itsA_size]; exact h0)
    refine (hInit_c W _ _ g cap _ Itm.lo (.inl ⟨rfl, rfl⟩) _ hq).mono ?_
    rintro e w' ⟨hv, hq', hg⟩
    rw [itsA_size] at hq'
    have hgs : GrS (fun k => some k = (Value.slice (some ⟨g, 0, none⟩) (itsA l).size cap).ownBlock ∨ k = w.heap.size) W w' := GrS.grown hg fun k hk => .inl hk.symm
    have hgw : g < W.heap.size := by obtain ⟨_, cur, f, hc⟩ := own_item hs.own (k := g) rfl; exact lt_of_block hc
    refine ⟨hv, w'.heap.size, ⟨_, hq'.qs, fun k hk => ?_⟩, ⟨_, ?_, World.ownsRow_nil _ _ _ _, by simp, by simp⟩, hp.kept _ _ _ h.inv (hs.qstep hgs), hbel.trans (hs.blw hgs hB hB (Nat.le_trans hB h.bel.size)), Nat.le_refl _, Nat.lt_of_lt_of_le hold hgs.size⟩
    · simp only [Value.ownBlock, Option.some.injEq] at hk
      subst hk
      exact Nat.lt_of_lt_of_le hgw hgs.size
    · refine hgs.heap h.qo ?_
      rintro (hk | hk)
      · simp only [Value.ownBlock, Option.some.injEq] at hk
        obtain ⟨_, cur, f, hc⟩ := own_item hs.own (k := g) rfl
        rw [← hk, h.qo] at hc
        simp only [Option.some.injEq, Obj.cells.injEq] at hc
        exact absurd hc.2.1 (by decide)
      · omega
  · have hl0 : l.length = 0 := by omega
    refine (hInit0_c W _ _ _ _ hs.at (by rw [itsA_size]; exact hl0)).mono ?_
    rintro e w' ⟨hv, rfl⟩
    have hi : initA Itm.lo (itsA l) (l.length / 2) = itsA l := by rw [hl0]; rfl
    rw [hi]
    refine ⟨hv, w'.heap.size, ⟨s, hs, fun k hk => ?_⟩, ⟨_, h.qo, World.ownsRow_nil _ _ _ _, by simp, by simp⟩, h.inv, hbel, Nat.le_refl _, hold⟩
    obtain ⟨_, cur, f, hc⟩ := own_item hs.own hk
    exact lt_of_block hc

/-- what one reads off the open queue -/
theorem V2.openRow {B1 : Nat} {tr : List (Itm × Array Itm)} {wq oq : Array Itm} (h : V2 w B0 B1 I tr wq oq W) : ∃ ad cap, W.cell? ⟨w.heap.size + 1, 0, none⟩ = some (.slice ad oq.size cap) ∧ RowAt 3 encItm W ad oq.toList ∧ oq.size ≤ cap := by
  obtain ⟨s, hs⟩ := h.qo
  obtain ⟨ad, cap, rfl, hc⟩ := own_slice hs.own
  exact ⟨ad, cap, cell_of_heap hs.box rfl, own_row hs.own (fun _ _ => rfl) (by simp), hc⟩
theorem V2.ok {B1 : Nat} {tr : List (Itm × Array Itm)} {wq oq : Array Itm} (h : V2 w B0 B1 I tr wq oq W) : (∀ x ∈ wq.toList, x.ok) ∧ (∀ x ∈ oq.toList, x.ok) ∧ oq.size * 24 ≤ 140737488351232 := by
  obtain ⟨s, hs, -⟩ := h.qw
  obtain ⟨t, ht⟩ := h.qo
  exact ⟨hs.ok, ht.ok, ht.len⟩
end

/-- what the last reading of a round needs -/
def ReadX (b bo : Nat) (x : Itm) (v f : Value) (W : World) : Prop := W.heap[b]? = some (.cells #[.int .u64 x.lo, .int .u64 x.len, .int .i64 x.idx] 110 (0, 0)) ∧ W.heap[bo]? = some (.cells #[v, f] 129 (0, 0))
theorem ReadX.keptE {b bo : Nat} {x : Itm} {v f : Value} {W W' : World} (h : ReadX b bo x v f W) (h1 : KeptE 110 W W') (h2 : KeptE 129 W W') : ReadX b bo x v f W' := ⟨h1 _ _ _ h.1, h2 _ _ _ h.2⟩
theorem V2.openRow' {w W : World} {B0 : Nat} {I : List (Itm × Array Itm) → World → Prop} {B1 : Nat} {tr : List (Itm × Array Itm)} {wq oq : Array Itm} (h : V2 w B0 B1 I tr wq oq W) : ∃ ad cap, W.heap[w.heap.size + 1]? = some (.cells #[.slice ad oq.size cap, .func (.func 63) #[] #[]] 129 (0, 0)) ∧ W.ownsRow B1 110 3 (.slice ad oq.size cap) oq.size (oq.toList.flatMap encItm) ∧ oq.size ≤ cap := by
  obtain ⟨s, hs⟩ := h.qo
  obtain ⟨ad, cap, rfl, hc⟩ := own_slice hs.own
  exact ⟨ad, cap, hs.box, hs.own, hc⟩

/-- how many wait -/
def waitN (b : Nat) (w : World) : Nat := match w.cell? ⟨b, 0, none⟩ with
  | some (.slice _ n _) => n
  | _ => 0
theorem V2.waits {w W : World} {B0 B1 : Nat} {I : List (Itm × Array Itm) → World → Prop} {tr : List (Itm × Array Itm)} {wq oq : Array Itm} (h : V2 w B0 B1 I tr wq oq W) : waitN w.heap.size W = wq.size := by
  obtain ⟨s, hs, -⟩ := h.qw
  obtain ⟨ad, cap, rfl, _⟩ := own_slice hs.own
  unfold waitN
  rw [cell_of_heap (i := 0) hs.box rfl]
  rfl
theorem V2.opens {w W : World} {B0 B1 : Nat} {I : List (Itm × Array Itm) → World → Prop} {tr : List (Itm × Array Itm)} {wq oq : Array Itm} (h : V2 w B0 B1 I tr wq oq W) : waitN (w.heap.size + 1) W = oq.size := by
  obtain ⟨s, hs⟩ := h.qo
  obtain ⟨ad, cap, rfl, _⟩ := own_slice hs.own
  unfold waitN
  rw [cell_of_heap (i := 0) hs.box rfl]
  rfl

set_option maxHeartbeats 8000000 in
set_option maxRecDepth 20000 in
theorem visit_c (w : World) (d : Option Addr) (cap : Nat) (l : List Spn) (hrow : RowAt 2 encSpn w d l) (hok : ∀ s ∈ l, s.ok) (hlen : l.length * 24 ≤ 140737488351232) (fn : FuncId) (caps : Array Value) (B0 : Nat) (hB : B0 ≤ w.heap.size)
    (I : List (Itm × Array Itm) → World → Prop) (hp : Passes (visitL Itm.lo Itm.last (initA Itm.lo (itsA l) (l.length / 2)) #[]) B0 fn caps I) (h0 : I [] w) :
    Calls Try.prog 50 #[.slice d l.length cap, .func (.func fn) #[] caps] w fun e w' => (∃ v, e = .returned v) ∧ I (visitL Itm.lo Itm.last (initA Itm.lo (itsA l) (l.length / 2)) #[]) w' ∧ Below B0 w w' := by
  have Hrow := hid hrow
  have H0 := hid h0
  obtain ⟨T, hT⟩ : ∃ T, visitL Itm.lo Itm.last (initA Itm.lo (itsA l) (l.length / 2)) #[] = T := ⟨_, rfl⟩
  rw [hT] at hp ⊢
  have Hp := hid hp
  have HT := hid hT
  clear hrow hp h0 hT
  go_enter Try.func50, Try.ntmps50
  go_wp2_with fail
  refine wp_name (fun W => V1 w l I 0 W)
    (V1.mk0 Hp.out H0.out ((below_new _ _).alloc (by simp) _) (by repeat (first | (refine heap_at ?_; simp; done) | refine heap_alloc' ?_ _)) (by repeat (first | (refine heap_at ?_; simp; done) | refine heap_alloc' ?_ _))) ?_
  intro w1 h1
  have H1 := hid h1
  clear h1
  obtain ⟨i0, hi0, hz0, hz1, hz2⟩ := info_parts infoItem
  go_loopw [16] (fun i wr => ∃ k : Nat, k ≤ l.length ∧ i = .int .i64 k ∧ Hid (V1 w l I k wr)) (fun i _ => l.length - (intOf i).toNat)
  case atStart => exact ⟨0, Nat.zero_le _, rfl, H1.out⟩
  case round =>
    obtain ⟨k, hkn, rfl, hI⟩ := hrel
    by_cases hlt : k < l.length
    · obtain ⟨b, o, ha, hb0, h0, h1⟩ := (Hrow.out.below hI.out.bel).spn hlt
      obtain ⟨y, hy⟩ : ∃ y, l[k] = y := ⟨_, rfl⟩
      have Hy := hid hy
      rw [hy] at h0 h1
      have hoky := hok l[k] (List.getElem_mem hlt)
      rw [hy] at hoky
      have Hoky : Hid ((⟨y.lo, y.len, k⟩ : Itm).ok) := hoky
      subst ha
      clear hy hoky
      go_wp2_with fail
      refine wp_name (fun W => V1 w l I k W ∧ W.heap[wr.heap.size]? = some (.cells #[.int .u64 y.lo, .int .u64 y.len] 75 (0, 0)))
        ⟨hI.out.below Hp.out (below_new _ _), by repeat (first | (refine heap_at ?_; simp; done) | refine heap_alloc' ?_ _)⟩ ?_
      rintro w2 ⟨hv2, hy2⟩
      have y0 := cell_of_heap (i := 0) hy2 rfl
      have y1 := cell_of_heap (i := 1) hy2 rfl
      have yl := lt_of_block hy2
      obtain ⟨s, hqs⟩ := hv2.qw
      obtain ⟨ad, c, rfl, hcap⟩ := own_slice hqs.own
      have hsz : (itsA (l.take k)).size = k := by rw [itsA_size, List.length_take]; omega
      have Hsz := hid hsz
      rw [hsz] at hqs hcap
      have hwl := hid hv2.bel.size
      have q0 : w2.cell? ⟨w.heap.size, 0, none⟩ = some (.slice ad k c) := cell_of_heap hqs.box rfl
      have hq1 : ∀ i, w2.frozen? ⟨w.heap.size, i, none⟩ = false := fun i => free_of_heap hqs.box
      have hqlt : w.heap.size < w2.heap.size := lt_of_block hqs.box
      have Hv2 := hid hv2
      have H := hid hqs
      clear hv2 hqs hI hsz hy2 h0 h1 hb0 Hrow
      have hown := H.out.own
      rw [Hsz.out] at hown
      have Hown := hid hown
      clear hown
      go_region_law
        ((refine step_append_lies _ (by rfl) _ _ _ (by rfl) w.heap.size 110 i0 _ 3 24 Try.underlying111 hi0 hz0 hz1 hz2 rfl (by omega) _ k _ (by rfl) ((Hown.out.kept (gbelow (Below.refl _ _).drew none) (by cases (Value.ownBlock _) <;> simp)).alloc _)
            ⟨w2.heap.size, 0, none⟩ 1 1 (encItm ⟨y.lo, y.len, k⟩) (by rfl) (by rfl) (World.news_of_block (cs := (encItm ⟨y.lo, y.len, k⟩).toArray) (t := 110) (fr := (0, 0)) (heap_alloc_new w2 _)) (by simp [encItm, Value.oneCell'])
            (by omega) (by have : maxLen = 9223372036854775807 := rfl; omega) (by have := hwl.out; omega) (by simp; omega) _ rfl ?_; intro gg cap' w1 hown1 hgrow hat hltg; have hg0 := undrew (gtrans (World.grownBy_alloc _ _ _) hgrow); have hbx := H.out.boxed hg0; have r0 := cell_of_heap (i := 0) hbx rfl; have hr1 := free_of_heap (i := 0) hbx))
      all_goals (have hpu := hid (H.out.pushed (x := ⟨y.lo, y.len, k⟩) Hoky.out (by rw [Hsz.out]; omega) (by rw [Hsz.out]; exact hown1) hg0); have hfin := hid (Hv2.out.next Hp.out hlt H.out (by rw [Hy.out]; exact hpu.out.1) hpu.out.2); clear hown1 hg0 hgrow hat hltg hbx r0 hr1 hpu; go_wp2; exact ⟨⟨k + 1, by omega, by go_num, hfin.out⟩, by simp [intOf]; omega⟩)
    · have hke : k = l.length := by omega
      subst hke
      have HI := hid hI.out
      clear hI
      go_wp2_with fail
      refine (v1Init_c Hp.out hB HI.out).mono ?_
      rintro e w2 ⟨⟨v, rfl⟩, B1, hv2⟩
      have hsz0 : (initA Itm.lo (itsA l) (l.length / 2)).size + (#[] : Array Itm).size ≤ l.length := by rw [initA_size, itsA_size]; simp
      have Hst := hid (And.intro hv2 (And.intro (show [] ++ visitL Itm.lo Itm.last (initA Itm.lo (itsA l) (l.length / 2)) #[] = T from HT.out) hsz0))
      clear hv2 HT hsz0 HI H1 H0 Hrow hok
      go_wp2_with fail
      go_loopw [] (fun wr => ∃ tr wq oq, Hid (V2 w B0 B1 I tr wq oq wr ∧ tr ++ visitL Itm.lo Itm.last wq oq = T ∧ wq.size + oq.size ≤ l.length)) (fun wr => waitN w.heap.size wr)
      case atStart => exact ⟨_, _, _, Hst.out⟩
      case round =>
        obtain ⟨tr, wq, oq, hI⟩ := hrel
        have hmeas := hid (hI.out.1.waits)
        by_cases hq0 : 0 < wq.size
        · have hq0' : (0 : Int) < (wq.size : Int) := by omega
          go_wp2_with fail
          refine (v2LenW_c hI.out.1).mono ?_
          rintro e w' ⟨rfl, rfl⟩
          go_wp2_with fail
          refine (v2PopW_c Hp.out hB hI.out.1 hq0).mono ?_
          rintro e w4 ⟨rfl, hv4⟩
          obtain ⟨x, hx⟩ : ∃ x, wq[0] = x := ⟨_, rfl⟩
          obtain ⟨W2, hW2⟩ : ∃ W2, popA Itm.lo wq = W2 := ⟨_, rfl⟩
          have Hvis : Hid (visitL Itm.lo Itm.last wq oq = (x, drainA Itm.last oq x.lo) :: visitL Itm.lo Itm.last W2 (pushA Itm.last (drainA Itm.last oq x.lo) x)) := by
            have := visitL.eq_1 Itm.lo Itm.last wq oq
            rw [dif_pos hq0, hx, hW2] at this
            exact this
          have Hsz2 : Hid (W2.size + 1 = wq.size) := by
            have : W2.size = wq.size - 1 := by rw [← hW2, popA_size]
            show _ = _
            omega
          have Hokx := hid (hI.out.1.ok.1 wq[0] (by simp))
          rw [hx] at Hokx
          rw [hW2] at hv4
          rw [hx]
          have Hv4 := hid hv4
          have Hrest := hid hI.out.2
          unfold itV
          have hta := taItem
          clear hx hW2 hv4 hI hq0'
          go_wp2_with fail
          obtain ⟨D, hD⟩ : ∃ D, drainA Itm.last oq x.lo = D := ⟨_, rfl⟩
          obtain ⟨bx, hbx⟩ : ∃ bx, w4.heap.size = bx := ⟨_, rfl⟩
          rw [hD] at Hvis
          have hbq : bx ≠ w.heap.size + 1 := by have := Hv4.out.old; have := Hv4.out.big; omega
          refine wp_name (fun W => V2 w B0 B1 I tr W2 oq W ∧ W.heap[bx]? = some (.cells #[.int .u64 x.lo, .int .u64 x.len, .int .i64 x.idx] 110 (0, 0)) ∧ NotO w W bx)
            ⟨Hv4.out.below Hp.out hB (below_new _ _), by subst hbx; exact heap_new _ _, by subst hbx; exact Hv4.out.notO _⟩ ?_
          rintro w5 ⟨hv5, hx5, hn5⟩
          have Hst5 := hid (show V2 w B0 B1 I tr W2 oq w5 ∧ drainA Itm.last oq x.lo = D ∧ w5.heap[bx]? = some (.cells #[.int .u64 x.lo, .int .u64 x.len, .int .i64 x.idx] 110 (0, 0)) ∧ NotO w w5 bx ∧ oq.size ≤ oq.size from ⟨hv5, hD, hx5, hn5, Nat.le_refl _⟩)
          rw [hbx]
          clear hv5 hx5 hn5 hD hbx Hv4
          go_loopw [] (fun wr => ∃ oq', Hid (V2 w B0 B1 I tr W2 oq' wr ∧ drainA Itm.last oq' x.lo = D ∧ wr.heap[bx]? = some (.cells #[.int .u64 x.lo, .int .u64 x.len, .int .i64 x.idx] 110 (0, 0)) ∧ NotO w wr bx ∧ oq'.size ≤ oq.size)) (fun wr => waitN (w.heap.size + 1) wr)
          case atStart => exact ⟨_, Hst5.out⟩
          case round =>
            obtain ⟨oq', hI⟩ := hrel
            obtain ⟨hv, hdr, hxb, hno, hle⟩ := hI.out
            have hmeasO := hid hv.opens
            have hlenO := hid (fun W (hW : Below wr.heap.size wr W) => v2LenO_c (hv.below Hp.out hB hW))
            have hvW := hid (fun W (hW : Below wr.heap.size wr W) => hv.below Hp.out hB hW)
            have x0 : ∀ W, Below wr.heap.size wr W → W.cell? ⟨bx, 0, none⟩ = some (.int .u64 x.lo) := cells_later hxb 0 rfl
            have hxl := lt_of_block hxb
            by_cases ho0 : 0 < oq'.size
            case' pos =>
              have ho0' : (0 : Int) < (oq'.size : Int) := by omega
              obtain ⟨ad, c, q0, hrow, hcap⟩ := hv.openRow
              obtain ⟨b, o, rfl, hb0, g0, g1, g2⟩ := hrow.itm (k := 0) (by simpa using ho0)
              have hoky := hv.ok.2.1 oq'[0] (by simp)
              simp only [Array.getElem_toList, Nat.zero_mul, Nat.add_zero] at g0 g1 g2
              obtain ⟨y, hy⟩ : ∃ y, oq'[0] = y := ⟨_, rfl⟩
              rw [hy] at g0 g1 g2 hoky
              have Hy := hid hy
              have Hoky := hid hoky
              have p0 : ∀ W, Below wr.heap.size wr W → W.cell? ⟨w.heap.size + 1, 0, none⟩ = some (.slice (some ⟨b, o, none⟩) oq'.size c) := fun W hW => cell_below hW q0
              have p1 : ∀ W, Below wr.heap.size wr W → W.cell? ⟨b, o, none⟩ = some (.int .u64 y.lo) := fun W hW => cell_below hW g0
              have p2 : ∀ W, Below wr.heap.size wr W → W.cell? ⟨b, o + 1, none⟩ = some (.int .u64 y.len) := fun W hW => cell_below hW g1
              have Hdr := hid hdr
              have Hno := hid hno
              have Hxb := hid hxb
              have Hv := hid hv
              clear hv hdr hxb hno hy hoky hrow q0 g0 g1 g2 hI
              go_wp2_with fail
              go_region_held3 (fun W => Below wr.heap.size wr W) (first | assumption | exact (Below.refl _ _).drew) (first
                | (go_at_call 66; refine (hlenO.out _ (by first | assumption | exact (Below.refl _ _).drew)).mono ?_; rintro e w6 ⟨rfl, rfl⟩; have hS := show Below wr.heap.size wr _ from (by first | assumption | exact (Below.refl _ _).drew))
                | (go_at_call 52; (with_reducible refine (spanLast_c _ y Hoky.out).mono ?_); rintro e w6 ⟨rfl, hb6⟩; have hS := bthen (w := wr) (by assumption) hb6))
              have hS6 := hid hS
              clear hS hb6 x0 p0 p1 p2 hlenO
              by_cases hlt2 : y.last < x.lo
              case pos =>
                have hd2 : decide (y.last < x.lo) = true := by simpa using hlt2
                rw [hd2]
                have hDR : Hid (drainA Itm.last (popA Itm.last oq') x.lo = D) := by
                  have := Hdr.out
                  rw [drainA, dif_pos ⟨ho0, by rw [kAt_get ho0, Hy.out]; exact hlt2⟩] at this
                  exact this
                clear hlt2 hd2
                go_wp2_with fail
                refine (v2PopO_c Hp.out hB (hvW.out _ hS6.out) ho0 (heap_keep Hxb.out hS6.out) (Hno.out.below (by have := Hv.out.old; have := Hv.out.big; omega) hS6.out) hbq).mono ?_
                rintro e w7 ⟨⟨v, rfl⟩, hv7, hx7, hn7⟩
                have hps : (popA Itm.last oq').size + 1 = oq'.size := by rw [popA_size]; omega
                have Hv7 := hid hv7.opens
                have Hst7 := hid (show V2 w B0 B1 I tr W2 (popA Itm.last oq') w7 ∧ drainA Itm.last (popA Itm.last oq') x.lo = D ∧ w7.heap[bx]? = some (.cells #[.int .u64 x.lo, .int .u64 x.len, .int .i64 x.idx] 110 (0, 0)) ∧ NotO w w7 bx ∧ (popA Itm.last oq').size ≤ oq.size from ⟨hv7, hDR.out, hx7, hn7, by omega⟩)
                clear hv7 hx7 hn7
                go_wp2
                exact ⟨⟨_, Hst7.out⟩, by rw [Hv7.out, hmeasO.out]; omega⟩
              have hd2 : decide (y.last < x.lo) = false := by simpa using hlt2
              rw [hd2]
              have HE := hid (show V2 w B0 B1 I tr W2 D w6 ∧ w6.heap[bx]? = some (.cells #[.int .u64 x.lo, .int .u64 x.len, .int .i64 x.idx] 110 (0, 0)) ∧ D.size ≤ oq.size from by
                have := Hdr.out
                rw [drainA, dif_neg (fun h => hlt2 (by have := h.2; rw [kAt_get ho0, Hy.out] at this; exact this))] at this
                subst this
                exact ⟨hvW.out _ hS6.out, heap_keep Hxb.out hS6.out, hle⟩)
              clear hlt2 hd2 hS6 hvW Hdr Hno Hxb Hv Hy Hoky
              revert HE
              generalize w6 = W6
              intro HE
            case' neg =>
              have HE := hid (show V2 w B0 B1 I tr W2 D wr ∧ wr.heap[bx]? = some (.cells #[.int .u64 x.lo, .int .u64 x.len, .int .i64 x.idx] 110 (0, 0)) ∧ D.size ≤ oq.size from by
                have := hdr
                rw [drainA, dif_neg (fun h => ho0 h.1)] at this
                subst this
                exact ⟨hv, hxb, hle⟩)
              have hdz : decide (0 < oq'.size) = false := decide_eq_false ho0
              clear hv hdr hxb hno hI ho0 hmeasO x0 hvW hle
              go_wp2_with fail
              go_quiet ((go_at_call 66; exact Calls.quiet_of_same (hlenO.out _ ⟨rfl, rfl, rfl, Nat.le_refl _, fun _ _ => rfl⟩)))
              clear hlenO hdz
              have HE2 := hid (show V2 w B0 B1 I tr W2 D (wr.drewN nq) ∧ (wr.drewN nq).heap[bx]? = some (.cells #[.int .u64 x.lo, .int .u64 x.len, .int .i64 x.idx] 110 (0, 0)) ∧ D.size ≤ oq.size from
                ⟨HE.out.1.below Hp.out hB ⟨rfl, rfl, rfl, Nat.le_refl _, fun _ _ => rfl⟩, HE.out.2.1, HE.out.2.2⟩)
              clear HE
              revert HE2
              generalize wr.drewN nq = W6
              intro HE
            all_goals
              clear hta
              try clear hHeld
              obtain ⟨ad, c, q0, hrowD, hcapD⟩ := HE.out.1.openRow'
              obtain ⟨vf, hvf⟩ : ∃ vf, Value.func (.func 63) #[] #[] = vf := ⟨_, rfl⟩
              rw [hvf] at q0
              obtain ⟨bo, hbo⟩ : ∃ bo, w.heap.size + 1 = bo := ⟨_, rfl⟩
              rw [hbo] at q0
              have x0 : ∀ W, ReadX bx bo x (.slice ad D.size c) vf W → W.cell? ⟨bx, 0, none⟩ = some (.int .u64 x.lo) := fun W h => cell_of_heap (i := 0) h.1 rfl
              have x1 : ∀ W, ReadX bx bo x (.slice ad D.size c) vf W → W.cell? ⟨bx, 1, none⟩ = some (.int .u64 x.len) := fun W h => cell_of_heap (i := 1) h.1 rfl
              have x2 : ∀ W, ReadX bx bo x (.slice ad D.size c) vf W → W.cell? ⟨bx, 2, none⟩ = some (.int .i64 x.idx) := fun W h => cell_of_heap (i := 2) h.1 rfl
              have x3 : ∀ W, ReadX bx bo x (.slice ad D.size c) vf W → W.cell? ⟨bo, 0, none⟩ = some (.slice ad D.size c) := fun W h => cell_of_heap (i := 0) h.2 rfl
              have hR0 : ReadX bx bo x (.slice ad D.size c) vf W6 := ⟨HE.out.2.1, q0⟩
              have Hcall := hid (fun W (hW : Below W6.heap.size W6 W) => Hp.out.step tr W x D ad c ⟨_, by rw [← Hvis.out]; exact Hrest.out.1⟩ (HE.out.1.below Hp.out hB hW).inv (Nat.le_trans hB (Nat.le_trans (Nat.le_of_lt (Nat.lt_of_succ_lt HE.out.1.old)) (Nat.le_trans HE.out.1.big hW.size))) Hokx.out HE.out.1.ok.2.1 HE.out.1.ok.2.2 ⟨_, (GrS.below hW fun _ => False).row hrowD fun _ _ h => h⟩)
              clear hrowD q0 hvf
              rw [hbo]
              have henter := Hp.out.enter
              go_wp2_with fail
              go_region_held3 (fun W => ReadX bx bo x (.slice ad D.size c) vf W) (first | assumption | exact hR0)
                ((refine (Hcall.out _ (Below.refl _ _).drew).mono ?_; rintro e w7 ⟨⟨v7, rfl⟩, hI7, hk1, hk2, hb7⟩; have hS7 := ReadX.keptE (W := W6.drew) hR0 hk1 hk2))
              have Hv7 := hid ((HE.out.1.below Hp.out hB (Below.refl _ _).drew).passed hI7 hk1 hk2 hb7)
              have z0 := cell_of_heap (i := 0) hS7.1 rfl
              have z1 := cell_of_heap (i := 1) hS7.1 rfl
              have z2 := cell_of_heap (i := 2) hS7.1 rfl
              have hD1 : Hid ((D.size + 1) * 24 ≤ 140737488351232) := by
                have h1 := HE.out.2.2
                have h2 := Hrest.out.2
                show (D.size + 1) * 24 ≤ 140737488351232
                omega
              have Hpush := hid (v2Push_c Hp.out hB Hv7.out x Hokx.out hD1.out)
              rw [hbo] at Hpush
              unfold itV at Hpush
              have HDle := hid HE.out.2.2
              clear x0 x1 x2 x3 hR0 Hcall henter hI7 hk1 hk2 hb7 hS7 HE hcapD
              go_wp2_with fail
              refine Hpush.out.mono ?_
              rintro e w8 ⟨⟨v8, rfl⟩, hv8⟩
              have HlenO := hid (v2LenO_c hv8)
              rw [hbo] at HlenO
              have Hfix := hid (v2Fix_c Hp.out hB D.size hv8 (by simp))
              rw [hbo] at Hfix
              have hsub : ((D.push x).size : Int) - 1 = (D.size : Int) := by rw [Array.size_push]; omega
              have hDb : D.size ≤ 140737488351232 := by have h1 := hD1.out; omega
              clear hv8 Hpush z0 z1 z2
              go_wp2_with fail
              refine HlenO.out.mono ?_
              rintro e w9 ⟨rfl, rfl⟩
              go_wp2_with fail
              refine Hfix.out.mono ?_
              rintro e w10 ⟨⟨v10, rfl⟩, hv10⟩
              have hpe : upA Itm.last (D.push x) D.size = pushA Itm.last D x := rfl
              have hps : (pushA Itm.last D x).size = D.size + 1 := by rw [pushA, upA_size, Array.size_push]
              rw [hpe] at hv10
              have hst : V2 w B0 B1 I (tr ++ [(x, D)]) W2 (pushA Itm.last D x) w10 ∧ (tr ++ [(x, D)]) ++ visitL Itm.lo Itm.last W2 (pushA Itm.last D x) = T ∧ W2.size + (pushA Itm.last D x).size ≤ l.length := by
                refine ⟨hv10, ?_, ?_⟩
                · rw [List.append_assoc, List.singleton_append, ← Hvis.out]; exact Hrest.out.1
                · have h1 := Hsz2.out
                  have h2 := Hrest.out.2
                  have h3 := HDle.out
                  omega
              have Hst := hid hst
              have Hw := hid hv10.waits
              have Hs2 := Hsz2.out
              clear hst hv10 hpe hps
              subst hbo
              go_wp2
              exact ⟨⟨_, _, _, Hst.out⟩, by rw [Hw.out, hmeas.out]; omega⟩
        · have hz : ¬ (0 : Int) < (wq.size : Int) := by omega
          have hfin : Hid (I T wr ∧ Below B0 w wr) := by
            obtain ⟨h1, h2, -⟩ := hI.out
            rw [visitL, dif_neg hq0, List.append_nil] at h2
            subst h2
            exact ⟨h1.inv, h1.bel⟩
          go_wp2_with fail
          refine (v2LenW_c hI.out.1).mono ?_
          rintro e w' ⟨rfl, rfl⟩
          go_wp2_with fail
          go_end0
          exact ⟨⟨_, rfl⟩, hfin.out⟩
end Go.Proofs.Ytmoignbaphddeaa
namespace Go.Proofs.Ytmoignbaphddeaa
open Go.RowKit

/-- the trace of a visit -/
def visitT (l : List Spn) : List (Itm × Array Itm) := visitL Itm.lo Itm.last (initA Itm.lo (itsA l) (l.length / 2)) #[]
/-- two spans meet -/
def Over (a b : Spn) : Prop := a.lo ≤ b.lo + b.len - 1 ∧ b.lo ≤ a.lo + a.len - 1

theorem visitT_visits {l : List Spn} (hok : ∀ s ∈ l, s.ok) : Visits Itm.lo Itm.last 0 [] (itsA l).toList (visitT l) := by
  have hperm : (initA Itm.lo (itsA l) (l.length / 2)).toList.Perm (itsA l).toList := (initA_perm _ _).toList
  have hheap : HeapN Itm.lo (initA Itm.lo (itsA l) (l.length / 2)) 0 (initA Itm.lo (itsA l) (l.length / 2)).size := by
    have := init_heap (key := Itm.lo) (itsA l)
    rw [initA_size, itsA_size] at *
    exact this
  have h := visitL_spec Itm.lo Itm.last (initA Itm.lo (itsA l) (l.length / 2)) #[] 0 [] hheap (fun k h0 hk => by simp at hk) (fun y hy => by
    have := itsA_ok hok y (hperm.mem_iff.1 hy)
    obtain ⟨h0, h1, h2⟩ := this
    unfold Itm.last
    omega) (by simp)
  exact ⟨h.perm.trans hperm, h.asc, h.open_⟩

theorem visitT_mem {l : List Spn} (hok : ∀ s ∈ l, s.ok) {x : Itm} {o : Array Itm} (h : (x, o) ∈ visitT l) : x ∈ (itsA l).toList ∧ (∀ y ∈ o.toList, y ∈ (itsA l).toList) ∧ o.size ≤ l.length := by
  have hv := visitT_visits hok
  obtain ⟨t, ht, he⟩ := List.getElem_of_mem h
  have h1 : x ∈ (itsA l).toList := hv.perm.mem_iff.1 (List.mem_map.2 ⟨_, h, rfl⟩)
  have h2 := hv.open_ t ht
  rw [he, List.append_nil] at h2
  have hlen : (visitT l).length = l.length := by
    have := hv.perm.length_eq
    simpa [itsA_size] using this
  refine ⟨h1, fun y hy => ?_, ?_⟩
  · have h3 := h2.mem_iff.1 hy
    rw [List.mem_filter, List.mem_reverse, List.mem_map] at h3
    obtain ⟨⟨e, he', rfl⟩, -⟩ := h3
    exact hv.perm.mem_iff.1 (List.mem_map.2 ⟨e, List.mem_of_mem_take he', rfl⟩)
  · have h3 := h2.length_eq
    have h4 : ((((visitT l).take t).map Prod.fst).reverse.filter fun y => decide (x.lo ≤ y.last)).length ≤ t := by
      refine Nat.le_trans (List.length_filter_le _ _) ?_
      simp [List.length_take]
      omega
    simp only [Array.length_toList] at h3
    omega

/-- what is noted, in the numbers of the program -/
def notesOf (x : Itm) (o : List Itm) : List (Int × Int) := o.map fun y => (min x.idx y.idx, max x.idx y.idx)
def pairsI (tr : List (Itm × Array Itm)) : List (Int × Int) := tr.flatMap fun e => notesOf e.1 e.2.toList
theorem pairsI_snoc (tr : List (Itm × Array Itm)) (x : Itm) (o : Array Itm) : pairsI (tr ++ [(x, o)]) = pairsI tr ++ notesOf x o.toList := by simp [pairsI]

theorem pairsI_len {l : List Spn} (hok : ∀ s ∈ l, s.ok) {tr rest : List (Itm × Array Itm)} (h : tr ++ rest = visitT l) : (pairsI tr).length ≤ l.length * l.length := by
  have hv := visitT_visits hok
  have hlen : (visitT l).length = l.length := by
    have := hv.perm.length_eq
    simpa [itsA_size] using this
  have h1 : ∀ r : List (Itm × Array Itm), (∀ e ∈ r, e ∈ visitT l) → (pairsI r).length ≤ r.length * l.length := by
    intro r
    induction r with
    | nil => intro _; simp [pairsI]
    | cons e r ih =>
      intro hr
      have h2 := ih (fun e' he' => hr e' (List.mem_cons_of_mem _ he'))
      have h3 := (visitT_mem hok (x := e.1) (o := e.2) (hr e (by simp))).2.2
      have h4 : (pairsI (e :: r)).length = e.2.size + (pairsI r).length := by simp [pairsI, notesOf]
      rw [h4, List.length_cons, Nat.add_mul]
      omega
  have h2 := h1 tr (fun e he => by rw [← h]; exact List.mem_append_left _ he)
  have h3 : tr.length ≤ l.length := by rw [← hlen, ← h, List.length_append]; omega
  exact Nat.le_trans h2 (Nat.mul_le_mul_right _ h3)

theorem pairsI_mem {l : List Spn} (hok : ∀ s ∈ l, s.ok) (p : Int × Int) :
    p ∈ pairsI (visitT l) ↔ ∃ (i j : Nat) (hij : i < j) (hj : j < l.length), Over (l[i]'(by omega)) l[j] ∧ p = ((i : Int), (j : Int)) := by
  have hv := visitT_visits hok
  have hidx : ∀ x ∈ (itsA l).toList, ∃ (i : Nat) (h : i < l.length), x = ⟨l[i].lo, l[i].len, i⟩ := by
    intro x hx
    obtain ⟨i, s, hs, rfl⟩ := itemsL_mem (show x ∈ itemsL 0 l from hx)
    obtain ⟨hi, rfl⟩ := List.getElem?_eq_some_iff.1 hs
    exact ⟨i, hi, by simp⟩
  have hnd : ((itsA l).toList.map fun x => x.idx.toNat).Nodup := by
    have : ((itsA l).toList.map fun x => x.idx.toNat) = List.range l.length := by
      apply List.ext_getElem?
      intro k
      show ((itemsL 0 l).map fun x => x.idx.toNat)[k]? = _
      rw [List.getElem?_map, itemsL_get]
      by_cases hk : k < l.length
      · rw [List.getElem?_eq_getElem hk, List.getElem?_range hk]
        simp
      · rw [List.getElem?_eq_none (by omega), List.getElem?_eq_none (by simp; omega)]
        rfl
    rw [this]
    exact List.nodup_range
  have hmem := pairs_mem hv (fun y hy => by
    obtain ⟨h0, h1, h2, h3⟩ := itsA_ok hok y hy
    unfold Itm.last; omega) hnd
  have hcast : pairsI (visitT l) = (pairsOf (fun x => x.idx.toNat) (visitT l)).map fun q => ((q.1 : Int), (q.2 : Int)) := by
    unfold pairsI pairsOf notesOf
    rw [List.map_flatMap]
    have : ∀ e ∈ visitT l, (e.2.toList.map fun y => (min e.1.idx y.idx, max e.1.idx y.idx)) = (e.2.toList.map fun y => (min e.1.idx.toNat y.idx.toNat, max e.1.idx.toNat y.idx.toNat)).map fun q => ((q.1 : Int), (q.2 : Int)) := by
      intro e he
      obtain ⟨hx, hy, -⟩ := visitT_mem hok (x := e.1) (o := e.2) he
      rw [List.map_map]
      refine List.map_congr_left fun y hyy => ?_
      obtain ⟨i, hi, hxe⟩ := hidx _ hx
      obtain ⟨j, hj, hye⟩ := hidx _ (hy y hyy)
      rw [hxe, hye]
      simp only [Function.comp, Int.toNat_natCast, Prod.mk.injEq]
      omega
    rw [List.flatMap_def, List.flatMap_def, List.map_congr_left this]
  rw [hcast, List.mem_map]
  constructor
  · rintro ⟨q, hq, rfl⟩
    obtain ⟨x, hx, y, hy, hxy, h1, h2, rfl⟩ := (hmem q).1 hq
    obtain ⟨i, hi, rfl⟩ := hidx x hx
    obtain ⟨j, hj, rfl⟩ := hidx y hy
    simp only [Int.toNat_natCast] at hxy
    exact ⟨i, j, hxy, hj, ⟨h1, h2⟩, by simp⟩
  · rintro ⟨i, j, hij, hj, ⟨h1, h2⟩, rfl⟩
    have hin : ∀ (k : Nat) (hk : k < l.length), (⟨l[k].lo, l[k].len, k⟩ : Itm) ∈ (itsA l).toList := by
      intro k hk
      have : (itemsL 0 l)[k]? = some ⟨l[k].lo, l[k].len, k⟩ := by rw [itemsL_get, List.getElem?_eq_getElem hk]; simp
      exact List.mem_of_getElem? this
    refine ⟨(i, j), (hmem _).2 ⟨_, hin i (by omega), _, hin j hj, by simpa using hij, h1, h2, by simp⟩, rfl⟩
end Go.Proofs.Ytmoignbaphddeaa
namespace Go.Proofs.Ytmoignbaphddeaa
open Go.RowKit

def encP (p : Int × Int) : List Value := [.int .i64 p.1, .int .i64 p.2]
theorem info_pair : (Try.prog.info? 105).map (fun i => (i.zero, i.size, i.bytes)) = some (some (.agg #[.int .i64 0, .int .i64 0]), 2, 16) := by kernel_rfl

/-- the pairs noted so far -/
structure POut (base ob : Nat) (xs : List (Int × Int)) (W : World) (s : Value) : Prop where
  box : W.heap[ob]? = some (.cells #[s] 103 (0, 0))
  own : W.ownsRow base 105 2 s xs.length (xs.flatMap encP)
theorem own_qstep {W W' : World} {base size n : Nat} {e : TypeId} {s : Value} {xs : List Value} (hq : QStep W W') (h : W.ownsRow base e size s n xs) (h1 : e ≠ 110) (h2 : e ≠ 129) : W'.ownsRow base e size s n xs := by
  refine ⟨h.1, ?_⟩
  rcases h.2 with hv | ⟨g, cap, cur, rfl, hb, hgg, rest⟩
  · exact .inl hv
  · exact .inr ⟨g, cap, cur, rfl, hb, hq.keep _ _ _ _ hgg h1 h2, rest⟩
theorem POut.qstep {W W' : World} {base ob : Nat} {xs : List (Int × Int)} {s : Value} (h : POut base ob xs W s) (hq : QStep W W') : POut base ob xs W' s :=
  ⟨hq.keep _ _ _ _ h.box (by decide) (by decide), own_qstep hq h.own (by decide) (by decide)⟩
theorem POut.below {W W' : World} {base ob : Nat} {xs : List (Int × Int)} {s : Value} (h : POut base ob xs W s) (hb : Below W.heap.size W W') : POut base ob xs W' s := h.qstep (QStep.below hb)
/-- behind an append and the store of the row -/
theorem POut.pushed {W W' : World} {base ob : Nat} {xs : List (Int × Int)} {s s' : Value} {p : Int × Int} (h : POut base ob xs W s) (ho : W'.ownsRow base 105 2 s' (xs.length + 1) (xs.flatMap encP ++ encP p)) (hg : W.grownBy W' s.ownBlock) :
    POut base ob (xs ++ [p]) (W'.setCell ⟨ob, 0, none⟩ s') s' ∧ GrS (fun k => some k = s.ownBlock ∨ k = ob) W (W'.setCell ⟨ob, 0, none⟩ s') := by
  have hbox : W'.heap[ob]? = some (.cells #[s] 103 (0, 0)) := KeptE.grown (e := 103) h.own hg (by decide) _ _ _ h.box
  have hne : ∀ k, s'.ownBlock = some k → k ≠ ob := by
    rintro k hk rfl
    rcases ho.2 with ⟨rfl, _⟩ | ⟨g', cap', cur, rfl, _, hgg, _⟩
    · cases hk
    · simp only [Value.ownBlock, Option.some.injEq] at hk
      subst hk
      rw [hbox] at hgg
      simp only [Option.some.injEq, Obj.cells.injEq] at hgg
      exact absurd hgg.2.1 (by decide)
  have hset := GrS.set (S := fun k => k = ob) W' ob 0 s' rfl
  refine ⟨⟨?_, ?_⟩, (GrS.grown hg fun k hk => .inl hk.symm).trans (hset.mono fun k hk => .inr hk)⟩
  · have := heap_setCell_same W' ob 0 _ 103 s' hbox
    simpa using this
  · have h2 := hset.row ho hne
    rw [List.length_append, List.flatMap_append]
    simpa using h2
theorem POut.kept {W W' : World} {base ob : Nat} {xs : List (Int × Int)} {s : Value} (h : POut base ob xs W s) (hg : GrS (fun k => some k = s.ownBlock ∨ k = ob) W W') {e : TypeId} (h1 : e ≠ 105) (h2 : e ≠ 103) : KeptE e W W' := by
  intro g cur f hh
  refine hg.heap hh ?_
  rintro (hk | rfl)
  · rcases h.own.2 with ⟨rfl, _⟩ | ⟨g', cap', cur', rfl, _, hgg, _⟩
    · cases hk
    · simp only [Value.ownBlock, Option.some.injEq] at hk
      subst hk
      rw [hh] at hgg
      simp only [Option.some.injEq, Obj.cells.injEq] at hgg
      exact h1 hgg.2.1
  · rw [h.box] at hh
    simp only [Option.some.injEq, Obj.cells.injEq] at hh
    exact h2 hh.2.1.symm
theorem POut.blw {W W' : World} {B base ob : Nat} {xs : List (Int × Int)} {s : Value} (h : POut base ob xs W s) (hg : GrS (fun k => some k = s.ownBlock ∨ k = ob) W W') (hb : B ≤ base) (hq : B ≤ ob) (hB : B ≤ W.heap.size) : Below B W W' := by
  refine hg.toBelow (fun k hk => ?_) hB
  rcases hk with hk | rfl
  · exact Nat.le_trans hb (h.own.lt k hk.symm).1
  · exact hq

/-- the state of its loop -/
structure P1 (B0 base ob : Nat) (W1 : World) (xb : Nat) (x : Itm) (ad : Option Addr) (cap : Nat) (o : List Itm) (xs : List (Int × Int)) (s : Value) (W : World) : Prop where
  out : POut base ob xs W s
  xbox : W.heap[xb]? = some (.cells #[.int .u64 x.lo, .int .u64 x.len, .int .i64 x.idx] 110 (0, 0))
  row : ∃ b', W.ownsRow b' 110 3 (.slice ad o.length cap) o.length (o.flatMap encItm)
  ki : KeptE 110 W1 W
  kq : KeptE 129 W1 W
  bel : Below B0 W1 W
  big : W1.heap.size ≤ W.heap.size
theorem P1.below {B0 base ob : Nat} {W1 W W' : World} {xb : Nat} {x : Itm} {ad : Option Addr} {cap : Nat} {o : List Itm} {xs : List (Int × Int)} {s : Value} (h : P1 B0 base ob W1 xb x ad cap o xs s W) (hB : B0 ≤ W1.heap.size) (hb : Below W.heap.size W W') : P1 B0 base ob W1 xb x ad cap o xs s W' := by
  obtain ⟨b', hr⟩ := h.row
  exact ⟨h.out.below hb, heap_keep h.xbox hb, ⟨b', own_kept hr (KeptE.below hb)⟩, h.ki.trans (KeptE.below hb), h.kq.trans (KeptE.below hb), h.bel.trans (hb.mono (Nat.le_trans hB h.big)), Nat.le_trans h.big hb.size⟩
theorem P1.pushed {B0 base ob : Nat} {W1 W W' : World} {xb : Nat} {x : Itm} {ad : Option Addr} {cap : Nat} {o : List Itm} {xs : List (Int × Int)} {s s' : Value} {p : Int × Int} (h : P1 B0 base ob W1 xb x ad cap o xs s W) (hB : B0 ≤ W1.heap.size) (hb : B0 ≤ base) (hob : B0 ≤ ob)
    (ho : W'.ownsRow base 105 2 s' (xs.length + 1) (xs.flatMap encP ++ encP p)) (hg : W.grownBy W' s.ownBlock) : P1 B0 base ob W1 xb x ad cap o (xs ++ [p]) s' (W'.setCell ⟨ob, 0, none⟩ s') := by
  obtain ⟨h1, h2⟩ := h.out.pushed ho hg
  obtain ⟨b', hr⟩ := h.row
  have k1 : KeptE 110 W (W'.setCell ⟨ob, 0, none⟩ s') := h.out.kept h2 (by decide) (by decide)
  have k2 : KeptE 129 W (W'.setCell ⟨ob, 0, none⟩ s') := h.out.kept h2 (by decide) (by decide)
  exact ⟨h1, k1 _ _ _ h.xbox, ⟨b', own_kept hr k1⟩, h.ki.trans k1, h.kq.trans k2, h.bel.trans (h.out.blw h2 hb hob (Nat.le_trans hB h.big)), Nat.le_trans h.big h2.size⟩

set_option maxHeartbeats 4000000 in
set_option maxRecDepth 20000 in
theorem pairs1_c (w : World) (B0 base ob : Nat) (x : Itm) (ad : Option Addr) (cap : Nat) (o : List Itm) (xs : List (Int × Int)) (s : Value) (h : POut base ob xs w s) (hb : B0 ≤ base) (hbw : base ≤ w.heap.size) (hob : B0 ≤ ob) (hn : (xs.length + o.length) * 16 ≤ 140737488355328)
    (hrow : ∃ b', w.ownsRow b' 110 3 (.slice ad o.length cap) o.length (o.flatMap encItm)) :
    Calls Try.prog 57 #[itV x, .slice ad o.length cap, .pointer (some ⟨ob, 0, none⟩)] w fun e w' => (∃ v, e = .returned v) ∧ (∃ s', POut base ob (xs ++ notesOf x o) w' s') ∧ KeptE 110 w w' ∧ KeptE 129 w w' ∧ Below B0 w w' := by
  unfold itV
  obtain ⟨b', hrow⟩ := hrow
  have hw0 : B0 ≤ w.heap.size := Nat.le_trans hb hbw
  have H := hid h
  have Hrow := hid hrow
  clear h hrow
  go_enter Try.func57, Try.ntmps57
  go_wp2_with fail
  obtain ⟨xb, hxb⟩ : ∃ xb, w.heap.size = xb := ⟨_, rfl⟩
  refine wp_name (fun W => P1 B0 base ob w xb x ad cap o xs s W)
    ⟨H.out.below (below_new _ _), by subst hxb; exact heap_new _ _, ⟨b', own_kept Hrow.out (KeptE.below (below_new _ _))⟩, KeptE.below (below_new _ _), KeptE.below (below_new _ _), (below_new _ _).mono hw0, by simp⟩ ?_
  intro w1 h1
  have H1 := hid h1
  rw [hxb]
  clear h1 hxb H
  go_loopw [9] (fun i wr => ∃ k : Nat, k ≤ o.length ∧ i = .int .i64 k ∧ Hid (∃ s', P1 B0 base ob w xb x ad cap o (xs ++ notesOf x (o.take k)) s' wr)) (fun i _ => o.length - (intOf i).toNat)
  case atStart => exact ⟨0, Nat.zero_le _, rfl, s, by simpa [notesOf] using H1.out⟩
  case round =>
    obtain ⟨k, hkn, rfl, hI⟩ := hrel
    by_cases hlt : k < o.length
    · obtain ⟨s1, hp⟩ := hI.out
      obtain ⟨b1, hr1⟩ := hp.row
      obtain ⟨b, of, rfl, hb0, g0, g1, g2⟩ := (own_row hr1 (fun _ _ => rfl) rfl).itm hlt
      obtain ⟨y, hy⟩ : ∃ y, o[k] = y := ⟨_, rfl⟩
      have Hy := hid hy
      rw [hy] at g0 g1 g2
      have x2 := cell_of_heap (i := 2) hp.xbox rfl
      have xl := lt_of_block hp.xbox
      have o0 := cell_of_heap (i := 0) hp.out.box rfl
      have ol := lt_of_block hp.out.box
      have hwr := hp.big
      have hnl : (notesOf x (o.take k)).length = k := by simp [notesOf]; omega
      have Hp := hid (hp.below hw0 (below_new wr (.cells #[.int .u64 y.lo, .int .u64 y.len, .int .i64 y.idx] 110)))
      clear hp hI hr1 hy
      go_wp2_with (at_builtin; refine stop ?_)
      refine go_on ?_
      refine wp_append_lit rfl _ _ 103 105 rfl (z := .agg #[.int .i64 0, .int .i64 0]) (size := 2) (bytes := 16) Try.underlying103 info_pair rfl (by decide) (wr.alloc (.cells #[.int .u64 y.lo, .int .u64 y.len, .int .i64 y.idx] 110)) base _ (xs ++ notesOf x (o.take k)).length _ (encP (min x.idx y.idx, max x.idx y.idx)) 1 rfl (by rw [World.size_alloc]; rfl) (by exact Hp.out.out.own) rfl (by simp [encP, Value.oneCell']) ?_ ?_ ?_ ?_
      · rw [List.length_append, hnl]; omega
      · rw [List.length_append, hnl]; omega
      · exact Nat.le_trans hbw (by rw [World.size_alloc]; exact Nat.le_succ_of_le hwr)
      intro v' w' hown' hg _
      obtain ⟨ad', c', rfl, _⟩ := own_slice hown'
      have hbx : w'.heap[ob]? = some (.cells #[s1] 103 (0, 0)) := KeptE.grown (e := 103) Hp.out.out.own hg (by decide) _ _ _ Hp.out.out.box
      have r0 := cell_of_heap (i := 0) hbx rfl
      have r1 := free_of_heap (i := 0) hbx
      have e : (xs ++ notesOf x (o.take k)) ++ [(min x.idx y.idx, max x.idx y.idx)] = xs ++ notesOf x (o.take (k + 1)) := by
        rw [List.append_assoc, List.take_add_one, List.getElem?_eq_getElem hlt, Hy.out]; simp [notesOf]
      have hfin := Hp.out.pushed (p := (min x.idx y.idx, max x.idx y.idx)) hw0 hb hob hown' hg
      rw [e] at hfin
      obtain ⟨q, hq⟩ : ∃ q, (xs ++ notesOf x (o.take k)).length + 1 = q := ⟨_, rfl⟩
      rw [hq] at hfin ⊢
      have hnext := hid hfin
      clear e hq
      clear hown' hg hbx hfin x2 xl o0 ol hnl
      go_wp2
      exact ⟨⟨k + 1, by omega, by go_num, _, hnext.out⟩, by simp [intOf]; omega⟩
    · have hke : k = o.length := by omega
      subst hke
      rw [List.take_length] at hI
      have hfin : Hid ((∃ s', POut base ob (xs ++ notesOf x o) wr s') ∧ KeptE 110 w wr ∧ KeptE 129 w wr ∧ Below B0 w wr) := by
        obtain ⟨s', h⟩ := hI.out
        exact ⟨⟨s', h.out⟩, h.ki, h.kq, h.bel⟩
      clear hI
      go_wp2
      go_end0
      exact ⟨⟨_, rfl⟩, hfin.out⟩
end Go.Proofs.Ytmoignbaphddeaa
