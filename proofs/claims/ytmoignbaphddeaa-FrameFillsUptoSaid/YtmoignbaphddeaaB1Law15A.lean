/-
  The records of a configuration as plain Lean data, and how they lie in the cells of a world. No program in sight.
  The periods of a partition that are visited, and what they tell of all periods. Plain Lean, no program in sight.
  laws of append in the form that these texts use
  small laws: stores into a block of the call's own; a result that lies in memory
  what a block holds in every later world
  the reference's spans (layers 14, 15)
  Maps from keys to values of one cell, as lists of pairs. A key's type is known by three facts: how a key is found among entries, that it can be checked, and that a stored key stays.
  What is asked of keys: the first place of a key, and the first key that occurs before. Plain Lean.
  the reference's look-ups (fenestraref13)
  a range over an iterator that keeps cells of its own: the caller's invariant abides whatever happens to blocks laid since the iterator began
  ranges over functions: what a round keeps
-/
import Derived.WalkKit
import Derived.Deep.Draws
import Derived.Test.YtmoignbaphddeaaChecked
import Derived.Deep.RegionHeld3
import Derived.Laws.StructEq
import Derived.RangeFuncNested
import Derived.RangeFuncBound
import Derived.RangeFuncCalls
import Derived.RangeFuncLeaves
import Derived.RangeFuncFrom
import Derived.Shelf.Abstract
import Derived.Shelf.RegionOpen
import Derived.OwnWalkIn
import Derived.TacticsInMore
import Derived.LoopNIn
import Derived.LoopIn
import Derived.KernelRfl
set_option linter.unusedVariables false
namespace Go.Proofs.Ytmoignbaphddeaa
open Go.RowKit

/-- kept from the walk's rules -/
theorem hid {p : Prop} (h : p) : Hid p := h

/-- where the walk is to stand still -/
def Stop (p : Prop) : Prop := p
theorem stop {p : Prop} (h : Stop p) : p := h
theorem go_on {p : Prop} (h : p) : Stop p := h

theorem ret_int {k : IntKind} {a b : Int} (h : a = b) : Ending.returned (.int k a) = .returned (.int k b) := by rw [h]
theorem ret_bool {a b : Bool} (h : a = b) : Ending.returned (.bool a) = .returned (.bool b) := by rw [h]

structure Part where
  id : Int
  name : ByteArray
  period : Int
  dur : Int
structure Win where
  start : Int
  len : Int
  part : Int
structure Reg where
  base : Int
  size : Int
  part : Int
  rights : Int
  shared : Bool
structure Prt where
  id : Int
  part : Int
  name : ByteArray
  output : Bool
  queuing : Bool
  size : Int
structure Chn where
  id : Int
  src : Int
  dests : List Int
structure Cfg where
  frame : Int
  parts : List Part
  wins : List Win
  regs : List Reg
  ports : List Prt
  chans : List Chn

def U8 (x : Int) : Prop := 0 ≤ x ∧ x ≤ 255
def U16 (x : Int) : Prop := 0 ≤ x ∧ x ≤ 65535
def U32 (x : Int) : Prop := 0 ≤ x ∧ x ≤ 4294967295
def U64 (x : Int) : Prop := 0 ≤ x ∧ x ≤ 18446744073709551615

def Part.ok (p : Part) : Prop := U16 p.id ∧ p.name.size ≤ 9223372036854775807 ∧ U64 p.period ∧ U64 p.dur
def Win.ok (p : Win) : Prop := U64 p.start ∧ U64 p.len ∧ U16 p.part
def Reg.ok (p : Reg) : Prop := U64 p.base ∧ U64 p.size ∧ U16 p.part ∧ U8 p.rights
def Prt.ok (p : Prt) : Prop := U16 p.id ∧ U16 p.part ∧ p.name.size ≤ 9223372036854775807 ∧ U32 p.size
def Chn.ok (p : Chn) : Prop := U16 p.id ∧ U16 p.src ∧ (∀ d ∈ p.dests, U16 d) ∧ p.dests.length ≤ 9223372036854775807

def encPart (p : Part) : List Value := [.int .u16 p.id, .string p.name, .int .u64 p.period, .int .u64 p.dur]
def encWin (p : Win) : List Value := [.int .u64 p.start, .int .u64 p.len, .int .u16 p.part]
def encReg (p : Reg) : List Value := [.int .u64 p.base, .int .u64 p.size, .int .u16 p.part, .int .u8 p.rights, .bool p.shared]
def encPrt (p : Prt) : List Value := [.int .u16 p.id, .int .u16 p.part, .string p.name, .bool p.output, .bool p.queuing, .int .u32 p.size]

/-- these values lie in the cells from o on -/
def CellsAt (w : World) (b o : Nat) (cs : List Value) : Prop := ∀ j u, cs[j]? = some u → w.cell? ⟨b, o + j, none⟩ = some u

theorem CellsAt.below {w w' : World} {b o : Nat} {cs : List Value} (h : CellsAt w b o cs) (hb : Below w.heap.size w w') : CellsAt w' b o cs := by
  intro j u hj
  have := h j u hj
  rw [hb.cell (World.block_lt_of_cell? w _ this)]
  exact this

theorem CellsAt.lt {w : World} {b o : Nat} {cs : List Value} (h : CellsAt w b o cs) (hne : cs ≠ []) : b < w.heap.size := by
  cases cs with
  | nil => exact absurd rfl hne
  | cons c r => exact World.block_lt_of_cell? w _ (h 0 c rfl)

/-- a row of records, each of sz cells -/
def RowAt {α : Type} (sz : Nat) (enc : α → List Value) (w : World) (a : Option Addr) (l : List α) : Prop :=
  ∀ k x, l[k]? = some x → ∃ b o, a = some ⟨b, o, none⟩ ∧ CellsAt w b (o + k * sz) (enc x)

theorem RowAt.below {α : Type} {sz : Nat} {enc : α → List Value} {w w' : World} {a : Option Addr} {l : List α} (h : RowAt sz enc w a l) (hb : Below w.heap.size w w') : RowAt sz enc w' a l := by
  intro k x hx
  obtain ⟨b, o, ha, hc⟩ := h k x hx
  exact ⟨b, o, ha, hc.below hb⟩

theorem CellsAt.grown {w w' : World} {b o r : Nat} {cs : List Value} (h : CellsAt w b o cs) (hg : w.grownBy w' (some r)) (hr : w.shape? r = none) : CellsAt w' b o cs := by
  intro j u hj
  have hc := h j u hj
  have hlt := World.block_lt_of_cell? w _ hc
  have hne : b ≠ r := by
    rintro rfl
    unfold World.cell? at hc
    unfold World.shape? at hr
    simp only at hc
    split at hc
    · rename_i e; simp [e] at hr
    · cases hc
  have : w'.cell? ⟨b, o + j, none⟩ = w.cell? ⟨b, o + j, none⟩ := World.cell?_of_block (hg.block b hlt (by simp [hne]))
  rw [this]; exact hc
theorem RowAt.grown {α : Type} {sz : Nat} {enc : α → List Value} {w w' : World} {r : Nat} {a : Option Addr} {l : List α} (h : RowAt sz enc w a l) (hg : w.grownBy w' (some r)) (hr : w.shape? r = none) : RowAt sz enc w' a l := by
  intro k x hx
  obtain ⟨b, o, ha, hc⟩ := h k x hx
  exact ⟨b, o, ha, hc.grown hg hr⟩
theorem RowAt.nil {α : Type} (sz : Nat) (enc : α → List Value) (w : World) (a : Option Addr) : RowAt sz enc w a [] := by
  intro k x hx
  simp at hx

/-- channels: the destinations lie elsewhere -/
def ChnAt (w : World) (a : Option Addr) (l : List Chn) : Prop :=
  ∀ k x, l[k]? = some x → ∃ b o d c, a = some ⟨b, o, none⟩ ∧ CellsAt w b (o + k * 3) [.int .u16 x.id, .int .u16 x.src, .slice d x.dests.length c] ∧
    x.dests.length ≤ c ∧ RowAt 1 (fun n => [.int .u16 n]) w d x.dests

theorem ChnAt.below {w w' : World} {a : Option Addr} {l : List Chn} (h : ChnAt w a l) (hb : Below w.heap.size w w') : ChnAt w' a l := by
  intro k x hx
  obtain ⟨b, o, d, c, ha, hc, hd, hr⟩ := h k x hx
  exact ⟨b, o, d, c, ha, hc.below hb, hd, hr.below hb⟩

theorem ChnAt.grown {w w' : World} {r : Nat} {a : Option Addr} {l : List Chn} (h : ChnAt w a l) (hg : w.grownBy w' (some r)) (hr : w.shape? r = none) : ChnAt w' a l := by
  intro k x hx
  obtain ⟨b, o, d, c, ha, hc, hd, hrow⟩ := h k x hx
  exact ⟨b, o, d, c, ha, hc.grown hg hr, hd, hrow.grown hg hr⟩

/-- where the sections of a configuration lie -/
structure Adr where
  a1 : Option Addr
  k1 : Nat
  a2 : Option Addr
  k2 : Nat
  a3 : Option Addr
  k3 : Nat
  a4 : Option Addr
  k4 : Nat
  a5 : Option Addr
  k5 : Nat

def cfgCells (c : Cfg) (A : Adr) : Array Value :=
  #[.int .u64 c.frame, .slice A.a1 c.parts.length A.k1, .slice A.a2 c.wins.length A.k2, .slice A.a3 c.regs.length A.k3, .slice A.a4 c.ports.length A.k4, .slice A.a5 c.chans.length A.k5]
def cfgVal (c : Cfg) (A : Adr) : Value := .agg (cfgCells c A)

/-- the numbers of a configuration are in their ranges, and no section is larger than memory -/
structure Cfg.ok (c : Cfg) : Prop where
  frame : U64 c.frame
  parts : ∀ p ∈ c.parts, p.ok
  wins : ∀ p ∈ c.wins, p.ok
  regs : ∀ p ∈ c.regs, p.ok
  ports : ∀ p ∈ c.ports, p.ok
  chans : ∀ p ∈ c.chans, p.ok
  nparts : c.parts.length * 40 ≤ 140737488351232
  nwins : c.wins.length * 24 ≤ 140737488351232
  nregs : c.regs.length * 24 ≤ 140737488351232
  nports : c.ports.length * 32 ≤ 140737488351232
  nchans : c.chans.length * 32 ≤ 140737488351232

structure CfgAt (w : World) (c : Cfg) (A : Adr) : Prop where
  ok : c.ok
  parts : RowAt 4 encPart w A.a1 c.parts
  wins : RowAt 3 encWin w A.a2 c.wins
  regs : RowAt 5 encReg w A.a3 c.regs
  ports : RowAt 6 encPrt w A.a4 c.ports
  chans : ChnAt w A.a5 c.chans
  k1 : c.parts.length ≤ A.k1
  k2 : c.wins.length ≤ A.k2
  k3 : c.regs.length ≤ A.k3
  k4 : c.ports.length ≤ A.k4
  k5 : c.chans.length ≤ A.k5

theorem CfgAt.below {w w' : World} {c : Cfg} {A : Adr} (h : CfgAt w c A) (hb : Below w.heap.size w w') : CfgAt w' c A :=
  ⟨h.ok, h.parts.below hb, h.wins.below hb, h.regs.below hb, h.ports.below hb, h.chans.below hb, h.k1, h.k2, h.k3, h.k4, h.k5⟩

theorem CfgAt.drew {w : World} {c : Cfg} {A : Adr} (h : CfgAt w c A) : CfgAt w.drew c A := h.below (Below.refl _ _).drew

/-! ### what one record's cells read as -/
theorem RowAt.part {w : World} {a : Option Addr} {l : List Part} (h : RowAt 4 encPart w a l) {k : Nat} (hk : k < l.length) : ∃ b o, a = some ⟨b, o, none⟩ ∧ b < w.heap.size ∧
    w.cell? ⟨b, o + k * 4, none⟩ = some (.int .u16 l[k].id) ∧ w.cell? ⟨b, o + k * 4 + 1, none⟩ = some (.string l[k].name) ∧
    w.cell? ⟨b, o + k * 4 + 2, none⟩ = some (.int .u64 l[k].period) ∧ w.cell? ⟨b, o + k * 4 + 3, none⟩ = some (.int .u64 l[k].dur) := by
  obtain ⟨b, o, ha, hc⟩ := h k l[k] (List.getElem?_eq_getElem hk)
  exact ⟨b, o, ha, hc.lt (by simp [encPart]), hc 0 _ rfl, hc 1 _ rfl, hc 2 _ rfl, hc 3 _ rfl⟩
theorem RowAt.win {w : World} {a : Option Addr} {l : List Win} (h : RowAt 3 encWin w a l) {k : Nat} (hk : k < l.length) : ∃ b o, a = some ⟨b, o, none⟩ ∧ b < w.heap.size ∧
    w.cell? ⟨b, o + k * 3, none⟩ = some (.int .u64 l[k].start) ∧ w.cell? ⟨b, o + k * 3 + 1, none⟩ = some (.int .u64 l[k].len) ∧
    w.cell? ⟨b, o + k * 3 + 2, none⟩ = some (.int .u16 l[k].part) := by
  obtain ⟨b, o, ha, hc⟩ := h k l[k] (List.getElem?_eq_getElem hk)
  exact ⟨b, o, ha, hc.lt (by simp [encWin]), hc 0 _ rfl, hc 1 _ rfl, hc 2 _ rfl⟩
theorem RowAt.reg {w : World} {a : Option Addr} {l : List Reg} (h : RowAt 5 encReg w a l) {k : Nat} (hk : k < l.length) : ∃ b o, a = some ⟨b, o, none⟩ ∧ b < w.heap.size ∧
    w.cell? ⟨b, o + k * 5, none⟩ = some (.int .u64 l[k].base) ∧ w.cell? ⟨b, o + k * 5 + 1, none⟩ = some (.int .u64 l[k].size) ∧
    w.cell? ⟨b, o + k * 5 + 2, none⟩ = some (.int .u16 l[k].part) ∧ w.cell? ⟨b, o + k * 5 + 3, none⟩ = some (.int .u8 l[k].rights) ∧ w.cell? ⟨b, o + k * 5 + 4, none⟩ = some (.bool l[k].shared) := by
  obtain ⟨b, o, ha, hc⟩ := h k l[k] (List.getElem?_eq_getElem hk)
  exact ⟨b, o, ha, hc.lt (by simp [encReg]), hc 0 _ rfl, hc 1 _ rfl, hc 2 _ rfl, hc 3 _ rfl, hc 4 _ rfl⟩
theorem RowAt.prt {w : World} {a : Option Addr} {l : List Prt} (h : RowAt 6 encPrt w a l) {k : Nat} (hk : k < l.length) : ∃ b o, a = some ⟨b, o, none⟩ ∧ b < w.heap.size ∧
    w.cell? ⟨b, o + k * 6, none⟩ = some (.int .u16 l[k].id) ∧ w.cell? ⟨b, o + k * 6 + 1, none⟩ = some (.int .u16 l[k].part) ∧
    w.cell? ⟨b, o + k * 6 + 2, none⟩ = some (.string l[k].name) ∧ w.cell? ⟨b, o + k * 6 + 3, none⟩ = some (.bool l[k].output) ∧
    w.cell? ⟨b, o + k * 6 + 4, none⟩ = some (.bool l[k].queuing) ∧ w.cell? ⟨b, o + k * 6 + 5, none⟩ = some (.int .u32 l[k].size) := by
  obtain ⟨b, o, ha, hc⟩ := h k l[k] (List.getElem?_eq_getElem hk)
  exact ⟨b, o, ha, hc.lt (by simp [encPrt]), hc 0 _ rfl, hc 1 _ rfl, hc 2 _ rfl, hc 3 _ rfl, hc 4 _ rfl, hc 5 _ rfl⟩
theorem ChnAt.chn {w : World} {a : Option Addr} {l : List Chn} (h : ChnAt w a l) {k : Nat} (hk : k < l.length) : ∃ b o d c, a = some ⟨b, o, none⟩ ∧ b < w.heap.size ∧
    w.cell? ⟨b, o + k * 3, none⟩ = some (.int .u16 l[k].id) ∧ w.cell? ⟨b, o + k * 3 + 1, none⟩ = some (.int .u16 l[k].src) ∧
    w.cell? ⟨b, o + k * 3 + 2, none⟩ = some (.slice d l[k].dests.length c) ∧ l[k].dests.length ≤ c ∧ RowAt 1 (fun n => [.int .u16 n]) w d l[k].dests := by
  obtain ⟨b, o, d, c, ha, hc, hd, hr⟩ := h k l[k] (List.getElem?_eq_getElem hk)
  exact ⟨b, o, d, c, ha, hc.lt (by simp), hc 0 _ rfl, hc 1 _ rfl, hc 2 _ rfl, hd, hr⟩
theorem RowAt.one {α : Type} {enc : α → Value} {w : World} {a : Option Addr} {l : List α} (h : RowAt 1 (fun n => [enc n]) w a l) {k : Nat} (hk : k < l.length) : ∃ b o, a = some ⟨b, o, none⟩ ∧ b < w.heap.size ∧
    w.cell? ⟨b, o + k, none⟩ = some (enc l[k]) := by
  obtain ⟨b, o, ha, hc⟩ := h k l[k] (List.getElem?_eq_getElem hk)
  exact ⟨b, o, ha, hc.lt (by simp), by simpa using hc 0 _ rfl⟩

/-! ### a boxed value: one block of the call's own -/
theorem heap_new (w : World) (o : Obj) : (w.alloc o).heap[w.heap.size]? = some o := heap_alloc_new w o
theorem heap_keep {w w' : World} {b : Nat} {o : Obj} (h : w.heap[b]? = some o) (hb : Below w.heap.size w w') : w'.heap[b]? = some o :=
  (hb.block b (lt_of_block h)).trans h
theorem heap_alloc' {w : World} {b : Nat} {o : Obj} (h : w.heap[b]? = some o) (o' : Obj) : (w.alloc o').heap[b]? = some o :=
  (Below.heap_alloc w o' b (lt_of_block h)).trans h
theorem cell_of_heap {w : World} {b i : Nat} {cs : Array Value} {t : TypeId} {f : Nat × Nat} {v : Value} (h : w.heap[b]? = some (.cells cs t f)) (hv : cs[i]? = some v) : w.cell? ⟨b, i, none⟩ = some v := by
  simp [World.cell?, h, hv]
theorem free_of_heap {w : World} {b i : Nat} {cs : Array Value} {t : TypeId} (h : w.heap[b]? = some (.cells cs t (0, 0))) : w.frozen? ⟨b, i, none⟩ = false := by
  simp [World.frozen?, h]

theorem below_new (w : World) (o : Obj) : Below w.heap.size w (w.alloc o) := (Below.refl _ _).alloc (Nat.le_refl _) _
theorem bthen {w w1 w2 : World} (h : Below w.heap.size w w1) (k : Below w1.heap.size w1 w2) : Below w.heap.size w w2 := h.trans (k.mono h.size)
theorem gtrans {w w1 w2 : World} {row : Option Nat} (h : w.grownBy w1 row) (k : w1.grownBy w2 row) : w.grownBy w2 row :=
  ⟨k.os.trans h.os, k.tape.trans h.tape, k.output.trans h.output, Nat.le_trans h.size k.size, fun i hi hne => (k.block i (Nat.lt_of_lt_of_le hi h.size) hne).trans (h.block i hi hne)⟩
theorem gbelow {w w1 : World} (h : Below w.heap.size w w1) (row : Option Nat) : w.grownBy w1 row := ⟨h.os, h.tape, h.output, h.size, fun i hi _ => h.block i hi⟩
theorem grefl (w : World) (row : Option Nat) : w.grownBy w row := ⟨rfl, rfl, rfl, Nat.le_refl _, fun _ _ _ => rfl⟩
theorem bgrown {w w1 w2 : World} {r : Nat} (h : Below w.heap.size w w1) (hg : w1.grownBy w2 (some r)) (hr : w.heap.size ≤ r) : Below w.heap.size w w2 :=
  h.grown hg h.size (fun k e => by cases e; exact hr)
theorem heap_get (w : World) (o : Obj) (k : Nat) : (w.alloc o).heap[k]? = if k = w.heap.size then some o else w.heap[k]? := by
  show (w.heap.push o)[k]? = _
  rw [Array.getElem?_push]
theorem heap_at {w : World} {o : Obj} {n : Nat} (h : n = w.heap.size) : (w.alloc o).heap[n]? = some o := by subst h; exact heap_new w o
theorem heap_grown {w w' : World} {b r : Nat} {o : Obj} (hg : w.grownBy w' (some r)) (h : w.heap[b]? = some o) (hne : b ≠ r) : w'.heap[b]? = some o :=
  (hg.block b (lt_of_block h) (by simp [hne])).trans h
theorem undrew {w w' : World} {r : Option Nat} (h : w.drew.grownBy w' r) : w.grownBy w' r := ⟨h.os, h.tape, h.output, h.size, h.block⟩
theorem bundrew {w w' : World} {B : Nat} (h : Below B w.drew w') : Below B w w' := ⟨h.os, h.tape, h.output, h.size, h.block⟩
theorem bdrewN {B : Nat} {w W : World} (h : Below B w W) (n : Nat) : Below B w (W.drewN n) := ⟨h.os, h.tape, h.output, h.size, h.block⟩
theorem cell_below {w w' : World} (hb : Below w.heap.size w w') {a : Addr} {v : Value} (h : w.cell? a = some v) : w'.cell? a = some v := by
  rw [hb.cell (World.block_lt_of_cell? w _ h)]; exact h
theorem row_new {α : Type} (w : World) (enc : α → Value) (l : List α) (t : TypeId) : RowAt 1 (fun n => [enc n]) (w.alloc (.cells (l.map enc).toArray t)) (some ⟨w.heap.size, 0, none⟩) l := by
  intro k x hx
  refine ⟨w.heap.size, 0, rfl, fun j u hj => ?_⟩
  cases j with
  | succ j => simp at hj
  | zero =>
    simp only [List.getElem?_cons_zero, Option.some.injEq] at hj
    subst hj
    exact cell_of_heap (heap_new w _) (by simp [hx])
/-- a name for the world at hand, and what is to be known of it -/
theorem wp_name {P : Program} {c : Code} {Q : Exit → Act → World → Prop} {a : Act} {W : World} (F : World → Prop) (hF : F W) (h : ∀ W, F W → c.wp P Q a W) : c.wp P Q a W := h W hF
/-- a name for the world behind a new block, and all that is to be known of it -/
theorem named (w : World) (o : Obj) : ∃ w1, w.alloc o = w1 ∧ Below w.heap.size w w1 ∧ w1.heap.size = w.heap.size + 1 ∧ w1.heap[w.heap.size]? = some o :=
  ⟨_, rfl, below_new w o, by simp, heap_new w o⟩

/-- a configuration in a box -/
theorem box_cfg {w : World} {b : Nat} {c : Cfg} {A : Adr} {t : TypeId} (h : w.heap[b]? = some (.cells (cfgCells c A) t (0, 0))) :
    w.cell? ⟨b, 0, none⟩ = some (.int .u64 c.frame) ∧ w.cell? ⟨b, 1, none⟩ = some (.slice A.a1 c.parts.length A.k1) ∧ w.cell? ⟨b, 2, none⟩ = some (.slice A.a2 c.wins.length A.k2) ∧
    w.cell? ⟨b, 3, none⟩ = some (.slice A.a3 c.regs.length A.k3) ∧ w.cell? ⟨b, 4, none⟩ = some (.slice A.a4 c.ports.length A.k4) ∧ w.cell? ⟨b, 5, none⟩ = some (.slice A.a5 c.chans.length A.k5) :=
  ⟨cell_of_heap h rfl, cell_of_heap h rfl, cell_of_heap h rfl, cell_of_heap h rfl, cell_of_heap h rfl, cell_of_heap h rfl⟩
end Go.Proofs.Ytmoignbaphddeaa
namespace Go.Proofs.Ytmoignbaphddeaa

/-- the ticks of a window in a range -/
def ovl (w : Win) (a b : Int) : Int := if max w.start a < min (w.start + w.len) b then min (w.start + w.len) b - max w.start a else 0
def usedL (ws : List Win) (a b : Int) : Int := (ws.map fun w => ovl w a b).sum

theorem ovl_nonneg (w : Win) (a b : Int) : 0 ≤ ovl w a b := by unfold ovl; split <;> omega
theorem usedL_nil (a b : Int) : usedL [] a b = 0 := rfl
theorem usedL_cons (w : Win) (ws : List Win) (a b : Int) : usedL (w :: ws) a b = ovl w a b + usedL ws a b := by simp [usedL]
theorem usedL_append (l m : List Win) (a b : Int) : usedL (l ++ m) a b = usedL l a b + usedL m a b := by
  induction l with
  | nil => simp [usedL_nil]
  | cons w l ih => rw [List.cons_append, usedL_cons, usedL_cons, ih]; omega
theorem usedL_nonneg (ws : List Win) (a b : Int) : 0 ≤ usedL ws a b := by
  induction ws with
  | nil => simp [usedL_nil]
  | cons w ws ih => rw [usedL_cons]; have := ovl_nonneg w a b; omega
theorem usedL_perm {l m : List Win} (h : l.Perm m) (a b : Int) : usedL l a b = usedL m a b := by
  induction h with
  | nil => rfl
  | cons x _ ih => rw [usedL_cons, usedL_cons, ih]
  | swap x y l => simp only [usedL_cons]; omega
  | trans _ _ h1 h2 => exact h1.trans h2

/-- windows one behind the other, from E on, within the frame -/
def Chain (F : Int) : Int → List Win → Prop
  | _, [] => True
  | E, w :: ws => E ≤ w.start ∧ 0 < w.len ∧ w.start + w.len ≤ F ∧ Chain F (w.start + w.len) ws

theorem Chain.used_le {F : Int} : ∀ {ws : List Win} {E : Int}, Chain F E ws → ∀ a b, usedL ws a b ≤ max 0 (b - max a E)
  | [], E, _, a, b => by rw [usedL_nil]; omega
  | w :: ws, E, h, a, b => by
    obtain ⟨h1, h2, h3, h4⟩ := h
    have := h4.used_le a b
    rw [usedL_cons]
    unfold ovl
    split <;> omega
theorem Chain.used_zero {F : Int} : ∀ {ws : List Win} {E : Int}, Chain F E ws → ∀ a b, b ≤ E → usedL ws a b = 0
  | [], E, _, a, b, _ => rfl
  | w :: ws, E, h, a, b, hb => by
    obtain ⟨h1, h2, h3, h4⟩ := h
    have := h4.used_zero a b (by omega)
    rw [usedL_cons, this]
    unfold ovl
    split <;> omega
theorem used_ended {D : List Win} {X : Int} (h : ∀ w ∈ D, w.start + w.len ≤ X) (a b : Int) (ha : X ≤ a) : usedL D a b = 0 := by
  induction D with
  | nil => rfl
  | cons w D ih =>
    rw [usedL_cons, ih (fun v hv => h v (List.mem_cons_of_mem _ hv))]
    have := h w (by simp)
    unfold ovl
    split <;> omega

/-- right windows -/
def Free (a b : Win) : Prop := a.start + a.len ≤ b.start ∨ b.start + b.len ≤ a.start
theorem Free.symm {a b : Win} (h : Free a b) : Free b a := Or.symm h
structure Apart (F : Int) (ws : List Win) : Prop where
  each : ∀ w ∈ ws, 0 ≤ w.start ∧ 0 < w.len ∧ w.start + w.len ≤ F
  free : ws.Pairwise Free
theorem Apart.perm {F : Int} {l m : List Win} (h : Apart F l) (hp : l.Perm m) : Apart F m :=
  ⟨fun w hw => h.each w (hp.mem_iff.2 hw), (hp.pairwise_iff (fun h => Free.symm h)).1 h.free⟩
theorem Apart.filter {F : Int} {l : List Win} (h : Apart F l) (p : Win → Bool) : Apart F (l.filter p) :=
  ⟨fun w hw => h.each w (List.mem_filter.1 hw).1, h.free.filter p⟩
theorem Apart.chain {F : Int} {l : List Win} (h : Apart F l) (hs : l.Pairwise fun a b => a.start ≤ b.start) : ∀ {E : Int}, (∀ w ∈ l, E ≤ w.start) → Chain F E l := by
  induction l with
  | nil => intro E _; trivial
  | cons w l ih =>
    intro E hE
    have hw := h.each w (by simp)
    rw [List.pairwise_cons] at hs
    have hf := List.pairwise_cons.1 h.free
    refine ⟨hE w (by simp), hw.2.1, hw.2.2, ih ⟨fun v hv => h.each v (List.mem_cons_of_mem _ hv), hf.2⟩ hs.2 ?_⟩
    intro v hv
    have h1 := hs.1 v hv
    have h2 := hf.1 v hv
    have h3 := h.each v (List.mem_cons_of_mem _ hv)
    unfold Free at h2
    omega

/-! ### the periods that are visited -/
section
variable (P count : Int)
mutual
def genA : List Win → Int → Int → List (Int × Int)
  | [], next, ticks => if next < count ∧ 0 < ticks then (next, ticks) :: genE (next + 1) else genE next
  | w :: ws, next, ticks => if 0 < ticks ∧ next < w.start / P then (next, ticks) :: genB w ws (next + 1) 0 else genB w ws next ticks
def genB (w : Win) (ws : List Win) (next ticks : Int) : List (Int × Int) :=
  if next < w.start / P then (next, 0) :: genC w ws 0 else genC w ws ticks
def genC (w : Win) (ws : List Win) (ticks : Int) : List (Int × Int) :=
  if w.start / P = (w.start + w.len - 1) / P then genA ws (w.start / P) (ticks + w.len)
  else (w.start / P, ticks + (w.start / P + 1) * P - w.start) :: genD w ws
def genD (w : Win) (ws : List Win) : List (Int × Int) :=
  if w.start / P + 1 < (w.start + w.len - 1) / P then (w.start / P + 1, P) :: genA ws ((w.start + w.len - 1) / P) (w.start + w.len - (w.start + w.len - 1) / P * P)
  else genA ws ((w.start + w.len - 1) / P) (w.start + w.len - (w.start + w.len - 1) / P * P)
def genE (next : Int) : List (Int × Int) := if next < count then [(next, 0)] else []
end
end

/-- these visits tell of all periods from lo on -/
structure Cover (used : Int → Int) (count lo : Int) (ys : List (Int × Int)) : Prop where
  each : ∀ y ∈ ys, lo ≤ y.1 ∧ y.1 < count ∧ y.2 = used y.1
  asc : ys.Pairwise fun a b => a.1 < b.1
  all : ∀ k, lo ≤ k → k < count → ∃ y ∈ ys, y.1 ≤ k ∧ used k = y.2

theorem Cover.cons {used : Int → Int} {count lo lo' n : Int} {ys : List (Int × Int)} (h : Cover used count lo' ys) (h1 : lo < lo') (h2 : lo < count) (hn : n = used lo) (he : ∀ k, lo < k → k < lo' → used k = used lo) : Cover used count lo ((lo, n) :: ys) := by
  refine ⟨?_, ?_, ?_⟩
  · intro y hy
    rcases List.mem_cons.1 hy with rfl | hy
    · exact ⟨Int.le_refl _, h2, hn⟩
    · have := h.each y hy
      exact ⟨by omega, this.2.1, this.2.2⟩
  · rw [List.pairwise_cons]
    exact ⟨fun y hy => by have := h.each y hy; simp only; omega, h.asc⟩
  · intro k hk hc
    by_cases hlt : k < lo'
    · refine ⟨(lo, n), by simp, hk, ?_⟩
      simp only
      rcases Int.lt_or_eq_of_le hk with h' | rfl
      · rw [he k h' hlt, hn]
      · exact hn.symm
    · obtain ⟨y, hy, h3, h4⟩ := h.all k (by omega) hc
      exact ⟨y, List.mem_cons_of_mem _ hy, h3, h4⟩
theorem Cover.nil {used : Int → Int} {count lo : Int} (h : count ≤ lo) : Cover used count lo [] :=
  ⟨fun y hy => by simp at hy, List.Pairwise.nil, fun k h1 h2 => by omega⟩

section
variable {P F count : Int}
/-- the ticks of the windows in a period -/
def inP (P : Int) (ws : List Win) (k : Int) : Int := usedL ws (k * P) ((k + 1) * P)

theorem div_facts (hP : 0 < P) (x : Int) : x / P * P ≤ x ∧ x < x / P * P + P := by
  have h1 := Int.emod_nonneg x (by omega : P ≠ 0)
  have h2 := Int.emod_lt_of_pos x hP
  have h3 := Int.mul_ediv_add_emod x P
  have h4 : P * (x / P) = x / P * P := Int.mul_comm _ _
  omega
theorem mul_mono (hP : 0 < P) {a b : Int} (h : a ≤ b) : a * P ≤ b * P := Int.mul_le_mul_of_nonneg_right h (by omega)
theorem succ_mul' (a P : Int) : (a + 1) * P = a * P + P := by rw [Int.add_mul, Int.one_mul]
theorem step_le (hP : 0 < P) {a b : Int} (h : a < b) : a * P + P ≤ b * P := by rw [← succ_mul']; exact mul_mono hP (by omega)
theorem lt_of_mul (hP : 0 < P) {a b : Int} (h : a * P < b * P) : a < b := by
  rcases Int.lt_or_le a b with h' | h'
  · exact h'
  · have := mul_mono hP h'; omega

theorem inP_eq (ws : List Win) (k : Int) : inP P ws k = usedL ws (k * P) (k * P + P) := by rw [inP, succ_mul']
theorem inP_append (l m : List Win) (k : Int) : inP P (l ++ m) k = inP P l k + inP P m k := usedL_append _ _ _ _

theorem ended_zero (hP : 0 < P) {D : List Win} {next k : Int} (h : ∀ w ∈ D, w.start + w.len ≤ next * P + P) (hk : next < k) : inP P D k = 0 := by
  rw [inP_eq]
  exact used_ended h _ _ (step_le hP hk)
theorem chain_zero {E k : Int} {ws : List Win} (h : Chain F E ws) (hk : k * P + P ≤ E) : inP P ws k = 0 := by
  rw [inP_eq]
  exact h.used_zero _ _ hk

theorem genE_cover (hP : 0 < P) {D : List Win} {next x : Int} (h : ∀ w ∈ D, w.start + w.len ≤ x * P + P) (hx : x < next) : Cover (inP P D) count next (genE P count next) := by
  unfold genE
  split
  · rename_i hlt
    refine (Cover.nil (Int.le_refl _)).cons hlt hlt (ended_zero hP h hx).symm (fun k h1 h2 => ?_)
    rw [ended_zero hP h hx, ended_zero hP h (by omega)]
  · exact Cover.nil (by omega)

theorem gen_cover (hP : 0 < P) (hF : F = count * P) : ∀ (ws D : List Win) (next ticks : Int), (∃ E, Chain F E ws ∧ next * P ≤ E) → (∀ w ∈ D, w.start + w.len ≤ next * P + P) →
    ticks = usedL D (next * P) (next * P + P) → next < count → Cover (inP P (D ++ ws)) count next (genA P count ws next ticks)
  | [], D, next, ticks, hc, hd, ht, htop => by
    have ht0 := usedL_nonneg D (next * P) (next * P + P)
    rw [List.append_nil]
    unfold genA
    split
    · exact (genE_cover hP hd (by omega)).cons (by omega) htop (by rw [inP_eq]; exact ht) (fun k h1 h2 => by omega)
    · rename_i hn
      have hz : ticks = 0 := by omega
      unfold genE
      rw [if_pos htop]
      have hu : inP P D next = 0 := by rw [inP_eq, ← ht]; exact hz
      refine (Cover.nil (Int.le_refl _)).cons htop htop hu.symm (fun k h1 h2 => ?_)
      rw [ended_zero hP hd h1, hu]
  | w :: ws, D, next, ticks, ⟨E, ⟨c1, c2, c3, c4⟩, hE⟩, hd, ht, htop => by
    have ht0 := usedL_nonneg D (next * P) (next * P + P)
    obtain ⟨f1, f2⟩ := div_facts hP w.start
    obtain ⟨l1, l2⟩ := div_facts hP (w.start + w.len - 1)
    have hfirst : next ≤ w.start / P := by
      rcases Int.lt_or_le (w.start / P) next with h | h
      · have := step_le hP h; omega
      · exact h
    have hlast : w.start / P ≤ (w.start + w.len - 1) / P := by
      rcases Int.lt_or_le ((w.start + w.len - 1) / P) (w.start / P) with h | h
      · have := step_le hP h; omega
      · exact h
    have hltop : (w.start + w.len - 1) / P < count := by
      refine lt_of_mul hP ?_
      rw [← hF]; omega
    have hzero : ∀ k, k < w.start / P → inP P (w :: ws) k = 0 := by
      intro k hk
      refine chain_zero (show Chain F w.start (w :: ws) from ⟨Int.le_refl _, c2, c3, c4⟩) ?_
      have := step_le hP hk; omega
    -- C: at the window's first period
    have hC : ∀ t, (∀ v ∈ D, v.start + v.len ≤ w.start / P * P + P) → t = usedL D (w.start / P * P) (w.start / P * P + P) → Cover (inP P (D ++ w :: ws)) count (w.start / P) (genC P count w ws t) := by
      intro t hd' ht'
      have hsplit : D ++ w :: ws = (D ++ [w]) ++ ws := by simp
      unfold genC
      split
      · rename_i heq
        rw [hsplit]
        refine gen_cover hP hF ws (D ++ [w]) _ _ ⟨w.start + w.len, c4, by omega⟩ ?_ ?_ (by omega)
        · intro v hv
          rcases List.mem_append.1 hv with hv | hv
          · exact hd' v hv
          · rw [List.mem_singleton.1 hv]; rw [← heq] at l2; omega
        · rw [usedL_append, ← ht', usedL_cons, usedL_nil]
          unfold ovl
          rw [← heq] at l2
          split <;> omega
      · rename_i hne
        have hlt : w.start / P < (w.start + w.len - 1) / P := by omega
        have hle := step_le hP hlt
        have hnext : Cover (inP P (D ++ w :: ws)) count ((w.start + w.len - 1) / P) (genA P count ws ((w.start + w.len - 1) / P) (w.start + w.len - (w.start + w.len - 1) / P * P)) := by
          rw [hsplit]
          refine gen_cover hP hF ws (D ++ [w]) _ _ ⟨w.start + w.len, c4, by omega⟩ ?_ ?_ hltop
          · intro v hv
            rcases List.mem_append.1 hv with hv | hv
            · have := hd' v hv; omega
            · rw [List.mem_singleton.1 hv]; omega
          · rw [usedL_append, used_ended hd' _ _ hle, usedL_cons, usedL_nil]
            unfold ovl
            split <;> omega
        have hfull : ∀ k, w.start / P < k → k < (w.start + w.len - 1) / P → inP P (D ++ w :: ws) k = P := by
          intro k h1 h2
          have e1 := step_le hP h1
          have e2 := step_le hP h2
          rw [inP_append, ended_zero hP hd' h1, inP_eq, usedL_cons, c4.used_zero _ _ (by omega)]
          unfold ovl
          split <;> omega
        have hD : Cover (inP P (D ++ w :: ws)) count (w.start / P + 1) (genD P count w ws) := by
          unfold genD
          split
          · rename_i hl
            refine hnext.cons hl (by omega) (hfull _ (by omega) hl).symm (fun k h1 h2 => ?_)
            rw [hfull k (by omega) h2, hfull _ (by omega) hl]
          · have : (w.start + w.len - 1) / P = w.start / P + 1 := by omega
            rw [this] at hnext ⊢
            exact hnext
        refine hD.cons (by omega) (by omega) ?_ (fun k h1 h2 => by omega)
        rw [inP_append, inP_eq, ← ht', inP_eq, usedL_cons, c4.used_zero _ _ (by omega), succ_mul']
        unfold ovl
        split <;> omega
    have hB : ∀ n t, next ≤ n → n ≤ w.start / P → (∀ v ∈ D, v.start + v.len ≤ n * P + P) → t = usedL D (n * P) (n * P + P) → (n < w.start / P → t = 0) → Cover (inP P (D ++ w :: ws)) count n (genB P count w ws n t) := by
      intro n t hn1 hn hd' ht' hz
      unfold genB
      split
      · rename_i hlt
        have hle := step_le hP hlt
        have hu : ∀ k, n < k → k < w.start / P → inP P (D ++ w :: ws) k = 0 := by
          intro k h1 h2
          rw [inP_append, ended_zero hP hd' h1, hzero k h2]; rfl
        have hu0 : inP P (D ++ w :: ws) n = 0 := by
          rw [inP_append, hzero n hlt, inP_eq, ← ht', hz hlt]; rfl
        refine (hC 0 (fun v hv => by have := hd' v hv; omega) ?_).cons hlt (by omega) hu0.symm (fun k h1 h2 => by rw [hu k h1 h2, hu0])
        rw [used_ended hd' _ _ hle]
      · have : n = w.start / P := by omega
        subst this
        exact hC t hd' ht'
    unfold genA
    split
    · rename_i hy
      have hle := step_le hP hy.2
      refine (hB (next + 1) 0 (by omega) (by omega) (fun v hv => by have := hd v hv; rw [succ_mul']; omega) ?_ (fun _ => rfl)).cons (by omega) htop ?_ (fun k h1 h2 => by omega)
      · rw [succ_mul', used_ended hd _ _ (by omega)]
      · rw [inP_append, hzero next hy.2, inP_eq, ← ht]; omega
    · rename_i hn
      refine hB next ticks (Int.le_refl _) hfirst hd ht (fun h => by omega)

/-- all visits of a partition's windows -/
theorem visits (hP : 0 < P) (hF : F = count * P) (hc : 0 < count) {ws : List Win} (h : Chain F 0 ws) : Cover (inP P ws) count 0 (genA P count ws 0 0) := by
  have := gen_cover hP hF ws [] 0 0 ⟨0, h, by omega⟩ (by simp) (by rw [usedL_nil]) hc
  simpa using this
end

/-! ### the least and the first -/
def leastOf (p : Int) (l : List Int) : Int := l.foldl min p
theorem leastOf_le : ∀ (l : List Int) (p : Int), leastOf p l ≤ p ∧ ∀ x ∈ l, leastOf p l ≤ x
  | [], p => ⟨Int.le_refl _, fun x hx => by simp at hx⟩
  | y :: l, p => by
    have ⟨h1, h2⟩ := leastOf_le l (min p y)
    have e : leastOf p (y :: l) = leastOf (min p y) l := rfl
    rw [e]
    refine ⟨by omega, fun x hx => ?_⟩
    rcases List.mem_cons.1 hx with rfl | hx
    · omega
    · exact h2 x hx
theorem leastOf_mem : ∀ (l : List Int) (p : Int), leastOf p l = p ∨ leastOf p l ∈ l
  | [], p => .inl rfl
  | y :: l, p => by
    have e : leastOf p (y :: l) = leastOf (min p y) l := rfl
    rw [e]
    rcases leastOf_mem l (min p y) with h | h
    · rw [h]
      rcases Int.le_total p y with h' | h'
      · left; omega
      · right; rw [Int.min_eq_right h']; simp
    · exact .inr (List.mem_cons_of_mem _ h)
theorem leastOf_snoc (p : Int) (l : List Int) (x : Int) : leastOf p (l ++ [x]) = min (leastOf p l) x := by simp [leastOf]

/-- the periods in their order -/
def periodsOf (count : Int) : List Int := (List.range count.toNat).map fun k : Nat => (k : Int)
theorem mem_periodsOf {count k : Int} : k ∈ periodsOf count ↔ 0 ≤ k ∧ k < count := by
  simp only [periodsOf, List.mem_map, List.mem_range]
  constructor
  · rintro ⟨n, h1, rfl⟩; omega
  · rintro ⟨h1, h2⟩; exact ⟨k.toNat, by omega, by omega⟩

theorem least_eq {used : Int → Int} {count p : Int} {ys : List (Int × Int)} (h : Cover used count 0 ys) : leastOf p (ys.map Prod.snd) = leastOf p ((periodsOf count).map used) := by
  have a1 := leastOf_le (ys.map Prod.snd) p
  have b1 := leastOf_le ((periodsOf count).map used) p
  refine Int.le_antisymm ?_ ?_
  · rcases leastOf_mem ((periodsOf count).map used) p with e | e
    · rw [e]; exact a1.1
    · obtain ⟨k, hk, e⟩ := List.mem_map.1 e
      obtain ⟨k1, k2⟩ := mem_periodsOf.1 hk
      obtain ⟨y, hy, _, e2⟩ := h.all k k1 k2
      rw [← e, e2]
      exact a1.2 _ (List.mem_map.2 ⟨y, hy, rfl⟩)
  · rcases leastOf_mem (ys.map Prod.snd) p with e | e
    · rw [e]; exact b1.1
    · obtain ⟨y, hy, e⟩ := List.mem_map.1 e
      obtain ⟨k1, k2, k3⟩ := h.each y hy
      rw [← e, k3]
      exact b1.2 _ (List.mem_map.2 ⟨y.1, mem_periodsOf.2 ⟨k1, k2⟩, rfl⟩)

/-- the first period that is short -/
def firstShort (d : Int) (ys : List (Int × Int)) : Int × Bool := match ys.find? (fun y => decide (y.2 < d)) with
  | some y => (y.1, true)
  | none => (0, false)
theorem firstShort_no {d : Int} {ys : List (Int × Int)} (h : ∀ y ∈ ys, ¬ y.2 < d) : firstShort d ys = (0, false) := by
  have : ys.find? (fun y => decide (y.2 < d)) = none := by
    rw [List.find?_eq_none]; intro y hy; simpa using h y hy
  simp [firstShort, this]
theorem firstShort_at {d : Int} {pre post : List (Int × Int)} {y : Int × Int} (h : ∀ z ∈ pre, ¬ z.2 < d) (hy : y.2 < d) : firstShort d (pre ++ y :: post) = (y.1, true) := by
  have : (pre ++ y :: post).find? (fun y => decide (y.2 < d)) = some y := by
    rw [List.find?_eq_some_iff_append]
    exact ⟨by simpa using hy, pre, post, rfl, fun z hz => by simpa using h z hz⟩
  simp [firstShort, this]
def allOf (used : Int → Int) (count : Int) : List (Int × Int) := (periodsOf count).map fun k => (k, used k)
theorem short_eq {used : Int → Int} {count d : Int} {ys : List (Int × Int)} (h : Cover used count 0 ys) : firstShort d ys = firstShort d (allOf used count) := by
  cases hf : ys.find? (fun y => decide (y.2 < d)) with
  | none =>
    rw [List.find?_eq_none] at hf
    rw [firstShort_no (fun y hy => by simpa using hf y hy), firstShort_no]
    intro y hy
    obtain ⟨k, hk, rfl⟩ := List.mem_map.1 hy
    obtain ⟨k1, k2⟩ := mem_periodsOf.1 hk
    obtain ⟨z, hz, _, e2⟩ := h.all k k1 k2
    have := hf z hz
    simp only [decide_eq_true_eq] at this
    simp only
    omega
  | some y =>
    rw [List.find?_eq_some_iff_append] at hf
    obtain ⟨hy, pre, post, e, hpre⟩ := hf
    simp only [decide_eq_true_eq] at hy
    have hym : y ∈ ys := by rw [e]; simp
    obtain ⟨k1, k2, k3⟩ := h.each y hym
    rw [e, firstShort_at (fun z hz => by simpa using hpre z hz) hy]
    have hs : allOf used count = ((List.range y.1.toNat).map fun k : Nat => ((k : Int), used k)) ++ (y.1, used y.1) :: (List.range (count.toNat - y.1.toNat - 1)).map fun k : Nat => (((k + (y.1.toNat + 1) : Nat) : Int), used ((k + (y.1.toNat + 1) : Nat) : Int)) := by
      have hc : count.toNat = (y.1.toNat + 1) + (count.toNat - y.1.toNat - 1) := by omega
      have hy1 : (y.1.toNat : Int) = y.1 := by omega
      rw [allOf, periodsOf, List.map_map, hc, List.range_add, List.map_append, List.range_succ, List.map_append, List.append_assoc]
      congr 1
      simp only [List.map_cons, List.map_nil, List.singleton_append, List.map_map, Function.comp_apply, hy1]
      congr 1
      rw [show y.1.toNat + 1 + (count.toNat - y.1.toNat - 1) - y.1.toNat - 1 = count.toNat - y.1.toNat - 1 by omega]
      refine List.map_congr_left (fun k _ => ?_)
      simp only [Function.comp_apply]
      rw [show y.1.toNat + 1 + k = k + (y.1.toNat + 1) by omega]
    rw [hs, firstShort_at _ (by simp only; rw [← k3]; exact hy)]
    intro z hz
    obtain ⟨k, hk, rfl⟩ := List.mem_map.1 hz
    rw [List.mem_range] at hk
    obtain ⟨v, hv, e1, e2⟩ := h.all k (by omega) (by omega)
    simp only
    rw [e2]
    -- v comes before y
    have hvp : v ∈ pre := by
      rw [e] at hv
      rcases List.mem_append.1 hv with hv | hv
      · exact hv
      · exfalso
        have hasc := h.asc
        rw [e] at hasc
        have hp := (List.pairwise_append.1 hasc).2.1
        rcases List.mem_cons.1 hv with rfl | hv
        · omega
        · have := (List.pairwise_cons.1 hp).1 v hv; omega
    simpa using hpre v hvp

theorem short_iff {used : Int → Int} {count d p : Int} (hp : d ≤ p) : (firstShort d (allOf used count)).2 = decide (leastOf p ((periodsOf count).map used) < d) := by
  have b1 := leastOf_le ((periodsOf count).map used) p
  cases hf : (allOf used count).find? (fun y => decide (y.2 < d)) with
  | none =>
    have e : (firstShort d (allOf used count)).2 = false := by simp [firstShort, hf]
    rw [e]
    rw [List.find?_eq_none] at hf
    symm
    rw [decide_eq_false_iff_not]
    rcases leastOf_mem ((periodsOf count).map used) p with e | e
    · rw [e]; omega
    · obtain ⟨k, hk, e⟩ := List.mem_map.1 e
      have := hf (k, used k) (List.mem_map.2 ⟨k, hk, rfl⟩)
      simp only [decide_eq_true_eq] at this
      omega
  | some y =>
    have e : (firstShort d (allOf used count)).2 = true := by simp [firstShort, hf]
    rw [e]
    symm
    rw [decide_eq_true_eq]
    have h1 := List.find?_some hf
    have h2 := List.mem_of_find?_eq_some hf
    simp only [decide_eq_true_eq] at h1
    obtain ⟨k, hk, rfl⟩ := List.mem_map.1 h2
    have := b1.2 (used k) (List.mem_map.2 ⟨k, hk, rfl⟩)
    simp only at h1
    omega
end Go.Proofs.Ytmoignbaphddeaa
namespace Go.Proofs.Ytmoignbaphddeaa
open Go.RowKit

/-- append of literal elements to a slice that is nil or the call's own -/
theorem wp_append_lit {P : Program} {ops : Array Oper} {rest : List Oper} {o : Oper} {a : Act} {Q : Exit → Act → World → Prop} (hgd : o.guard = none) (s x : Operand) (t e : TypeId)
    (ho : o.op = .call { callee := .builtin .append, args := #[s, x], argTypes := #[t, t] })
    {z : Value} {size bytes : Nat} (ht : P.underlying t = some (.slice e)) (hinfo : (P.info? e).map (fun i => (i.zero, i.size, i.bytes)) = some (some z, size, bytes)) (hzs : z.cells.size = size) (hsz : 0 < size)
    (w0 : World) (base : Nat) (v : Value) (n : Nat) (xs news : List Value) (m : Nat) (hs : a.eval s = v) (hx : a.eval x = .slice (some ⟨w0.heap.size, 0, none⟩) m m) (hown : w0.ownsRow base e size v n xs)
    (hl : news.length = m * size) (h1 : ∀ u ∈ news, u.oneCell' = true) (hb : (n + m) * bytes ≤ 140737488355328) (hn : n + m ≤ 9223372036854775807) (hbase : base ≤ w0.heap.size)
    (h : ∀ v' w', w'.ownsRow base e size v' (n + m) (xs ++ news) → w0.grownBy w' v.ownBlock → (v' = .slice none 0 0 ↔ v = .slice none 0 0 ∧ m = 0) → wpList P ops Q rest (a.put o.dst v') w') :
    wpList P ops Q (o :: rest) a (w0.alloc (.cells news.toArray e)) := by
  obtain ⟨i, hi, h2, h3, h4⟩ := info_parts hinfo
  refine wpList_append_own _ hgd s x t ho base e i z size bytes ht hi h2 h3 h4 hzs hsz v n xs hs (hown.alloc _) ⟨w0.heap.size, 0, none⟩ m m news hx hl ?_ h1 (by unfold maxLen; omega) hb (by simp; omega) ?_
  · intro j u hj
    have hadd : (⟨w0.heap.size, 0, none⟩ : Addr).add j = ⟨w0.heap.size, j, none⟩ := by
      unfold Addr.add
      split
      · rename_i h0; rw [h0]
      · simp
    rw [hadd]
    exact cell_of_heap (heap_new w0 _) (by simpa using hj)
  · intro v' w' g1 g2 g3
    exact h v' w' g1 (gtrans (World.grownBy_alloc _ _ _) g2) g3

/-- what a row of the call's own does to the rest -/
theorem below_own {w w1 w' : World} {base : Nat} {e : TypeId} {size n : Nat} {v : Value} {xs : List Value} (h : Below w.heap.size w w1) (hown : w1.ownsRow base e size v n xs) (hbase : w.heap.size ≤ base) (hg : w1.grownBy w' v.ownBlock) : Below w.heap.size w w' :=
  h.grown hg h.size (fun k hk => Nat.le_trans hbase (hown.lt k hk).1)

theorem own_slice {w : World} {base : Nat} {e : TypeId} {size n : Nat} {v : Value} {xs : List Value} (h : w.ownsRow base e size v n xs) : ∃ a cap, v = .slice a n cap ∧ n ≤ cap := by
  obtain ⟨_, h | ⟨g, cap, _, hv, _, _, hc, _⟩⟩ := h
  · obtain ⟨rfl, rfl⟩ := h
    exact ⟨none, 0, rfl, Nat.le_refl _⟩
  · exact ⟨_, cap, hv, hc⟩

theorem flatMap_get {α β : Type} {enc : α → List β} {sz : Nat} {l : List α} (henc : ∀ x ∈ l, (enc x).length = sz) {k j : Nat} {x : α} {u : β} (hx : l[k]? = some x) (hj : (enc x)[j]? = some u) : (l.flatMap enc)[k * sz + j]? = some u := by
  induction l generalizing k with
  | nil => simp at hx
  | cons y l ih =>
    rw [List.flatMap_cons]
    have hy : (enc y).length = sz := henc y (by simp)
    cases k with
    | zero =>
      simp only [List.getElem?_cons_zero, Option.some.injEq] at hx
      subst hx
      have hjl : j < (enc y).length := (List.getElem?_eq_some_iff.1 hj).1
      rw [List.getElem?_append_left (by omega)]
      simpa using hj
    | succ k =>
      have e : (k + 1) * sz + j = sz + (k * sz + j) := by rw [Nat.add_mul]; omega
      rw [e, List.getElem?_append_right (by rw [hy]; omega), hy, Nat.add_sub_cancel_left]
      exact ih (fun z hz => henc z (List.mem_cons_of_mem _ hz)) (by simpa using hx)

/-- an owned row reads as a row of records -/
theorem own_row {α : Type} {sz : Nat} {enc : α → List Value} {w : World} {base : Nat} {e : TypeId} {n cap : Nat} {a : Option Addr} {l : List α} (h : w.ownsRow base e sz (.slice a n cap) n (l.flatMap enc)) (henc : ∀ x ∈ l, (enc x).length = sz) (_hn : l.length = n) : RowAt sz enc w a l := by
  intro k x hx
  obtain ⟨hlen, h | ⟨g, cap', cur, hv, _, hh, hc, _, hsz, htake⟩⟩ := h
  · obtain ⟨_, rfl⟩ := h
    have : l = [] := List.eq_nil_of_length_eq_zero _hn
    subst this
    simp at hx
  · simp only [Value.slice.injEq] at hv
    obtain ⟨rfl, _, rfl⟩ := hv
    refine ⟨g, 0, rfl, fun j u hj => ?_⟩
    have hget := flatMap_get henc hx hj
    rw [← htake, List.getElem?_take] at hget
    split at hget
    · simp only [Nat.zero_add, World.cell?, hh]
      simpa using hget
    · cases hget
end Go.Proofs.Ytmoignbaphddeaa
namespace Go.Proofs.Ytmoignbaphddeaa
open Go.RowKit

theorem heap_set {w : World} {b i : Nat} {cs : Array Value} {t : TypeId} {f : Nat × Nat} (h : w.heap[b]? = some (.cells cs t f)) (v : Value) :
    (w.setCell ⟨b, i, none⟩ v).heap[b]? = some (.cells (cs.setIfInBounds i v) t f) := by
  unfold World.setCell
  simp only [Array.getElem?_modify, h]
  simp
theorem heap_set_ne {w : World} {b i n : Nat} {o : Obj} (h : w.heap[n]? = some o) (hne : n ≠ b) (v : Value) : (w.setCell ⟨b, i, none⟩ v).heap[n]? = some o := by
  rw [Below.heap_setCell _ _ _ _ hne]; exact h
theorem set3 {w : World} {b : Nat} {a0 a1 a2 : Value} {t : TypeId} {f : Nat × Nat} (h : w.heap[b]? = some (.cells #[a0, a1, a2] t f)) (x0 x1 x2 : Value) :
    (((w.setCell ⟨b, 0, none⟩ x0).setCell ⟨b, 1, none⟩ x1).setCell ⟨b, 2, none⟩ x2).heap[b]? = some (.cells #[x0, x1, x2] t f) := by
  rw [heap_set (heap_set (heap_set h x0) x1) x2]; rfl

theorem set7 {w : World} {b : Nat} {a0 a1 a2 a3 a4 a5 a6 : Value} {t : TypeId} {f : Nat × Nat} (h : w.heap[b]? = some (.cells #[a0, a1, a2, a3, a4, a5, a6] t f)) (x0 x1 x2 x3 x4 x5 x6 : Value) :
    (((((((w.setCell ⟨b, 0, none⟩ x0).setCell ⟨b, 1, none⟩ x1).setCell ⟨b, 2, none⟩ x2).setCell ⟨b, 3, none⟩ x3).setCell ⟨b, 4, none⟩ x4).setCell ⟨b, 5, none⟩ x5).setCell ⟨b, 6, none⟩ x6).heap[b]? = some (.cells #[x0, x1, x2, x3, x4, x5, x6] t f) := by
  rw [heap_set (heap_set (heap_set (heap_set (heap_set (heap_set (heap_set h x0) x1) x2) x3) x4) x5) x6]; rfl
theorem bset {w W : World} {b : Nat} (h : Below w.heap.size w W) (hb : w.heap.size ≤ b) (i : Nat) (v : Value) : Below w.heap.size w (W.setCell ⟨b, i, none⟩ v) := h.setCell (p := ⟨b, i, none⟩) hb v

theorem bodyPost_fault {fn : Func} {R : Ending → World → Prop} {a : Act} {w : World} {p : Tmp} (hres : fn.results = #[.cell p 36]) (hd : a.defers = []) {b : Nat} (hp : a.tmps.getD p undef = .pointer (some ⟨b, 0, none⟩))
    {x0 x1 x2 : Value} {t : TypeId} {f : Nat × Nat} (hh : w.heap[b]? = some (.cells #[x0, x1, x2] t f)) (hR : R (.returned (.agg #[x0, x1, x2])) w) : bodyPost Try.prog fn R .ret a w := by
  have h0 : w.cell? ⟨b, 0, none⟩ = some x0 := cell_of_heap hh rfl
  have h1 : w.cell? ⟨b, 1, none⟩ = some x1 := cell_of_heap hh rfl
  have h2 : w.cell? ⟨b, 2, none⟩ = some x2 := cell_of_heap hh rfl
  refine bodyPost_ret (v := .agg #[x0, x1, x2]) ?_ hd hR
  simp only [Array.getD_eq_getD_getElem?] at hp
  simp [results, hres, go_sem, hp, h0, h1, h2]
theorem bodyPost_seven {fn : Func} {R : Ending → World → Prop} {a : Act} {w : World} {p : Tmp} (hres : fn.results = #[.cell p 51]) (hd : a.defers = []) {b : Nat} (hp : a.tmps.getD p undef = .pointer (some ⟨b, 0, none⟩))
    {x0 x1 x2 x3 x4 x5 x6 : Value} {t : TypeId} {f : Nat × Nat} (hh : w.heap[b]? = some (.cells #[x0, x1, x2, x3, x4, x5, x6] t f)) (hR : R (.returned (.agg #[x0, x1, x2, x3, x4, x5, x6])) w) : bodyPost Try.prog fn R .ret a w := by
  have h0 : w.cell? ⟨b, 0, none⟩ = some x0 := cell_of_heap hh rfl
  have h1 : w.cell? ⟨b, 1, none⟩ = some x1 := cell_of_heap hh rfl
  have h2 : w.cell? ⟨b, 2, none⟩ = some x2 := cell_of_heap hh rfl
  have h3 : w.cell? ⟨b, 3, none⟩ = some x3 := cell_of_heap hh rfl
  have h4 : w.cell? ⟨b, 4, none⟩ = some x4 := cell_of_heap hh rfl
  have h5 : w.cell? ⟨b, 5, none⟩ = some x5 := cell_of_heap hh rfl
  have h6 : w.cell? ⟨b, 6, none⟩ = some x6 := cell_of_heap hh rfl
  refine bodyPost_ret (v := .agg #[x0, x1, x2, x3, x4, x5, x6]) ?_ hd hR
  simp only [Array.getD_eq_getD_getElem?] at hp
  simp [results, hres, go_sem, hp, h0, h1, h2, h3, h4, h5, h6]
end Go.Proofs.Ytmoignbaphddeaa
namespace Go.Proofs.Ytmoignbaphddeaa
open Go.RowKit

theorem cells_later {w5 : World} {b : Nat} {cs : Array Value} {t : TypeId} (h : w5.heap[b]? = some (.cells cs t (0, 0))) (i : Nat) {v : Value} (hv : cs[i]? = some v) : ∀ W, Below w5.heap.size w5 W → W.cell? ⟨b, i, none⟩ = some v :=
  fun _ hW => cell_of_heap (heap_keep h hW) hv
theorem box_later {w5 : World} {b : Nat} {c : Cfg} {a1 a2 a3 a4 a5 : Option Addr} {k1 k2 k3 k4 k5 : Nat} {t : TypeId} (h : w5.heap[b]? = some (.cells (cfgCells c ⟨a1, k1, a2, k2, a3, k3, a4, k4, a5, k5⟩) t (0, 0))) :
    (∀ W, Below w5.heap.size w5 W → W.cell? ⟨b, 0, none⟩ = some (.int .u64 c.frame)) ∧ (∀ W, Below w5.heap.size w5 W → W.cell? ⟨b, 1, none⟩ = some (.slice a1 c.parts.length k1)) ∧
    (∀ W, Below w5.heap.size w5 W → W.cell? ⟨b, 2, none⟩ = some (.slice a2 c.wins.length k2)) ∧ (∀ W, Below w5.heap.size w5 W → W.cell? ⟨b, 3, none⟩ = some (.slice a3 c.regs.length k3)) ∧
    (∀ W, Below w5.heap.size w5 W → W.cell? ⟨b, 4, none⟩ = some (.slice a4 c.ports.length k4)) ∧ (∀ W, Below w5.heap.size w5 W → W.cell? ⟨b, 5, none⟩ = some (.slice a5 c.chans.length k5)) :=
  ⟨cells_later h 0 rfl, cells_later h 1 rfl, cells_later h 2 rfl, cells_later h 3 rfl, cells_later h 4 rfl, cells_later h 5 rfl⟩

end Go.Proofs.Ytmoignbaphddeaa
namespace Go.Proofs.Ytmoignbaphddeaa
open Go.RowKit

/-- right windows in a frame -/
structure RightW (c : Cfg) : Prop where
  pos : 0 < c.frame
  apart : Apart c.frame c.wins

theorem last_c (w : World) (lo len : Int) (h0 : 0 ≤ lo) (h1 : 0 < len) (h2 : lo + len ≤ 18446744073709551615) :
    Calls Try.prog 53 #[.agg #[.int .u64 lo, .int .u64 len]] w fun e w' => e = .returned (.int .u64 (lo + (len - 1))) ∧ Below w.heap.size w w' := by
  go_enter Try.func53, Try.ntmps53
  go_wp2
  go_ret
  exact ⟨rfl, below_new _ _⟩
theorem has_c (w : World) (lo len x : Int) (h0 : 0 ≤ lo) (h1 : 0 < len) (h2 : lo + len ≤ 18446744073709551615) :
    Calls Try.prog 34 #[.agg #[.int .u64 lo, .int .u64 len], .int .u64 x] w fun e w' => e = .returned (.bool (decide (lo ≤ x ∧ x ≤ lo + (len - 1)))) ∧ Below w.heap.size w w' := by
  obtain ⟨r, hr⟩ : ∃ r, decide (lo ≤ x ∧ x ≤ lo + (len - 1)) = r := ⟨_, rfl⟩
  rw [hr]
  by_cases hx : lo ≤ x
  · have Hr : Hid (decide (x ≤ lo + (len - 1)) = r) := by show _ = _; rw [← hr]; simp [hx]
    clear hr
    go_enter Try.func34, Try.ntmps34
    go_wp2_with fail
    refine (last_c _ lo len h0 h1 h2).mono ?_
    rintro e w2 ⟨rfl, hb2⟩
    have hbf := bthen (below_new w _) hb2
    clear hb2
    go_wp2
    go_ret
    exact ⟨ret_bool Hr.out, hbf⟩
  · have Hr : Hid (false = r) := by show _ = _; rw [← hr]; simp [hx]
    clear hr
    go_enter Try.func34, Try.ntmps34
    go_wp2
    go_ret
    exact ⟨ret_bool Hr.out, below_new _ _⟩
/-- whether two windows have a tick in common -/
def meets (x y : Win) : Bool := decide (x.start ≤ y.start ∧ y.start ≤ x.start + (x.len - 1)) || decide (y.start ≤ x.start ∧ x.start ≤ y.start + (y.len - 1))
theorem meets_free {x y : Win} (h : meets x y = false) : Free x y := by
  unfold meets at h
  rw [Bool.or_eq_false_iff, decide_eq_false_iff_not, decide_eq_false_iff_not] at h
  unfold Free
  omega
theorem meet_c (w : World) (x y : Win) (h0 : 0 ≤ x.start) (h1 : 0 < x.len) (h2 : x.start + x.len ≤ 18446744073709551615) (g0 : 0 ≤ y.start) (g1 : 0 < y.len) (g2 : y.start + y.len ≤ 18446744073709551615) :
    Calls Try.prog 22 #[.agg #[.int .u64 x.start, .int .u64 x.len], .agg #[.int .u64 y.start, .int .u64 y.len]] w fun e w' => e = .returned (.bool (meets x y)) ∧ Below w.heap.size w w' := by
  obtain ⟨r, hr⟩ : ∃ r, meets x y = r := ⟨_, rfl⟩
  rw [hr]
  have hcall := fun w => has_c w x.start x.len y.start h0 h1 h2
  obtain ⟨d1, hd1⟩ : ∃ d1, decide (x.start ≤ y.start ∧ y.start ≤ x.start + (x.len - 1)) = d1 := ⟨_, rfl⟩
  rw [hd1] at hcall
  unfold meets at hr
  rw [hd1] at hr
  have Hr := hid hr
  have Hcall := hid hcall
  clear hcall hr hd1
  go_enter Try.func22, Try.ntmps22
  go_wp2_with fail
  refine (Hcall.out _).mono ?_
  rintro e w2 ⟨rfl, hb2⟩
  have hbf := bthen ((below_new w _).alloc (by simp) _) hb2
  have hbx := heap_keep (heap_alloc' (heap_new w (.cells #[.int .u64 x.start, .int .u64 x.len] 59)) (.cells #[.int .u64 y.start, .int .u64 y.len] 59)) hb2
  have hby := heap_keep (heap_new (w.alloc (.cells #[.int .u64 x.start, .int .u64 x.len] 59)) (.cells #[.int .u64 y.start, .int .u64 y.len] 59)) hb2
  simp only [World.size_alloc] at hby
  have q0 := cell_of_heap (i := 0) hbx rfl
  have q1 := cell_of_heap (i := 1) hbx rfl
  have r0 := cell_of_heap (i := 0) hby rfl
  have r1 := cell_of_heap (i := 1) hby rfl
  clear hb2 hbx hby Hcall
  cases d1
  · go_wp2_with fail
    refine (has_c _ y.start y.len x.start g0 g1 g2).mono ?_
    rintro e w3 ⟨rfl, hb3⟩
    have hbf := bthen hbf hb3
    clear hb3
    have Hr2 : Hid (decide (y.start ≤ x.start ∧ x.start ≤ y.start + (y.len - 1)) = r) := Hr.out
    obtain ⟨d2, hd2⟩ : ∃ d2, decide (y.start ≤ x.start ∧ x.start ≤ y.start + (y.len - 1)) = d2 := ⟨_, rfl⟩
    rw [hd2] at Hr2 ⊢
    clear hd2
    go_wp2
    go_ret
    exact ⟨ret_bool Hr2.out, hbf⟩
  · have Hr2 : Hid (true = r) := Hr.out
    go_wp2
    go_ret
    exact ⟨ret_bool Hr2.out, hbf⟩

theorem bodyPost_two {fn : Func} {R : Ending → World → Prop} {a : Act} {w : World} {p : Tmp} (hres : fn.results = #[.cell p 59]) (hd : a.defers = []) {b : Nat} (hp : a.tmps.getD p undef = .pointer (some ⟨b, 0, none⟩))
    {x0 x1 : Value} {t : TypeId} {f : Nat × Nat} (hh : w.heap[b]? = some (.cells #[x0, x1] t f)) (hR : R (.returned (.agg #[x0, x1])) w) : bodyPost Try.prog fn R .ret a w := by
  have h0 : w.cell? ⟨b, 0, none⟩ = some x0 := cell_of_heap hh rfl
  have h1 : w.cell? ⟨b, 1, none⟩ = some x1 := cell_of_heap hh rfl
  refine bodyPost_ret (v := .agg #[x0, x1]) ?_ hd hR
  simp only [Array.getD_eq_getD_getElem?] at hp
  simp [results, hres, go_sem, hp, h0, h1]
theorem span_c (w : World) (x : Win) :
    Calls Try.prog 23 #[.agg #[.int .u64 x.start, .int .u64 x.len, .int .u16 x.part]] w fun e w' => e = .returned (.agg #[.int .u64 x.start, .int .u64 x.len]) ∧ Below w.heap.size w w' := by
  go_enter Try.func23, Try.ntmps23
  go_wp2
  refine bodyPost_two rfl rfl rfl (b := w.heap.size + 1) (x0 := .int .u64 x.start) (x1 := .int .u64 x.len) (by repeat (first | (refine heap_at ?_; simp; done) | refine heap_alloc' ?_ _)) ⟨rfl, (below_new _ _).alloc (by simp) _⟩
end Go.Proofs.Ytmoignbaphddeaa
namespace Go.Proofs.Ytmoignbaphddeaa
open Go.RowKit

section
variable {κ β : Type} (encK : κ → Value) (encV : β → Value)
def MapAt (w : World) (r : Nat) (l : List (κ × β)) : Prop :=
  ∃ es clk, w.heap[r]? = some (.map es clk) ∧ es.toList.map (fun e => (e.key, e.val)) = l.map (fun p => (encK p.1, encV p.2))
variable {encK encV}
theorem MapAt.new (w : World) : MapAt encK encV (w.alloc (.map #[] 0)) w.heap.size ([] : List (κ × β)) :=
  ⟨#[], 0, heap_new _ _, by simp⟩
theorem MapAt.kept {w w' : World} {r : Nat} {l : List (κ × β)} (h : MapAt encK encV w r l) (he : w'.heap[r]? = w.heap[r]?) : MapAt encK encV w' r l := by
  obtain ⟨es, clk, hh, hl⟩ := h
  exact ⟨es, clk, he.trans hh, hl⟩
theorem MapAt.lt {w : World} {r : Nat} {l : List (κ × β)} (h : MapAt encK encV w r l) : r < w.heap.size := by
  obtain ⟨es, clk, hh, _⟩ := h
  exact lt_of_block hh
theorem MapAt.shape {w : World} {r : Nat} {l : List (κ × β)} (h : MapAt encK encV w r l) : w.shape? r = none := by
  obtain ⟨es, clk, hh, _⟩ := h
  simp [World.shape?, hh]
theorem MapAt.below {w w' : World} {r : Nat} {l : List (κ × β)} (h : MapAt encK encV w r l) (hb : Below w.heap.size w w') : MapAt encK encV w' r l := h.kept (hb.block r h.lt)
theorem MapAt.grown {w w' : World} {r r' : Nat} {l : List (κ × β)} (h : MapAt encK encV w r l) (hg : w.grownBy w' (some r')) (hne : r ≠ r') : MapAt encK encV w' r l := h.kept (hg.block r h.lt (by simp [hne]))
theorem MapAt.size {w : World} {r : Nat} {l : List (κ × β)} (h : MapAt encK encV w r l) : ∃ es clk, w.heap[r]? = some (.map es clk) ∧ es.size = l.length := by
  obtain ⟨es, clk, hh, hl⟩ := h
  exact ⟨es, clk, hh, by have := congrArg List.length hl; simpa using this⟩
theorem MapAt.len {P : Program} {K T E : TypeId} {w : World} {r : Nat} {l : List (κ × β)} (h : MapAt encK encV w r l) (hT : P.underlying T = some (.map K E)) (ty : TypeId) :
    (Builtin.len_ #[T] ty #[.map (some r)]).run P w = .ok (.int .i64 l.length) w := by
  obtain ⟨es, clk, hh, hs⟩ := h.size
  have hg : (getObj r).run P w = .ok (.map es clk) w := by simp [getObj, Sem.run, hh]
  unfold Builtin.len_
  simp [Sem.run_bind, run_underlying hT, hg, goInt, hs]
end

section
variable {κ β : Type} [DecidableEq κ] (encK : κ → Value) (encV : β → Value)

/-- what is noted of a key -/
def look (k : κ) : List (κ × β) → Option β
  | [] => none
  | p :: l => if k = p.1 then some p.2 else look k l

/-- a key is noted if it is new -/
def addKey (l : List (κ × β)) (k : κ) (v : β) : List (κ × β) := if (look k l).isNone then l ++ [(k, v)] else l
theorem addKey_none {l : List (κ × β)} {k : κ} (h : look k l = none) (v : β) : addKey l k v = l ++ [(k, v)] := by simp [addKey, h]
theorem addKey_some {l : List (κ × β)} {k : κ} {x : β} (h : look k l = some x) (v : β) : addKey l k v = l := by simp [addKey, h]

/-- the keys of the first n records, each with the index of the first record that has it -/
def fm (ks : List κ) : Nat → List (κ × Int)
  | 0 => []
  | n + 1 => match ks[n]? with
    | none => fm ks n
    | some k => addKey (fm ks n) k n
/-- the first of the first n records whose key occurs before it, or -1 -/
def fd (ks : List κ) : Nat → Int
  | 0 => -1
  | n + 1 => match ks[n]? with
    | none => fd ks n
    | some k => if (look k (fm ks n)).isSome ∧ fd ks n < 0 then n else fd ks n
theorem fm_succ {ks : List κ} {n : Nat} {x : κ} (h : ks[n]? = some x) : fm ks (n + 1) = addKey (fm ks n) x n := by
  simp [fm, h]
theorem fd_succ_new {ks : List κ} {n : Nat} {x : κ} (h : ks[n]? = some x) (hl : look x (fm ks n) = none) : fd ks (n + 1) = fd ks n := by
  simp [fd, h, hl]
theorem fd_succ_old {ks : List κ} {n : Nat} {x : κ} (h : ks[n]? = some x) (hf : 0 ≤ fd ks n) : fd ks (n + 1) = fd ks n := by
  simp [fd, h]
  intro _ h2
  omega
theorem fd_succ_first {ks : List κ} {n : Nat} {x : κ} (h : ks[n]? = some x) {y : Int} (hl : look x (fm ks n) = some y) (hf : fd ks n < 0) : fd ks (n + 1) = n := by
  simp [fd, h, hl, hf]
theorem fd_range (ks : List κ) : ∀ n, -1 ≤ fd ks n ∧ fd ks n < n
  | 0 => by simp [fd]
  | n + 1 => by
    have := fd_range ks n
    unfold fd
    split
    · omega
    · split <;> omega

theorem look_append (k : κ) (l r : List (κ × β)) : look k (l ++ r) = (look k l).orElse fun _ => look k r := by
  induction l with
  | nil => simp [look]
  | cons p l ih => simp only [List.cons_append, look]; split <;> simp_all

/-- the place of a key -/
def place (k : κ) : List (κ × β) → Nat → Option (Nat × β)
  | [], _ => none
  | p :: l, i => if k = p.1 then some (i, p.2) else place k l (i + 1)

theorem place_lookup (k : κ) (l : List (κ × β)) : ∀ i, (place k l i).map (·.2) = look k l := by
  induction l with
  | nil => intro i; rfl
  | cons p l ih =>
    intro i
    simp only [place, look]
    split <;> simp_all

structure KeyLaw (P : Program) (K : TypeId) (ok : κ → Prop) : Prop where
  check : ∀ em k w, ok k → (Instr.checkKey em 10000 K (encK k)).run P w = .ok () w
  find : ∀ k (l : List (κ × β)) (es : List MapEntry) w, ok k → (∀ p ∈ l, ok p.1) → es.map (fun e => (e.key, e.val)) = l.map (fun p => (encK p.1, encV p.2)) →
    (Instr.findKey K (encK k) es).run P w = .ok ((place k l 0).map fun p => (p.1, encV p.2)) w

variable {encK encV} {P : Program} {K : TypeId} {ok : κ → Prop} {T E : TypeId}

theorem MapAt.lookup (L : KeyLaw encK encV P K ok) (hT : P.underlying T = some (.map K E)) {w : World} {r : Nat} {l : List (κ × β)} (h : MapAt encK encV w r l) (hl : ∀ p ∈ l, ok p.1) {k : κ} (hk : ok k)
    {z : Value} (hz : (zeroValue E).run P w = .ok z w) (c : Bool) :
    (Instr.lookup T (.map (some r)) (encK k) c).run P w = .ok (if c then .tuple #[((look k l).map encV).getD z, .bool (look k l).isSome] else ((look k l).map encV).getD z) w := by
  obtain ⟨es, clk, hh, he⟩ := h
  have hf := L.find k l es.toList w hk hl he
  unfold Instr.lookup
  have hg : (getObj r).run P w = .ok (.map es clk) w := by simp [getObj, Sem.run, hh]
  simp only [Sem.run_bind, run_underlying hT, Result.andThen_ok, hg, Sem.run_pure, L.check _ k w hk, hf, ← place_lookup k l 0]
  cases place k l 0 with
  | none =>
    cases c <;> simp [hz]
  | some p =>
    cases c <;> simp

theorem MapAt.lookup_nil (hT : P.underlying T = some (.map K E)) (L : KeyLaw encK encV P K ok) {w : World} {k : κ} (hk : ok k)
    {z : Value} (hz : (zeroValue E).run P w = .ok z w) (c : Bool) :
    (Instr.lookup T (.map none) (encK k) c).run P w = .ok (if c then .tuple #[z, .bool false] else z) w := by
  have hf := L.find k [] [] w hk (by simp) rfl
  unfold Instr.lookup
  have hf' : (Instr.findKey K (encK k) (#[] : Array MapEntry).toList).run P w = .ok none w := by simpa [place] using hf
  simp only [Sem.run_bind, run_underlying hT, Result.andThen_ok, Sem.run_pure, L.check _ k w hk, hf']
  cases c <;> simp [hz]

theorem MapAt.put (L : KeyLaw encK encV P K ok) (hT : P.underlying T = some (.map K E)) {w : World} {r : Nat} {l : List (κ × β)} (h : MapAt encK encV w r l) (hl : ∀ p ∈ l, ok p.1) {k : κ} (hk : ok k)
    (hn : look k l = none) (v : β) :
    ∃ w', (Instr.mapUpdate T (.map (some r)) (encK k) (encV v)).run P w = .ok () w' ∧ MapAt encK encV w' r (l ++ [(k, v)]) ∧ w.grownBy w' (some r) ∧ w'.heap.size = w.heap.size := by
  obtain ⟨es, clk, hh, he⟩ := h
  have hf := L.find k l es.toList w hk hl he
  have hp : place k l 0 = none := by
    have := place_lookup k l 0
    rw [hn] at this
    cases hpl : place k l 0 with
    | none => rfl
    | some p => rw [hpl] at this; cases this
  rw [hp] at hf
  have hlt : r < w.heap.size := lt_of_block hh
  have hg : (getObj r).run P w = .ok (.map es clk) w := by simp [getObj, Sem.run, hh]
  refine ⟨{ w with heap := w.heap.setIfInBounds r (.map (es.push { key := encK k, val := encV v, born := clk }) (clk + 1)) }, ?_, ?_, ?_, ?_⟩
  · unfold Instr.mapUpdate
    simp only [Sem.run_bind, run_underlying hT, Result.andThen_ok, hg, L.check _ k w hk, hf, Option.map_none]
    simp [setObj, Sem.run, hh]
  · refine ⟨es.push { key := encK k, val := encV v, born := clk }, clk + 1, ?_, ?_⟩
    · simp [hlt]
    · simp [he]
  · refine ⟨rfl, rfl, rfl, by simp, fun j hj hne => ?_⟩
    have : r ≠ j := fun e => hne (by rw [e])
    simp [Array.getElem?_setIfInBounds_ne this]
  · simp

end

/-! ### the kinds of keys -/
section
variable {P : Program} {K : TypeId} {β : Type} {encV : β → Value}

theorem findNow_int (q : IntKind) (k : Int) (es : List MapEntry) : ∀ (l : List (Int × β)) (i : Nat), es.map (fun e => (e.key, e.val)) = l.map (fun p => (Value.int q p.1, encV p.2)) →
    Instr.findNow (.int q) (.int q k) es i = some ((place k l i).map fun p => (p.1, encV p.2)) := by
  induction es with
  | nil => intro l i h; cases l <;> simp_all [Instr.findNow, place]
  | cons e es ih =>
    intro l i h
    cases l with
    | nil => simp at h
    | cons p l =>
      simp only [List.map_cons, List.cons.injEq, Prod.mk.injEq] at h
      obtain ⟨⟨h1, h2⟩, h3⟩ := h
      simp only [Instr.findNow, h1, Instr.sameNow, if_true, place]
      by_cases hk : k = p.1
      · simp [hk, h2]
      · have : (k == p.1) = false := by simpa using hk
        simp [this, hk, ih l (i + 1) h3]

theorem int_law (q : IntKind) (hK : P.underlying K = some (.int q)) : KeyLaw (Value.int q) encV P K (fun _ => True) where
  check := by
    intro em k w _
    unfold Instr.checkKey
    simp [Sem.run_bind, run_underlying hK]
  find := by
    intro k l es w _ _ h
    unfold Instr.findKey
    simp [Sem.run_bind, run_underlying hK, findNow_int q k es l 0 h]

theorem bytes_beq_self (a : ByteArray) : (a == a) = true := by
  rw [beq_toListBytes]; simp
theorem bytes_eq_of_beq {a b : ByteArray} (h : (a == b) = true) : a = b := by
  rw [beq_toListBytes] at h
  have h1 : a.toList = b.toList := by simpa using h
  rw [ByteArray.toList_eq, ByteArray.toList_eq] at h1
  obtain ⟨x⟩ := a
  obtain ⟨y⟩ := b
  simp only at h1
  rw [Array.toList_inj.1 h1]

theorem bytes_ne {a b : ByteArray} (h : a ≠ b) : (a == b) = false := by
  cases hb : a == b with
  | false => rfl
  | true => exact absurd (bytes_eq_of_beq hb) h

theorem findNow_str (k : ByteArray) (es : List MapEntry) : ∀ (l : List (ByteArray × β)) (i : Nat), es.map (fun e => (e.key, e.val)) = l.map (fun p => (Value.string p.1, encV p.2)) →
    Instr.findNow .string (.string k) es i = some ((place k l i).map fun p => (p.1, encV p.2)) := by
  induction es with
  | nil => intro l i h; cases l <;> simp_all [Instr.findNow, place]
  | cons e es ih =>
    intro l i h
    cases l with
    | nil => simp at h
    | cons p l =>
      simp only [List.map_cons, List.cons.injEq, Prod.mk.injEq] at h
      obtain ⟨⟨h1, h2⟩, h3⟩ := h
      simp only [Instr.findNow, h1, Instr.sameNow, place]
      by_cases hk : k = p.1
      · have : (k == p.1) = true := by rw [hk]; exact bytes_beq_self _
        rw [this]
        simp [hk, h2]
      · have : (k == p.1) = false := by
          cases hb : k == p.1 with
          | false => rfl
          | true => exact absurd (bytes_eq_of_beq hb) hk
        simp [this, hk, ih l (i + 1) h3]

theorem str_law (hK : P.underlying K = some .string) : KeyLaw Value.string encV P K (fun _ => True) where
  check := by
    intro em k w _
    unfold Instr.checkKey
    simp [Sem.run_bind, run_underlying hK]
  find := by
    intro k l es w _ _ h
    unfold Instr.findKey
    simp [Sem.run_bind, run_underlying hK, findNow_str k es l 0 h]
end
end Go.Proofs.Ytmoignbaphddeaa
namespace Go.Proofs.Ytmoignbaphddeaa

section
variable {κ : Type}
/-- all keys are different below n -/
def Diff (ks : List κ) (n : Nat) : Prop := ∀ i, i < n → ∀ j, j < i → ks[j]? ≠ ks[i]?
theorem Diff.zero (ks : List κ) : Diff ks 0 := fun i hi => by omega
theorem Diff.succ {ks : List κ} {n : Nat} (h : Diff ks n) (hn : ∀ j, j < n → ks[j]? ≠ ks[n]?) : Diff ks (n + 1) := by
  intro i hi j hj
  rcases Nat.lt_succ_iff_lt_or_eq.1 hi with h' | rfl
  · exact h i h' j hj
  · exact hn j hj
theorem Diff.of_succ {ks : List κ} {n : Nat} (h : Diff ks (n + 1)) : Diff ks n := fun i hi j hj => h i (by omega) j hj

end

section
variable {κ : Type} [DecidableEq κ]

/-- the first place of a key, or -1 -/
def ixOf (ks : List κ) (k : κ) : Int := match ks.findIdx? (fun x => decide (x = k)) with
  | some i => i
  | none => -1

theorem ixOf_at {ks : List κ} {k : κ} {n : Nat} (h : ks[n]? = some k) (hb : ∀ j, j < n → ks[j]? ≠ some k) : ixOf ks k = n := by
  have hn : n < ks.length := (List.getElem?_eq_some_iff.1 h).1
  have : ks.findIdx? (fun x => decide (x = k)) = some n := by
    rw [List.findIdx?_eq_some_iff_getElem]
    refine ⟨hn, by simpa using (List.getElem?_eq_some_iff.1 h).2, fun j hj => ?_⟩
    have := hb j hj
    rw [List.getElem?_eq_getElem (by omega)] at this
    simpa using this
  simp [ixOf, this]
theorem ixOf_no {ks : List κ} {k : κ} (h : ∀ j, j < ks.length → ks[j]? ≠ some k) : ixOf ks k = -1 := by
  have : ks.findIdx? (fun x => decide (x = k)) = none := by
    rw [List.findIdx?_eq_none_iff]
    intro x hx
    obtain ⟨j, hj, rfl⟩ := List.getElem_of_mem hx
    have := h j hj
    rw [List.getElem?_eq_getElem hj] at this
    simpa using this
  simp [ixOf, this]
/-- a key is nowhere, or at its first place -/
theorem ixOf_cases (ks : List κ) (k : κ) : (ixOf ks k = -1 ∧ k ∉ ks) ∨ ∃ n : Nat, ixOf ks k = n ∧ ks[n]? = some k ∧ ∀ j, j < n → ks[j]? ≠ some k := by
  cases h : ks.findIdx? (fun x => decide (x = k)) with
  | none =>
    refine .inl ⟨by simp [ixOf, h], fun hm => ?_⟩
    rw [List.findIdx?_eq_none_iff] at h
    simpa using h k hm
  | some n =>
    refine .inr ⟨n, by simp [ixOf, h], ?_⟩
    rw [List.findIdx?_eq_some_iff_getElem] at h
    obtain ⟨hn, h1, h2⟩ := h
    refine ⟨by rw [List.getElem?_eq_getElem hn]; simpa using h1, fun j hj => ?_⟩
    have := h2 j hj
    rw [List.getElem?_eq_getElem (by omega)]
    simpa using this
theorem ixOf_range (ks : List κ) (k : κ) : -1 ≤ ixOf ks k ∧ ixOf ks k < ks.length := by
  rcases ixOf_cases ks k with ⟨h, _⟩ | ⟨n, h, h1, _⟩
  · rw [h]; omega
  · have := (List.getElem?_eq_some_iff.1 h1).1
    rw [h]; omega

theorem fm_tells (ks : List κ) (k : κ) : ∀ n, n ≤ ks.length → (look k (fm ks n) = none ∧ ∀ j, j < n → ks[j]? ≠ some k) ∨ (∃ i : Nat, look k (fm ks n) = some (i : Int) ∧ i < n ∧ ks[i]? = some k ∧ ∀ j, j < i → ks[j]? ≠ some k)
  | 0, _ => .inl ⟨rfl, fun j hj => by omega⟩
  | n + 1, hn => by
    have hx : ks[n]? = some ks[n] := List.getElem?_eq_getElem (by omega)
    rw [fm_succ hx]
    rcases fm_tells ks k n (by omega) with ⟨h1, h2⟩ | ⟨i, h1, h2, h3, h4⟩
    · by_cases hk : ks[n] = k
      · refine .inr ⟨n, ?_, by omega, by rw [hx, hk], h2⟩
        rw [hk, addKey_none h1, look_append, h1]
        simp [Option.orElse, look]
      · refine .inl ⟨?_, fun j hj => ?_⟩
        · unfold addKey
          split
          · rw [look_append, h1]
            have hk' : ¬ k = ks[n] := fun h => hk h.symm
            simp [Option.orElse, look, hk']
          · exact h1
        · rcases Nat.lt_succ_iff_lt_or_eq.1 hj with h | rfl
          · exact h2 j h
          · rw [hx]; simpa using hk
    · refine .inr ⟨i, ?_, by omega, h3, h4⟩
      unfold addKey
      split
      · rw [look_append, h1]; rfl
      · exact h1
theorem look_fm (ks : List κ) (k : κ) {n : Nat} (hn : n = ks.length) : (look k (fm ks n)).getD (-1) = ixOf ks k := by
  rcases fm_tells ks k n (by omega) with ⟨h1, h2⟩ | ⟨i, h1, h2, h3, h4⟩
  · rw [h1, ixOf_no (by rw [← hn]; exact h2)]; rfl
  · rw [h1, ixOf_at h3 h4]; rfl

theorem fd_tells (ks : List κ) : ∀ n, n ≤ ks.length → (fd ks n = -1 ∧ Diff ks n) ∨ (∃ i : Nat, fd ks n = i ∧ i < n ∧ Diff ks i ∧ ∃ j, j < i ∧ ks[j]? = ks[i]?)
  | 0, _ => .inl ⟨rfl, Diff.zero _⟩
  | n + 1, hn => by
    have hx : ks[n]? = some ks[n] := List.getElem?_eq_getElem (by omega)
    rcases fd_tells ks n (by omega) with ⟨h1, h2⟩ | ⟨i, h1, h2, h3, h4⟩
    · rcases fm_tells ks ks[n] n (by omega) with ⟨g1, g2⟩ | ⟨i, g1, g2, g3, g4⟩
      · exact .inl ⟨by rw [fd_succ_new hx g1, h1], h2.succ (by rw [hx]; exact g2)⟩
      · exact .inr ⟨n, fd_succ_first hx g1 (by omega), by omega, h2, i, g2, by rw [hx, g3]⟩
    · exact .inr ⟨i, by rw [fd_succ_old hx (by omega), h1], by omega, h3, h4⟩
theorem fd_at {ks : List κ} {n : Nat} (hn : n < ks.length) (hd : Diff ks n) {j : Nat} (hj : j < n) (he : ks[j]? = ks[n]?) : fd ks ks.length = n := by
  rcases fd_tells ks ks.length (Nat.le_refl _) with ⟨_, h2⟩ | ⟨i, h1, h2, h3, j', h4, h5⟩
  · exact absurd he (h2 n hn j hj)
  · rw [h1]
    have : i = n := by
      rcases Nat.lt_trichotomy i n with h | h | h
      · exact absurd h5 (hd i h j' h4)
      · exact h
      · exact absurd he (h3 n h j hj)
    rw [this]
theorem fd_no {ks : List κ} (hd : Diff ks ks.length) : fd ks ks.length = -1 := by
  rcases fd_tells ks ks.length (Nat.le_refl _) with ⟨h, _⟩ | ⟨i, _, h2, _, j, h4, h5⟩
  · exact h
  · exact absurd h5 (hd i h2 j h4)
end
end Go.Proofs.Ytmoignbaphddeaa
namespace Go.Proofs.Ytmoignbaphddeaa
open Go.RowKit

theorem refPartition_c (w : World) (c : Cfg) (A : Adr) (hc : CfgAt w c A) (id : Int) :
    Calls Try.prog 21 #[cfgVal c A, .int .u16 id] w fun e w' => e = .returned (.int .i64 (ixOf (c.parts.map (·.id)) id)) ∧ Below w.heap.size w w' := by
  obtain ⟨a1, k1, a2, k2, a3, k3, a4, k4, a5, k5⟩ := A
  have hn := hc.ok.nparts
  obtain ⟨r, hr⟩ : ∃ r, ixOf (c.parts.map (·.id)) id = r := ⟨_, rfl⟩
  rw [hr]
  have Hr := hid hr
  clear hr
  simp only [cfgVal, cfgCells]
  go_enter Try.func21, Try.ntmps21
  go_wp2
  refine wp_name (fun W => Below w.heap.size w W ∧ W.heap[w.heap.size]? = some (.cells (cfgCells c ⟨a1, k1, a2, k2, a3, k3, a4, k4, a5, k5⟩) 29 (0, 0))) ⟨below_new _ _, heap_new _ _⟩ ?_
  rintro w1 ⟨hb1, hbox⟩
  have hrow := (hc.below hb1).parts
  have hb := (box_cfg hbox).2.1
  simp only at hb hrow
  clear hbox hc
  go_loop [5] (fun i => ∃ k : Nat, k ≤ c.parts.length ∧ i = .int .i64 k ∧ Hid (∀ j, j < k → (c.parts.map (·.id))[j]? ≠ some id)) (fun i => c.parts.length - (intOf i).toNat)
  case atStart => exact ⟨0, Nat.zero_le _, rfl, fun j hj => by omega⟩
  case round =>
    obtain ⟨k, hkn, rfl, Hk⟩ := hrel
    by_cases hlt : k < c.parts.length
    · obtain ⟨b, o, rfl, hb0, h0, h1, h2, h3⟩ := hrow.part hlt
      clear hrow
      have hkk : (c.parts.map (·.id))[k]? = some c.parts[k].id := by simp [hlt]
      have Hkk := hid hkk
      clear hkk
      by_cases he : c.parts[k].id = id
      · have hbe : (c.parts[k].id == id) = true := by simpa using he
        have hfin : Hid (ixOf (c.parts.map (·.id)) id = k) := ixOf_at (by rw [Hkk.out, he]) Hk.out
        clear he
        go_wp2
        go_ret
        exact ⟨ret_int (hfin.out.symm.trans Hr.out), hb1⟩
      · have hbe : (c.parts[k].id == id) = false := by simpa using he
        have hnext : Hid (∀ j, j < k + 1 → (c.parts.map (·.id))[j]? ≠ some id) := by
          intro j hj
          rcases Nat.lt_succ_iff_lt_or_eq.1 hj with h | rfl
          · exact Hk.out j h
          · rw [Hkk.out]; simpa using he
        clear he
        go_wp2
        go_round
        case rel => exact ⟨k + 1, by omega, by go_num, hnext⟩
        case measure => simp [intOf]; omega
    · have hke : k = c.parts.length := by omega
      have hfin : Hid (ixOf (c.parts.map (·.id)) id = -1) := ixOf_no (fun j hj => Hk.out j (by simp at hj; omega))
      clear hke
      go_wp2
      go_ret
      exact ⟨ret_int (hfin.out.symm.trans Hr.out), hb1⟩






end Go.Proofs.Ytmoignbaphddeaa
namespace Go.Proofs.Ytmoignbaphddeaa
open Go.RowKit

/-- nothing below B matters but what lies there -/
def AbB {β : Type} (B : Nat) (J : β → World → Prop) : Prop := ∀ s W W', J s W → Below B W W' → J s W'

/-- the iterator's contract: it may do as it likes with blocks laid since it began; a round keeps what Kp says -/
def SeqB {α : Type} (F : Fence) (n : Nat) (P : Program) (g : Nat) (lb : Array Value) (encs : α → Array Value) (Kp : Nat → World → World → Prop) (S Sp : List α → Prop) (w : World) : Prop :=
  ∀ (l : Nat) (J Jx : List α → World → Prop) (W : World), w.heap.size ≤ l → l < W.heap.size → Below w.heap.size w W → AbB W.heap.size J → AbB W.heap.size Jx →
    (∀ pre x W1, J pre W1 → YieldAt F (n - 1) P l (encs x) W1 fun e W' =>
      (e = .returned (.bool true) ∧ J (pre ++ [x]) W' ∧ Kp l W1 W') ∨ (e = .returned (.bool false) ∧ Jx (pre ++ [x]) W' ∧ Kp l W1 W')) →
    J [] W →
    CallsIn F n P g (#[.func (.yield l) #[] #[]] ++ lb) W fun e W' => (∃ v, e = .returned v) ∧ ((∃ xs, S xs ∧ J xs W') ∨ (∃ pre, Sp pre ∧ Jx pre W'))

/-- how a round's body may be left -/
def postB {α : Type} (Kp : World → World → Prop) (I : List α → World → Prop) (Ix : Code → List α → World → Prop) (xs : List α) (W : World) : Exit → Act → World → Prop
  | .normal, _, W' => KeepsOthers W W' ∧ Kp W W' ∧ I xs W'
  | .ret, _, W' => KeepsOthers W W' ∧ Kp W W' ∧ Ix .ret xs W'
  | .exit id, _, W' => KeepsOthers W W' ∧ Kp W W' ∧ Ix (.exit id) xs W'
  | .goto t, _, W' => KeepsOthers W W' ∧ Kp W W' ∧ Ix (.goto t) xs W'
  | .panic _, _, _ => False
  | .outgrown, _, _ => False

section
variable {F : Fence} {n : Nat} {P : Program}
theorem wpIn_rangeB {α : Type} {g : Operand} {ps : Array Tmp} {assign body : Code} {Q : Exit → Act → World → Prop} {a : Act} {w : World}
    (hro : F.round = none) (h1 : 1 ≤ n) {gf : Nat} {lb : Array Value} (hg : a.eval g = .func (.func gf) #[] lb) (hFg : F.fn gf) (eg : ∀ args w, (callFunc gf args).run P w = .ok (.enter gf args) w)
    {encs : α → Array Value} {Kp : Nat → World → World → Prop} {S Sp : List α → Prop} {w0 : World} (hseq : SeqB F (n - 1) P gf lb encs Kp S Sp w0)
    (hKt : ∀ {A B C : World}, Kp (w.heap.size + 1) A B → Kp (w.heap.size + 1) B C → Kp (w.heap.size + 1) A C) (hKb : ∀ (W : World) (o' : Obj), Kp (w.heap.size + 1) W (W.putObj (w.heap.size + 1) o')) (hb0 : Below w0.heap.size w0 w) (hps : ∀ x, (encs x).size = ps.size)
    (I : List α → World → Prop) (Ix : Code → List α → World → Prop) (hI : OwnFrom w.heap.size I) (hIx : ∀ c, OwnFrom w.heap.size (Ix c)) (hIB : AbB (w.heap.size + 2) I) (hIxB : ∀ c, AbB (w.heap.size + 2) (Ix c)) (h0 : I [] w) (a₁ : α → Act)
    (hassign : ∀ (l : Nat) (x : α) (W : World) (K : Act → World → Prop), K (a₁ x) W →
      assign.wpIn (F.inRound l) (n - 1 - 1) P (Exit.then K (fun _ _ _ => False)) { tmps := (ps.zip (encs x)).foldl (fun t (p, v) => t.setIfInBounds p v) a.tmps, defers := [] } W)
    (hbody : ∀ (l : Nat) (pre : List α) (x : α) (W : World), w.heap.size + 2 ≤ W.heap.size → I pre W → body.wpIn (F.inRound l) (n - 1 - 1) P (postB (Kp (w.heap.size + 1)) I Ix (pre ++ [x]) W) (a₁ x) W)
    (hdone : ∀ (D : Nat) (xs : List α) (W : World), w.heap.size ≤ D → S xs → I xs W → W.heap[D]? = some (.deferred (some [])) → Q .normal { a with defers := { target := .collected D, args := #[] } :: a.defers } W)
    (hstop : ∀ (D : Nat) (c : Code) (pre : List α) (W : World), w.heap.size ≤ D → Sp pre → Ix c pre W → W.heap[D]? = some (.deferred (some [])) → c.wpIn F n P Q { a with defers := { target := .collected D, args := #[] } :: a.defers } W) :
    (Code.rangeFunc g ps assign body).wpIn F n P Q a w := by
  refine wpIn_rangeFunc ?_
  intro fn hfn
  rw [hro]
  obtain ⟨rec, hrec⟩ : ∃ rec : LoopState → Option Code → Loop, rec = fun st pe => { state := st, pending := pe, fn, tmps := a.tmps, params := ps, assign, body, defers := w.heap.size } := ⟨_, rfl⟩
  obtain ⟨W1, hW1⟩ : ∃ W1, (w.alloc (.deferred (some []))).alloc (.loop (rec .ready none)) = W1 := ⟨_, rfl⟩
  have hL1 : W1.heap[w.heap.size + 1]? = some (.loop (rec .ready none)) := by
    rw [← hW1]; have := World.alloc_heap_new (w.alloc (.deferred (some []))) (.loop (rec .ready none)); rwa [World.size_alloc] at this
  have hK1 : W1.heap[w.heap.size]? = some (.deferred (some [])) := by
    rw [← hW1]; exact (Below.heap_alloc _ _ _ (by simp)).trans (World.alloc_heap_new w _)
  have hs1 : W1.heap.size = w.heap.size + 2 := by rw [← hW1]; simp
  have hI1 : I [] W1 := by rw [← hW1]; exact hI.alloc _ (hI.alloc _ h0)
  have hb1 : Below w0.heap.size w0 W1 := by
    rw [← hW1]; exact hb0.trans ((((Below.refl _ w).alloc (Nat.le_refl _) _).alloc (by simp) _).mono hb0.size)
  refine ⟨w.heap.size + 1, [{ target := .collected w.heap.size, args := #[] }], W1, { target := .fn (.func gf) lb, args := #[.func (.yield (w.heap.size + 1)) #[] #[]] }, W1, gf,
    #[.func (.yield (w.heap.size + 1)) #[] #[]] ++ lb, W1, ?_, ?_, ?_, ?_, fun _ => h1, ?_⟩
  · rw [← hW1, hrec]; exact run_enterLoop_outer _ _ _ _ _
  · simp only [resolve, hg]
    simp [go_sem]
  · intro f' hf'; simp [Target.leads] at hf'; subst hf'; exact hFg
  · simp [invoke, go_sem, eg]
  · refine (hseq (w.heap.size + 1)
      (fun pre W => I pre W ∧ W.heap[w.heap.size + 1]? = some (.loop (rec .ready none)) ∧ W.heap[w.heap.size]? = some (.deferred (some [])))
      (fun pre W => ∃ c, Ix c pre W ∧ W.heap[w.heap.size + 1]? = some (.loop (rec .done (some c))) ∧ W.heap[w.heap.size]? = some (.deferred (some [])))
      W1 (by have := hb0.size; omega) (by omega) hb1
      (fun s A B hs hg' => ⟨hIB s A B hs.1 (by rw [← hs1]; exact hg'), (hg'.block _ (by omega)).trans hs.2.1, (hg'.block _ (by omega)).trans hs.2.2⟩)
      (fun s A B hs hg' => by
        obtain ⟨c, hc, hl, hk⟩ := hs
        exact ⟨c, hIxB c s A B hc (by rw [← hs1]; exact hg'), (hg'.block _ (by omega)).trans hl, (hg'.block _ (by omega)).trans hk⟩)
      ?_ ⟨hI1, hL1, hK1⟩).mono ?_
    · rintro pre x W ⟨hi, hl, hk⟩
      have hlt : w.heap.size + 1 < W.heap.size := (Array.getElem?_eq_some_iff.1 hl).1
      have hy := run_yield (P := P) (args := encs x) hl (by rw [hrec]; exact hps x)
      rw [hrec] at hy
      refine ⟨fn, _, assign, body, hy, roundIn_of_wpIn hfn (hassign _ x W _ ⟨_, run_beginRound hl (by rw [hrec]), ?_⟩)⟩
      obtain ⟨busy, hbusy⟩ : ∃ o : Loop, o = { rec .ready none with state := .busy } := ⟨_, rfl⟩
      rw [← hbusy]
      have hl2 : (W.putObj (w.heap.size + 1) (.loop busy)).heap[w.heap.size + 1]? = some (.loop busy) := World.putObj_heap_same hlt
      have hk2 : (W.putObj (w.heap.size + 1) (.loop busy)).heap[w.heap.size]? = some (.deferred (some [])) := (World.putObj_heap_other (by omega)).trans hk
      have hw2 : Kp (w.heap.size + 1) W (W.putObj (w.heap.size + 1) (.loop busy)) := hKb _ _
      refine wpIn_mono (hbody _ pre x _ (by simp; omega) (hI.putObj _ hi (by omega) hl rfl)) ?_
      have fin : ∀ (jump : Option Code) (W3 : World), KeepsOthers (W.putObj (w.heap.size + 1) (.loop busy)) W3 →
          (Instr.endRound (w.heap.size + 1) jump).run P W3 = .ok (.bool jump.isNone) (W3.putObj (w.heap.size + 1) (.loop (rec (if jump.isNone then .ready else .done) jump))) ∧
          W3.heap[w.heap.size + 1]? = some (.loop busy) ∧
          (W3.putObj (w.heap.size + 1) (.loop (rec (if jump.isNone then .ready else .done) jump))).heap[w.heap.size + 1]? = some (.loop (rec (if jump.isNone then .ready else .done) jump)) ∧
          (W3.putObj (w.heap.size + 1) (.loop (rec (if jump.isNone then .ready else .done) jump))).heap[w.heap.size]? = some (.deferred (some [])) := fun jump W3 hk3 => by
        have hl3 := hk3.same _ _ hl2 rfl
        have hr := run_endRound (P := P) jump hl3
        rw [hbusy, hrec] at hr
        rw [hrec]
        exact ⟨hr, hl3, World.putObj_heap_same (Array.getElem?_eq_some_iff.1 hl3).1, (World.putObj_heap_other (by omega)).trans (hk3.same _ _ hk2 rfl)⟩
      rintro e a3 W3 hp
      cases e with
      | normal =>
        obtain ⟨hk3, hkp3, hi3⟩ := hp
        obtain ⟨hr, hl3, hl4, hk4⟩ := fin none W3 hk3
        exact ⟨_, _, hr, .inl ⟨rfl, ⟨hI.putObj _ hi3 (by omega) hl3 rfl, hl4, hk4⟩, hKt (hKt hw2 hkp3) (hKb _ _)⟩⟩
      | ret =>
        obtain ⟨hk3, hkp3, hi3⟩ := hp
        obtain ⟨hr, hl3, hl4, hk4⟩ := fin (some .ret) W3 hk3
        exact ⟨_, _, hr, .inr ⟨rfl, ⟨.ret, (hIx _).putObj _ hi3 (by omega) hl3 rfl, hl4, hk4⟩, hKt (hKt hw2 hkp3) (hKb _ _)⟩⟩
      | exit id =>
        obtain ⟨hk3, hkp3, hi3⟩ := hp
        obtain ⟨hr, hl3, hl4, hk4⟩ := fin (some (.exit id)) W3 hk3
        exact ⟨_, _, hr, .inr ⟨rfl, ⟨.exit id, (hIx _).putObj _ hi3 (by omega) hl3 rfl, hl4, hk4⟩, hKt (hKt hw2 hkp3) (hKb _ _)⟩⟩
      | goto t =>
        obtain ⟨hk3, hkp3, hi3⟩ := hp
        obtain ⟨hr, hl3, hl4, hk4⟩ := fin (some (.goto t)) W3 hk3
        exact ⟨_, _, hr, .inr ⟨rfl, ⟨.goto t, (hIx _).putObj _ hi3 (by omega) hl3 rfl, hl4, hk4⟩, hKt (hKt hw2 hkp3) (hKb _ _)⟩⟩
      | panic ch => exact hp.elim
      | outgrown => exact hp.elim
    · rintro e W2 ⟨⟨v, rfl⟩, (⟨xs, hS, hi, hl, hk⟩ | ⟨pre, hSp, c, hi, hl, hk⟩)⟩
      · exact ⟨none, _, by have := run_endLoop (P := P) hl (by rw [hrec]; simp); rw [hrec] at this; exact this, hdone _ xs _ (Nat.le_refl _) hS (hI.putObj _ hi (by omega) hl rfl) ((World.putObj_heap_other (by omega)).trans hk)⟩
      · exact ⟨some c, _, by have := run_endLoop (P := P) hl (by rw [hrec]; simp); rw [hrec] at this; exact this, hstop _ c pre _ (Nat.le_refl _) hSp ((hIx c).putObj _ hi (by omega) hl rfl) ((World.putObj_heap_other (by omega)).trans hk)⟩
end
end Go.Proofs.Ytmoignbaphddeaa
namespace Go.Proofs.Ytmoignbaphddeaa
open Go.RowKit Go.Shelf
attribute [local go_sem] Oper.semAt_some

theorem anyRoom {F : Fence} (hd : F.depth = none) (k : Nat) : F.room k := fun d h => by rw [hd] at h; cases h
theorem anyRound {F : Fence} (hd : F.depth = none) {m m' : Nat} {P : Program} {l : Nat} {f : FuncId} {tmps : Array Value} {assign body : Code} {w : World} {R : Ending → World → Prop}
    (h : RoundIn F m P l f tmps assign body w R) : RoundIn F m' P l f tmps assign body w R := ⟨h.1, fun c cs _ => h.2 c cs (anyRoom hd _)⟩
theorem anyYield {F : Fence} (hd : F.depth = none) {m : Nat} (m' : Nat) {P : Program} {l : Nat} {args : Array Value} {W : World} {R : Ending → World → Prop} (h : YieldAt F m P l args W R) : YieldAt F m' P l args W R := by
  obtain ⟨fn, tmps, assign, body, hy, hR⟩ := h
  exact ⟨fn, tmps, assign, body, hy, anyRound hd hR⟩

/-- a round keeps all blocks but the loop's own record and those that the caller writes -/
def KpM (own : Nat → Prop) (l : Nat) (W W' : World) : Prop := W.heap.size ≤ W'.heap.size ∧ ∀ b, b < W.heap.size → b ≠ l → ¬ own b → W'.heap[b]? = W.heap[b]?
theorem KpM.trans {own : Nat → Prop} {l : Nat} {A B C : World} (h : KpM own l A B) (k : KpM own l B C) : KpM own l A C :=
  ⟨Nat.le_trans h.1 k.1, fun b hb hl ho => (k.2 b (Nat.lt_of_lt_of_le hb h.1) hl ho).trans (h.2 b hb hl ho)⟩
theorem KpM.put (own : Nat → Prop) (l : Nat) (W : World) (o : Obj) : KpM own l W (W.putObj l o) :=
  ⟨by simp, fun b _ hl _ => World.putObj_heap_other (by omega)⟩
theorem KpM.heap {own : Nat → Prop} {l b : Nat} {W W' : World} {o : Obj} (h : KpM own l W W') (ho : W.heap[b]? = some o) (hl : b ≠ l) (hn : ¬ own b) : W'.heap[b]? = some o :=
  (h.2 b (lt_of_block ho) hl hn).trans ho
theorem RowAt.kpm {α : Type} {sz : Nat} {enc : α → List Value} {own : Nat → Prop} {l : Nat} {W W' : World} {a : Option Addr} {ws : List α} (h : RowAt sz enc W a ws) (hk : KpM own l W W') (ha : ∀ b o, a = some ⟨b, o, none⟩ → b ≠ l ∧ ¬ own b) : RowAt sz enc W' a ws := by
  intro k x hx
  obtain ⟨b, o, hb, hc⟩ := h k x hx
  refine ⟨b, o, hb, fun j u hj => ?_⟩
  have h1 := hc j u hj
  have hlt := World.block_lt_of_cell? W _ h1
  exact (World.cell?_of_block (hk.2 b hlt (ha b o hb).1 (ha b o hb).2)).trans h1
theorem RowAt.belowB {α : Type} {sz : Nat} {enc : α → List Value} {B : Nat} {W W' : World} {a : Option Addr} {ws : List α} (h : RowAt sz enc W a ws) (hk : Below B W W') (ha : ∀ b o, a = some ⟨b, o, none⟩ → b < B) : RowAt sz enc W' a ws := by
  intro k x hx
  obtain ⟨b, o, hb, hc⟩ := h k x hx
  refine ⟨b, o, hb, fun j u hj => ?_⟩
  exact (hk.cell (p := ⟨b, _, none⟩) (ha b o hb)).trans (hc j u hj)

/-- what a round of the loop is asked -/
def Rounds (m l : Nat) (own : Nat → Prop) (J Jx : List (Int × Int) → World → Prop) : Prop :=
  ∀ pre x W1, J pre W1 → YieldAt Fence.wide m Try.prog l #[.int .u64 x.1, .int .u64 x.2] W1 fun e W' =>
    (e = .returned (.bool true) ∧ J (pre ++ [x]) W' ∧ KpM own l W1 W') ∨ (e = .returned (.bool false) ∧ Jx (pre ++ [x]) W' ∧ KpM own l W1 W')

theorem wp_cutIn {F : Fence} {n : Nat} {P : Program} {c : Code} {Q : Exit → Act → World → Prop} {a : Act} {W : World} (H : World → Prop) (hH : H W) (h : ∀ W, H W → c.wpIn F n P Q a W) : c.wpIn F n P Q a W := h W hH

theorem heap_from {A B : World} {row : Option Nat} {b B0 : Nat} {cs : Array Value} {t : TypeId} {f : Nat × Nat} (h : A.heap[b]? = some (.cells cs t f)) (hg : A.grownBy B row) (hr : ∀ r, row = some r → B0 ≤ r ∧ ∃ o : Obj, A.heap[r]? = some o ∧ o.isCells = false) : B.heap[b]? = some (.cells cs t f) := by
  refine (hg.block b (lt_of_block h) ?_).trans h
  intro he
  obtain ⟨_, o, h1, h2⟩ := hr b he.symm
  rw [h] at h1
  cases h1
  cases h2
theorem heap_put {W : World} {b D : Nat} {cs : Array Value} {t : TypeId} {f : Nat × Nat} {o o' : Obj} (h : W.heap[b]? = some (.cells cs t f)) (hD : W.heap[D]? = some o) (ho : o.isCells = false) : (W.putObj D o').heap[b]? = some (.cells cs t f) :=
  heap_from (B0 := 0) h (grownBy_putObj' W D o') (fun r e => by cases e; exact ⟨Nat.zero_le _, o, hD, ho⟩)

theorem KpM.set {own : Nat → Prop} {l b : Nat} {W : World} (h : own b) (v : Value) : KpM own l W (W.setCell ⟨b, 0, none⟩ v) :=
  ⟨by simp, fun c _ _ hc => Below.heap_setCell _ _ _ _ (fun e => hc (e ▸ h))⟩
theorem KpM.refl (own : Nat → Prop) (l : Nat) (W : World) : KpM own l W W := ⟨Nat.le_refl _, fun _ _ _ _ => rfl⟩

end Go.Proofs.Ytmoignbaphddeaa
