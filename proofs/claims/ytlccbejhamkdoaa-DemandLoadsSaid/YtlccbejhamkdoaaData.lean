/-
  The records of a configuration as plain Lean data, and how they lie in the cells of a world. No program in sight.
-/
import Derived.WalkKit
import Derived.Deep.Draws
namespace Go.Proofs.Ytlccbejhamkdoaa
open Go.RowKit

/-- kept from the walk's rules -/
theorem hid {p : Prop} (h : p) : Hid p := h

/-- where the walk is to stand still -/
def Stop (p : Prop) : Prop := p
theorem stop {p : Prop} (h : Stop p) : p := h
theorem go_on {p : Prop} (h : p) : Stop p := h

theorem ret_int {k : IntKind} {a b : Int} (h : a = b) : Ending.returned (.int k a) = .returned (.int k b) := by rw [h]
theorem ret_bool {a b : Bool} (h : a = b) : Ending.returned (.bool a) = .returned (.bool b) := by rw [h]

structure Part where
  id : Int
  name : ByteArray
  period : Int
  dur : Int
structure Win where
  start : Int
  len : Int
  part : Int
structure Reg where
  base : Int
  size : Int
  part : Int
  rights : Int
  shared : Bool
structure Prt where
  id : Int
  part : Int
  name : ByteArray
  output : Bool
  queuing : Bool
  size : Int
structure Chn where
  id : Int
  src : Int
  dests : List Int
structure Cfg where
  frame : Int
  parts : List Part
  wins : List Win
  regs : List Reg
  ports : List Prt
  chans : List Chn

def U8 (x : Int) : Prop := 0 ≤ x ∧ x ≤ 255
def U16 (x : Int) : Prop := 0 ≤ x ∧ x ≤ 65535
def U32 (x : Int) : Prop := 0 ≤ x ∧ x ≤ 4294967295
def U64 (x : Int) : Prop := 0 ≤ x ∧ x ≤ 18446744073709551615

def Part.ok (p : Part) : Prop := U16 p.id ∧ p.name.size ≤ 9223372036854775807 ∧ U64 p.period ∧ U64 p.dur
def Win.ok (p : Win) : Prop := U64 p.start ∧ U64 p.len ∧ U16 p.part
def Reg.ok (p : Reg) : Prop := U64 p.base ∧ U64 p.size ∧ U16 p.part ∧ U8 p.rights
def Prt.ok (p : Prt) : Prop := U16 p.id ∧ U16 p.part ∧ p.name.size ≤ 9223372036854775807 ∧ U32 p.size
def Chn.ok (p : Chn) : Prop := U16 p.id ∧ U16 p.src ∧ (∀ d ∈ p.dests, U16 d) ∧ p.dests.length ≤ 9223372036854775807

def encPart (p : Part) : List Value := [.int .u16 p.id, .string p.name, .int .u64 p.period, .int .u64 p.dur]
def encWin (p : Win) : List Value := [.int .u64 p.start, .int .u64 p.len, .int .u16 p.part]
def encReg (p : Reg) : List Value := [.int .u64 p.base, .int .u64 p.size, .int .u16 p.part, .int .u8 p.rights, .bool p.shared]
def encPrt (p : Prt) : List Value := [.int .u16 p.id, .int .u16 p.part, .string p.name, .bool p.output, .bool p.queuing, .int .u32 p.size]

/-- these values lie in the cells from o on -/
def CellsAt (w : World) (b o : Nat) (cs : List Value) : Prop := ∀ j u, cs[j]? = some u → w.cell? ⟨b, o + j, none⟩ = some u

theorem CellsAt.below {w w' : World} {b o : Nat} {cs : List Value} (h : CellsAt w b o cs) (hb : Below w.heap.size w w') : CellsAt w' b o cs := by
  intro j u hj
  have := h j u hj
  rw [hb.cell (World.block_lt_of_cell? w _ this)]
  exact this

theorem CellsAt.lt {w : World} {b o : Nat} {cs : List Value} (h : CellsAt w b o cs) (hne : cs ≠ []) : b < w.heap.size := by
  cases cs with
  | nil => exact absurd rfl hne
  | cons c r => exact World.block_lt_of_cell? w _ (h 0 c rfl)

/-- a row of records, each of sz cells -/
def RowAt {α : Type} (sz : Nat) (enc : α → List Value) (w : World) (a : Option Addr) (l : List α) : Prop :=
  ∀ k x, l[k]? = some x → ∃ b o, a = some ⟨b, o, none⟩ ∧ CellsAt w b (o + k * sz) (enc x)

theorem RowAt.below {α : Type} {sz : Nat} {enc : α → List Value} {w w' : World} {a : Option Addr} {l : List α} (h : RowAt sz enc w a l) (hb : Below w.heap.size w w') : RowAt sz enc w' a l := by
  intro k x hx
  obtain ⟨b, o, ha, hc⟩ := h k x hx
  exact ⟨b, o, ha, hc.below hb⟩

theorem CellsAt.grown {w w' : World} {b o r : Nat} {cs : List Value} (h : CellsAt w b o cs) (hg : w.grownBy w' (some r)) (hr : w.shape? r = none) : CellsAt w' b o cs := by
  intro j u hj
  have hc := h j u hj
  have hlt := World.block_lt_of_cell? w _ hc
  have hne : b ≠ r := by
    rintro rfl
    unfold World.cell? at hc
    unfold World.shape? at hr
    simp only at hc
    split at hc
    · rename_i e; simp [e] at hr
    · cases hc
  have : w'.cell? ⟨b, o + j, none⟩ = w.cell? ⟨b, o + j, none⟩ := World.cell?_of_block (hg.block b hlt (by simp [hne]))
  rw [this]; exact hc
theorem RowAt.grown {α : Type} {sz : Nat} {enc : α → List Value} {w w' : World} {r : Nat} {a : Option Addr} {l : List α} (h : RowAt sz enc w a l) (hg : w.grownBy w' (some r)) (hr : w.shape? r = none) : RowAt sz enc w' a l := by
  intro k x hx
  obtain ⟨b, o, ha, hc⟩ := h k x hx
  exact ⟨b, o, ha, hc.grown hg hr⟩
theorem RowAt.nil {α : Type} (sz : Nat) (enc : α → List Value) (w : World) (a : Option Addr) : RowAt sz enc w a [] := by
  intro k x hx
  simp at hx

/-- channels: the destinations lie elsewhere -/
def ChnAt (w : World) (a : Option Addr) (l : List Chn) : Prop :=
  ∀ k x, l[k]? = some x → ∃ b o d c, a = some ⟨b, o, none⟩ ∧ CellsAt w b (o + k * 3) [.int .u16 x.id, .int .u16 x.src, .slice d x.dests.length c] ∧
    x.dests.length ≤ c ∧ RowAt 1 (fun n => [.int .u16 n]) w d x.dests

theorem ChnAt.below {w w' : World} {a : Option Addr} {l : List Chn} (h : ChnAt w a l) (hb : Below w.heap.size w w') : ChnAt w' a l := by
  intro k x hx
  obtain ⟨b, o, d, c, ha, hc, hd, hr⟩ := h k x hx
  exact ⟨b, o, d, c, ha, hc.below hb, hd, hr.below hb⟩

theorem ChnAt.grown {w w' : World} {r : Nat} {a : Option Addr} {l : List Chn} (h : ChnAt w a l) (hg : w.grownBy w' (some r)) (hr : w.shape? r = none) : ChnAt w' a l := by
  intro k x hx
  obtain ⟨b, o, d, c, ha, hc, hd, hrow⟩ := h k x hx
  exact ⟨b, o, d, c, ha, hc.grown hg hr, hd, hrow.grown hg hr⟩

/-- where the sections of a configuration lie -/
structure Adr where
  a1 : Option Addr
  k1 : Nat
  a2 : Option Addr
  k2 : Nat
  a3 : Option Addr
  k3 : Nat
  a4 : Option Addr
  k4 : Nat
  a5 : Option Addr
  k5 : Nat

def cfgCells (c : Cfg) (A : Adr) : Array Value :=
  #[.int .u64 c.frame, .slice A.a1 c.parts.length A.k1, .slice A.a2 c.wins.length A.k2, .slice A.a3 c.regs.length A.k3, .slice A.a4 c.ports.length A.k4, .slice A.a5 c.chans.length A.k5]
def cfgVal (c : Cfg) (A : Adr) : Value := .agg (cfgCells c A)

/-- the numbers of a configuration are in their ranges, and no section is larger than memory -/
structure Cfg.ok (c : Cfg) : Prop where
  frame : U64 c.frame
  parts : ∀ p ∈ c.parts, p.ok
  wins : ∀ p ∈ c.wins, p.ok
  regs : ∀ p ∈ c.regs, p.ok
  ports : ∀ p ∈ c.ports, p.ok
  chans : ∀ p ∈ c.chans, p.ok
  nparts : c.parts.length * 40 ≤ 140737488351232
  nwins : c.wins.length * 24 ≤ 140737488351232
  nregs : c.regs.length * 24 ≤ 140737488351232
  nports : c.ports.length * 32 ≤ 140737488351232
  nchans : c.chans.length * 32 ≤ 140737488351232

structure CfgAt (w : World) (c : Cfg) (A : Adr) : Prop where
  ok : c.ok
  parts : RowAt 4 encPart w A.a1 c.parts
  wins : RowAt 3 encWin w A.a2 c.wins
  regs : RowAt 5 encReg w A.a3 c.regs
  ports : RowAt 6 encPrt w A.a4 c.ports
  chans : ChnAt w A.a5 c.chans
  k1 : c.parts.length ≤ A.k1
  k2 : c.wins.length ≤ A.k2
  k3 : c.regs.length ≤ A.k3
  k4 : c.ports.length ≤ A.k4
  k5 : c.chans.length ≤ A.k5

theorem CfgAt.below {w w' : World} {c : Cfg} {A : Adr} (h : CfgAt w c A) (hb : Below w.heap.size w w') : CfgAt w' c A :=
  ⟨h.ok, h.parts.below hb, h.wins.below hb, h.regs.below hb, h.ports.below hb, h.chans.below hb, h.k1, h.k2, h.k3, h.k4, h.k5⟩

theorem CfgAt.drew {w : World} {c : Cfg} {A : Adr} (h : CfgAt w c A) : CfgAt w.drew c A := h.below (Below.refl _ _).drew

/-! ### what one record's cells read as -/
theorem RowAt.part {w : World} {a : Option Addr} {l : List Part} (h : RowAt 4 encPart w a l) {k : Nat} (hk : k < l.length) : ∃ b o, a = some ⟨b, o, none⟩ ∧ b < w.heap.size ∧
    w.cell? ⟨b, o + k * 4, none⟩ = some (.int .u16 l[k].id) ∧ w.cell? ⟨b, o + k * 4 + 1, none⟩ = some (.string l[k].name) ∧
    w.cell? ⟨b, o + k * 4 + 2, none⟩ = some (.int .u64 l[k].period) ∧ w.cell? ⟨b, o + k * 4 + 3, none⟩ = some (.int .u64 l[k].dur) := by
  obtain ⟨b, o, ha, hc⟩ := h k l[k] (List.getElem?_eq_getElem hk)
  exact ⟨b, o, ha, hc.lt (by simp [encPart]), hc 0 _ rfl, hc 1 _ rfl, hc 2 _ rfl, hc 3 _ rfl⟩
theorem RowAt.win {w : World} {a : Option Addr} {l : List Win} (h : RowAt 3 encWin w a l) {k : Nat} (hk : k < l.length) : ∃ b o, a = some ⟨b, o, none⟩ ∧ b < w.heap.size ∧
    w.cell? ⟨b, o + k * 3, none⟩ = some (.int .u64 l[k].start) ∧ w.cell? ⟨b, o + k * 3 + 1, none⟩ = some (.int .u64 l[k].len) ∧
    w.cell? ⟨b, o + k * 3 + 2, none⟩ = some (.int .u16 l[k].part) := by
  obtain ⟨b, o, ha, hc⟩ := h k l[k] (List.getElem?_eq_getElem hk)
  exact ⟨b, o, ha, hc.lt (by simp [encWin]), hc 0 _ rfl, hc 1 _ rfl, hc 2 _ rfl⟩
theorem RowAt.reg {w : World} {a : Option Addr} {l : List Reg} (h : RowAt 5 encReg w a l) {k : Nat} (hk : k < l.length) : ∃ b o, a = some ⟨b, o, none⟩ ∧ b < w.heap.size ∧
    w.cell? ⟨b, o + k * 5, none⟩ = some (.int .u64 l[k].base) ∧ w.cell? ⟨b, o + k * 5 + 1, none⟩ = some (.int .u64 l[k].size) ∧
    w.cell? ⟨b, o + k * 5 + 2, none⟩ = some (.int .u16 l[k].part) ∧ w.cell? ⟨b, o + k * 5 + 3, none⟩ = some (.int .u8 l[k].rights) ∧ w.cell? ⟨b, o + k * 5 + 4, none⟩ = some (.bool l[k].shared) := by
  obtain ⟨b, o, ha, hc⟩ := h k l[k] (List.getElem?_eq_getElem hk)
  exact ⟨b, o, ha, hc.lt (by simp [encReg]), hc 0 _ rfl, hc 1 _ rfl, hc 2 _ rfl, hc 3 _ rfl, hc 4 _ rfl⟩
theorem RowAt.prt {w : World} {a : Option Addr} {l : List Prt} (h : RowAt 6 encPrt w a l) {k : Nat} (hk : k < l.length) : ∃ b o, a = some ⟨b, o, none⟩ ∧ b < w.heap.size ∧
    w.cell? ⟨b, o + k * 6, none⟩ = some (.int .u16 l[k].id) ∧ w.cell? ⟨b, o + k * 6 + 1, none⟩ = some (.int .u16 l[k].part) ∧
    w.cell? ⟨b, o + k * 6 + 2, none⟩ = some (.string l[k].name) ∧ w.cell? ⟨b, o + k * 6 + 3, none⟩ = some (.bool l[k].output) ∧
    w.cell? ⟨b, o + k * 6 + 4, none⟩ = some (.bool l[k].queuing) ∧ w.cell? ⟨b, o + k * 6 + 5, none⟩ = some (.int .u32 l[k].size) := by
  obtain ⟨b, o, ha, hc⟩ := h k l[k] (List.getElem?_eq_getElem hk)
  exact ⟨b, o, ha, hc.lt (by simp [encPrt]), hc 0 _ rfl, hc 1 _ rfl, hc 2 _ rfl, hc 3 _ rfl, hc 4 _ rfl, hc 5 _ rfl⟩
theorem ChnAt.chn {w : World} {a : Option Addr} {l : List Chn} (h : ChnAt w a l) {k : Nat} (hk : k < l.length) : ∃ b o d c, a = some ⟨b, o, none⟩ ∧ b < w.heap.size ∧
    w.cell? ⟨b, o + k * 3, none⟩ = some (.int .u16 l[k].id) ∧ w.cell? ⟨b, o + k * 3 + 1, none⟩ = some (.int .u16 l[k].src) ∧
    w.cell? ⟨b, o + k * 3 + 2, none⟩ = some (.slice d l[k].dests.length c) ∧ l[k].dests.length ≤ c ∧ RowAt 1 (fun n => [.int .u16 n]) w d l[k].dests := by
  obtain ⟨b, o, d, c, ha, hc, hd, hr⟩ := h k l[k] (List.getElem?_eq_getElem hk)
  exact ⟨b, o, d, c, ha, hc.lt (by simp), hc 0 _ rfl, hc 1 _ rfl, hc 2 _ rfl, hd, hr⟩
theorem RowAt.one {α : Type} {enc : α → Value} {w : World} {a : Option Addr} {l : List α} (h : RowAt 1 (fun n => [enc n]) w a l) {k : Nat} (hk : k < l.length) : ∃ b o, a = some ⟨b, o, none⟩ ∧ b < w.heap.size ∧
    w.cell? ⟨b, o + k, none⟩ = some (enc l[k]) := by
  obtain ⟨b, o, ha, hc⟩ := h k l[k] (List.getElem?_eq_getElem hk)
  exact ⟨b, o, ha, hc.lt (by simp), by simpa using hc 0 _ rfl⟩

/-! ### a boxed value: one block of the call's own -/
theorem heap_new (w : World) (o : Obj) : (w.alloc o).heap[w.heap.size]? = some o := heap_alloc_new w o
theorem heap_keep {w w' : World} {b : Nat} {o : Obj} (h : w.heap[b]? = some o) (hb : Below w.heap.size w w') : w'.heap[b]? = some o :=
  (hb.block b (lt_of_block h)).trans h
theorem heap_alloc' {w : World} {b : Nat} {o : Obj} (h : w.heap[b]? = some o) (o' : Obj) : (w.alloc o').heap[b]? = some o :=
  (Below.heap_alloc w o' b (lt_of_block h)).trans h
theorem cell_of_heap {w : World} {b i : Nat} {cs : Array Value} {t : TypeId} {f : Nat × Nat} {v : Value} (h : w.heap[b]? = some (.cells cs t f)) (hv : cs[i]? = some v) : w.cell? ⟨b, i, none⟩ = some v := by
  simp [World.cell?, h, hv]
theorem free_of_heap {w : World} {b i : Nat} {cs : Array Value} {t : TypeId} (h : w.heap[b]? = some (.cells cs t (0, 0))) : w.frozen? ⟨b, i, none⟩ = false := by
  simp [World.frozen?, h]

theorem below_new (w : World) (o : Obj) : Below w.heap.size w (w.alloc o) := (Below.refl _ _).alloc (Nat.le_refl _) _
theorem bthen {w w1 w2 : World} (h : Below w.heap.size w w1) (k : Below w1.heap.size w1 w2) : Below w.heap.size w w2 := h.trans (k.mono h.size)
theorem gtrans {w w1 w2 : World} {row : Option Nat} (h : w.grownBy w1 row) (k : w1.grownBy w2 row) : w.grownBy w2 row :=
  ⟨k.os.trans h.os, k.tape.trans h.tape, k.output.trans h.output, Nat.le_trans h.size k.size, fun i hi hne => (k.block i (Nat.lt_of_lt_of_le hi h.size) hne).trans (h.block i hi hne)⟩
theorem gbelow {w w1 : World} (h : Below w.heap.size w w1) (row : Option Nat) : w.grownBy w1 row := ⟨h.os, h.tape, h.output, h.size, fun i hi _ => h.block i hi⟩
theorem grefl (w : World) (row : Option Nat) : w.grownBy w row := ⟨rfl, rfl, rfl, Nat.le_refl _, fun _ _ _ => rfl⟩
theorem bgrown {w w1 w2 : World} {r : Nat} (h : Below w.heap.size w w1) (hg : w1.grownBy w2 (some r)) (hr : w.heap.size ≤ r) : Below w.heap.size w w2 :=
  h.grown hg h.size (fun k e => by cases e; exact hr)
theorem heap_get (w : World) (o : Obj) (k : Nat) : (w.alloc o).heap[k]? = if k = w.heap.size then some o else w.heap[k]? := by
  show (w.heap.push o)[k]? = _
  rw [Array.getElem?_push]
theorem heap_at {w : World} {o : Obj} {n : Nat} (h : n = w.heap.size) : (w.alloc o).heap[n]? = some o := by subst h; exact heap_new w o
theorem heap_grown {w w' : World} {b r : Nat} {o : Obj} (hg : w.grownBy w' (some r)) (h : w.heap[b]? = some o) (hne : b ≠ r) : w'.heap[b]? = some o :=
  (hg.block b (lt_of_block h) (by simp [hne])).trans h
theorem undrew {w w' : World} {r : Option Nat} (h : w.drew.grownBy w' r) : w.grownBy w' r := ⟨h.os, h.tape, h.output, h.size, h.block⟩
theorem bundrew {w w' : World} {B : Nat} (h : Below B w.drew w') : Below B w w' := ⟨h.os, h.tape, h.output, h.size, h.block⟩
theorem bdrewN {B : Nat} {w W : World} (h : Below B w W) (n : Nat) : Below B w (W.drewN n) := ⟨h.os, h.tape, h.output, h.size, h.block⟩
theorem cell_below {w w' : World} (hb : Below w.heap.size w w') {a : Addr} {v : Value} (h : w.cell? a = some v) : w'.cell? a = some v := by
  rw [hb.cell (World.block_lt_of_cell? w _ h)]; exact h
theorem row_new {α : Type} (w : World) (enc : α → Value) (l : List α) (t : TypeId) : RowAt 1 (fun n => [enc n]) (w.alloc (.cells (l.map enc).toArray t)) (some ⟨w.heap.size, 0, none⟩) l := by
  intro k x hx
  refine ⟨w.heap.size, 0, rfl, fun j u hj => ?_⟩
  cases j with
  | succ j => simp at hj
  | zero =>
    simp only [List.getElem?_cons_zero, Option.some.injEq] at hj
    subst hj
    exact cell_of_heap (heap_new w _) (by simp [hx])
/-- a name for the world at hand, and what is to be known of it -/
theorem wp_name {P : Program} {c : Code} {Q : Exit → Act → World → Prop} {a : Act} {W : World} (F : World → Prop) (hF : F W) (h : ∀ W, F W → c.wp P Q a W) : c.wp P Q a W := h W hF
/-- a name for the world behind a new block, and all that is to be known of it -/
theorem named (w : World) (o : Obj) : ∃ w1, w.alloc o = w1 ∧ Below w.heap.size w w1 ∧ w1.heap.size = w.heap.size + 1 ∧ w1.heap[w.heap.size]? = some o :=
  ⟨_, rfl, below_new w o, by simp, heap_new w o⟩

/-- a configuration in a box -/
theorem box_cfg {w : World} {b : Nat} {c : Cfg} {A : Adr} {t : TypeId} (h : w.heap[b]? = some (.cells (cfgCells c A) t (0, 0))) :
    w.cell? ⟨b, 0, none⟩ = some (.int .u64 c.frame) ∧ w.cell? ⟨b, 1, none⟩ = some (.slice A.a1 c.parts.length A.k1) ∧ w.cell? ⟨b, 2, none⟩ = some (.slice A.a2 c.wins.length A.k2) ∧
    w.cell? ⟨b, 3, none⟩ = some (.slice A.a3 c.regs.length A.k3) ∧ w.cell? ⟨b, 4, none⟩ = some (.slice A.a4 c.ports.length A.k4) ∧ w.cell? ⟨b, 5, none⟩ = some (.slice A.a5 c.chans.length A.k5) :=
  ⟨cell_of_heap h rfl, cell_of_heap h rfl, cell_of_heap h rfl, cell_of_heap h rfl, cell_of_heap h rfl, cell_of_heap h rfl⟩
end Go.Proofs.Ytlccbejhamkdoaa
