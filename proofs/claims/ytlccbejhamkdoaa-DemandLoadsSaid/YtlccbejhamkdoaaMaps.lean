/-
  Maps from keys to values of one cell, as lists of pairs. A key's type is known by three facts: how a key is found among entries, that it can be checked, and that a stored key stays.
-/
import Derived.Test.YtlccbejhamkdoaaData
import Derived.Laws.StructEq
namespace Go.Proofs.Ytlccbejhamkdoaa
open Go.RowKit

section
variable {κ β : Type} (encK : κ → Value) (encV : β → Value)
def MapAt (w : World) (r : Nat) (l : List (κ × β)) : Prop :=
  ∃ es clk, w.heap[r]? = some (.map es clk) ∧ es.toList.map (fun e => (e.key, e.val)) = l.map (fun p => (encK p.1, encV p.2))
variable {encK encV}
theorem MapAt.new (w : World) : MapAt encK encV (w.alloc (.map #[] 0)) w.heap.size ([] : List (κ × β)) :=
  ⟨#[], 0, heap_new _ _, by simp⟩
theorem MapAt.kept {w w' : World} {r : Nat} {l : List (κ × β)} (h : MapAt encK encV w r l) (he : w'.heap[r]? = w.heap[r]?) : MapAt encK encV w' r l := by
  obtain ⟨es, clk, hh, hl⟩ := h
  exact ⟨es, clk, he.trans hh, hl⟩
theorem MapAt.lt {w : World} {r : Nat} {l : List (κ × β)} (h : MapAt encK encV w r l) : r < w.heap.size := by
  obtain ⟨es, clk, hh, _⟩ := h
  exact lt_of_block hh
theorem MapAt.shape {w : World} {r : Nat} {l : List (κ × β)} (h : MapAt encK encV w r l) : w.shape? r = none := by
  obtain ⟨es, clk, hh, _⟩ := h
  simp [World.shape?, hh]
theorem MapAt.below {w w' : World} {r : Nat} {l : List (κ × β)} (h : MapAt encK encV w r l) (hb : Below w.heap.size w w') : MapAt encK encV w' r l := h.kept (hb.block r h.lt)
theorem MapAt.grown {w w' : World} {r r' : Nat} {l : List (κ × β)} (h : MapAt encK encV w r l) (hg : w.grownBy w' (some r')) (hne : r ≠ r') : MapAt encK encV w' r l := h.kept (hg.block r h.lt (by simp [hne]))
theorem MapAt.size {w : World} {r : Nat} {l : List (κ × β)} (h : MapAt encK encV w r l) : ∃ es clk, w.heap[r]? = some (.map es clk) ∧ es.size = l.length := by
  obtain ⟨es, clk, hh, hl⟩ := h
  exact ⟨es, clk, hh, by have := congrArg List.length hl; simpa using this⟩
theorem MapAt.len {P : Program} {K T E : TypeId} {w : World} {r : Nat} {l : List (κ × β)} (h : MapAt encK encV w r l) (hT : P.underlying T = some (.map K E)) (ty : TypeId) :
    (Builtin.len_ #[T] ty #[.map (some r)]).run P w = .ok (.int .i64 l.length) w := by
  obtain ⟨es, clk, hh, hs⟩ := h.size
  have hg : (getObj r).run P w = .ok (.map es clk) w := by simp [getObj, Sem.run, hh]
  unfold Builtin.len_
  simp [Sem.run_bind, run_underlying hT, hg, goInt, hs]
end

section
variable {κ β : Type} [DecidableEq κ] (encK : κ → Value) (encV : β → Value)

/-- what is noted of a key -/
def look (k : κ) : List (κ × β) → Option β
  | [] => none
  | p :: l => if k = p.1 then some p.2 else look k l

/-- a key is noted if it is new -/
def addKey (l : List (κ × β)) (k : κ) (v : β) : List (κ × β) := if (look k l).isNone then l ++ [(k, v)] else l
theorem addKey_none {l : List (κ × β)} {k : κ} (h : look k l = none) (v : β) : addKey l k v = l ++ [(k, v)] := by simp [addKey, h]
theorem addKey_some {l : List (κ × β)} {k : κ} {x : β} (h : look k l = some x) (v : β) : addKey l k v = l := by simp [addKey, h]

/-- the keys of the first n records, each with the index of the first record that has it -/
def fm (ks : List κ) : Nat → List (κ × Int)
  | 0 => []
  | n + 1 => match ks[n]? with
    | none => fm ks n
    | some k => addKey (fm ks n) k n
/-- the first of the first n records whose key occurs before it, or -1 -/
def fd (ks : List κ) : Nat → Int
  | 0 => -1
  | n + 1 => match ks[n]? with
    | none => fd ks n
    | some k => if (look k (fm ks n)).isSome ∧ fd ks n < 0 then n else fd ks n
theorem fm_succ {ks : List κ} {n : Nat} {x : κ} (h : ks[n]? = some x) : fm ks (n + 1) = addKey (fm ks n) x n := by
  simp [fm, h]
theorem fd_succ_new {ks : List κ} {n : Nat} {x : κ} (h : ks[n]? = some x) (hl : look x (fm ks n) = none) : fd ks (n + 1) = fd ks n := by
  simp [fd, h, hl]
theorem fd_succ_old {ks : List κ} {n : Nat} {x : κ} (h : ks[n]? = some x) (hf : 0 ≤ fd ks n) : fd ks (n + 1) = fd ks n := by
  simp [fd, h]
  intro _ h2
  omega
theorem fd_succ_first {ks : List κ} {n : Nat} {x : κ} (h : ks[n]? = some x) {y : Int} (hl : look x (fm ks n) = some y) (hf : fd ks n < 0) : fd ks (n + 1) = n := by
  simp [fd, h, hl, hf]
theorem fd_range (ks : List κ) : ∀ n, -1 ≤ fd ks n ∧ fd ks n < n
  | 0 => by simp [fd]
  | n + 1 => by
    have := fd_range ks n
    unfold fd
    split
    · omega
    · split <;> omega

theorem look_append (k : κ) (l r : List (κ × β)) : look k (l ++ r) = (look k l).orElse fun _ => look k r := by
  induction l with
  | nil => simp [look]
  | cons p l ih => simp only [List.cons_append, look]; split <;> simp_all

/-- the place of a key -/
def place (k : κ) : List (κ × β) → Nat → Option (Nat × β)
  | [], _ => none
  | p :: l, i => if k = p.1 then some (i, p.2) else place k l (i + 1)

theorem place_lookup (k : κ) (l : List (κ × β)) : ∀ i, (place k l i).map (·.2) = look k l := by
  induction l with
  | nil => intro i; rfl
  | cons p l ih =>
    intro i
    simp only [place, look]
    split <;> simp_all

structure KeyLaw (P : Program) (K : TypeId) (ok : κ → Prop) : Prop where
  check : ∀ em k w, ok k → (Instr.checkKey em 10000 K (encK k)).run P w = .ok () w
  find : ∀ k (l : List (κ × β)) (es : List MapEntry) w, ok k → (∀ p ∈ l, ok p.1) → es.map (fun e => (e.key, e.val)) = l.map (fun p => (encK p.1, encV p.2)) →
    (Instr.findKey K (encK k) es).run P w = .ok ((place k l 0).map fun p => (p.1, encV p.2)) w

variable {encK encV} {P : Program} {K : TypeId} {ok : κ → Prop} {T E : TypeId}

theorem MapAt.lookup (L : KeyLaw encK encV P K ok) (hT : P.underlying T = some (.map K E)) {w : World} {r : Nat} {l : List (κ × β)} (h : MapAt encK encV w r l) (hl : ∀ p ∈ l, ok p.1) {k : κ} (hk : ok k)
    {z : Value} (hz : (zeroValue E).run P w = .ok z w) (c : Bool) :
    (Instr.lookup T (.map (some r)) (encK k) c).run P w = .ok (if c then .tuple #[((look k l).map encV).getD z, .bool (look k l).isSome] else ((look k l).map encV).getD z) w := by
  obtain ⟨es, clk, hh, he⟩ := h
  have hf := L.find k l es.toList w hk hl he
  unfold Instr.lookup
  have hg : (getObj r).run P w = .ok (.map es clk) w := by simp [getObj, Sem.run, hh]
  simp only [Sem.run_bind, run_underlying hT, Result.andThen_ok, hg, Sem.run_pure, L.check _ k w hk, hf, ← place_lookup k l 0]
  cases place k l 0 with
  | none =>
    cases c <;> simp [hz]
  | some p =>
    cases c <;> simp

theorem MapAt.lookup_nil (hT : P.underlying T = some (.map K E)) (L : KeyLaw encK encV P K ok) {w : World} {k : κ} (hk : ok k)
    {z : Value} (hz : (zeroValue E).run P w = .ok z w) (c : Bool) :
    (Instr.lookup T (.map none) (encK k) c).run P w = .ok (if c then .tuple #[z, .bool false] else z) w := by
  have hf := L.find k [] [] w hk (by simp) rfl
  unfold Instr.lookup
  have hf' : (Instr.findKey K (encK k) (#[] : Array MapEntry).toList).run P w = .ok none w := by simpa [place] using hf
  simp only [Sem.run_bind, run_underlying hT, Result.andThen_ok, Sem.run_pure, L.check _ k w hk, hf']
  cases c <;> simp [hz]

theorem MapAt.put (L : KeyLaw encK encV P K ok) (hT : P.underlying T = some (.map K E)) {w : World} {r : Nat} {l : List (κ × β)} (h : MapAt encK encV w r l) (hl : ∀ p ∈ l, ok p.1) {k : κ} (hk : ok k)
    (hn : look k l = none) (v : β) :
    ∃ w', (Instr.mapUpdate T (.map (some r)) (encK k) (encV v)).run P w = .ok () w' ∧ MapAt encK encV w' r (l ++ [(k, v)]) ∧ w.grownBy w' (some r) ∧ w'.heap.size = w.heap.size := by
  obtain ⟨es, clk, hh, he⟩ := h
  have hf := L.find k l es.toList w hk hl he
  have hp : place k l 0 = none := by
    have := place_lookup k l 0
    rw [hn] at this
    cases hpl : place k l 0 with
    | none => rfl
    | some p => rw [hpl] at this; cases this
  rw [hp] at hf
  have hlt : r < w.heap.size := lt_of_block hh
  have hg : (getObj r).run P w = .ok (.map es clk) w := by simp [getObj, Sem.run, hh]
  refine ⟨{ w with heap := w.heap.setIfInBounds r (.map (es.push { key := encK k, val := encV v, born := clk }) (clk + 1)) }, ?_, ?_, ?_, ?_⟩
  · unfold Instr.mapUpdate
    simp only [Sem.run_bind, run_underlying hT, Result.andThen_ok, hg, L.check _ k w hk, hf, Option.map_none]
    simp [setObj, Sem.run, hh]
  · refine ⟨es.push { key := encK k, val := encV v, born := clk }, clk + 1, ?_, ?_⟩
    · simp [hlt]
    · simp [he]
  · refine ⟨rfl, rfl, rfl, by simp, fun j hj hne => ?_⟩
    have : r ≠ j := fun e => hne (by rw [e])
    simp [Array.getElem?_setIfInBounds_ne this]
  · simp

end

/-! ### the kinds of keys -/
section
variable {P : Program} {K : TypeId} {β : Type} {encV : β → Value}

theorem findNow_int (q : IntKind) (k : Int) (es : List MapEntry) : ∀ (l : List (Int × β)) (i : Nat), es.map (fun e => (e.key, e.val)) = l.map (fun p => (Value.int q p.1, encV p.2)) →
    Instr.findNow (.int q) (.int q k) es i = some ((place k l i).map fun p => (p.1, encV p.2)) := by
  induction es with
  | nil => intro l i h; cases l <;> simp_all [Instr.findNow, place]
  | cons e es ih =>
    intro l i h
    cases l with
    | nil => simp at h
    | cons p l =>
      simp only [List.map_cons, List.cons.injEq, Prod.mk.injEq] at h
      obtain ⟨⟨h1, h2⟩, h3⟩ := h
      simp only [Instr.findNow, h1, Instr.sameNow, if_true, place]
      by_cases hk : k = p.1
      · simp [hk, h2]
      · have : (k == p.1) = false := by simpa using hk
        simp [this, hk, ih l (i + 1) h3]

theorem int_law (q : IntKind) (hK : P.underlying K = some (.int q)) : KeyLaw (Value.int q) encV P K (fun _ => True) where
  check := by
    intro em k w _
    unfold Instr.checkKey
    simp [Sem.run_bind, run_underlying hK]
  find := by
    intro k l es w _ _ h
    unfold Instr.findKey
    simp [Sem.run_bind, run_underlying hK, findNow_int q k es l 0 h]

theorem bytes_beq_self (a : ByteArray) : (a == a) = true := by
  rw [beq_toListBytes]; simp
theorem bytes_eq_of_beq {a b : ByteArray} (h : (a == b) = true) : a = b := by
  rw [beq_toListBytes] at h
  have h1 : a.toList = b.toList := by simpa using h
  rw [ByteArray.toList_eq, ByteArray.toList_eq] at h1
  obtain ⟨x⟩ := a
  obtain ⟨y⟩ := b
  simp only at h1
  rw [Array.toList_inj.1 h1]

theorem bytes_ne {a b : ByteArray} (h : a ≠ b) : (a == b) = false := by
  cases hb : a == b with
  | false => rfl
  | true => exact absurd (bytes_eq_of_beq hb) h

theorem findNow_str (k : ByteArray) (es : List MapEntry) : ∀ (l : List (ByteArray × β)) (i : Nat), es.map (fun e => (e.key, e.val)) = l.map (fun p => (Value.string p.1, encV p.2)) →
    Instr.findNow .string (.string k) es i = some ((place k l i).map fun p => (p.1, encV p.2)) := by
  induction es with
  | nil => intro l i h; cases l <;> simp_all [Instr.findNow, place]
  | cons e es ih =>
    intro l i h
    cases l with
    | nil => simp at h
    | cons p l =>
      simp only [List.map_cons, List.cons.injEq, Prod.mk.injEq] at h
      obtain ⟨⟨h1, h2⟩, h3⟩ := h
      simp only [Instr.findNow, h1, Instr.sameNow, place]
      by_cases hk : k = p.1
      · have : (k == p.1) = true := by rw [hk]; exact bytes_beq_self _
        rw [this]
        simp [hk, h2]
      · have : (k == p.1) = false := by
          cases hb : k == p.1 with
          | false => rfl
          | true => exact absurd (bytes_eq_of_beq hb) hk
        simp [this, hk, ih l (i + 1) h3]

theorem str_law (hK : P.underlying K = some .string) : KeyLaw Value.string encV P K (fun _ => True) where
  check := by
    intro em k w _
    unfold Instr.checkKey
    simp [Sem.run_bind, run_underlying hK]
  find := by
    intro k l es w _ _ h
    unfold Instr.findKey
    simp [Sem.run_bind, run_underlying hK, findNow_str k es l 0 h]
end
end Go.Proofs.Ytlccbejhamkdoaa
