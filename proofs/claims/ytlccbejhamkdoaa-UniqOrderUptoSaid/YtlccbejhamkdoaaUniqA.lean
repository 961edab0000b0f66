/- keys and maps of package uniq -/
import Derived.Test.YtlccbejhamkdoaaMaps
import Derived.Test.YtlccbejhamkdoaaChecked
import Derived.KernelRfl
namespace Go.Proofs.Ytlccbejhamkdoaa
open Go.RowKit

def partVal (p : Part) : Value := .agg #[.int .u16 p.id, .string p.name, .int .u64 p.period, .int .u64 p.dur]
def prtVal (p : Prt) : Value := .agg #[.int .u16 p.id, .int .u16 p.part, .string p.name, .bool p.output, .bool p.queuing, .int .u32 p.size]

/-- the key of a port by its name -/
def namedVal (k : Int × ByteArray) : Value := .agg #[.int .u16 k.1, .string k.2]

theorem equal_named (k k' : Int × ByteArray) (w : World) : (Op.equal 82 (namedVal k) (namedVal k')).run Try.prog w = .ok (decide (k = k')) w := by
  have hp : Try.prog.stoodInHeld 82 = false := by kernel_rfl
  have hf : Try.prog.underlying 82 = some (.struct (Try.prog.fieldsOf 82)) := by kernel_rfl
  obtain ⟨a, s⟩ := k
  obtain ⟨b, t⟩ := k'
  unfold namedVal Op.equal Op.maxDepth
  rw [run_equalIn_agg w _ _ _ _ hf hp]
  have hfs : (Try.prog.fieldsOf 82).toList = [{ name := "partition", type := 34, offset := 0, embedded := false, tag := "", pkgPath := "fenestra/uniq", byteOffset := 0 },
        { name := "name", type := 9, offset := 1, embedded := false, tag := "", pkgPath := "fenestra/uniq", byteOffset := 8 }] := by kernel_rfl
  rw [hfs]
  simp [go_sem, Op.eqFields]
  have e : (s.toList = t.toList) ↔ s = t := by
    constructor
    · intro h
      exact bytes_eq_of_beq (by rw [beq_toListBytes, h]; simp)
    · intro h; rw [h]
  by_cases h1 : a = b <;> by_cases h2 : s = t <;> simp [h1, h2, e]

theorem named_law {β : Type} {encV : β → Value} : KeyLaw namedVal encV Try.prog 82 (fun _ => True) where
  check := by
    intro em k w _
    unfold Instr.checkKey namedVal
    simp [go_sem]
    have h1 : (Instr.checkKey em 9999 34 (Value.int IntKind.u16 k.fst)).run Try.prog w = .ok () w := by
      unfold Instr.checkKey
      simp [go_sem]
    have h2 : (Instr.checkKey em 9999 9 (Value.string k.snd)).run Try.prog w = .ok () w := by
      unfold Instr.checkKey
      simp [go_sem]
    simp [h1, h2]
  find := by
    intro k l es w _ _ h
    have hu : Try.prog.underlying 82 = some (.struct (Try.prog.fieldsOf 82)) := by kernel_rfl
    have key : ∀ (es : List MapEntry) (l : List ((Int × ByteArray) × β)) (i : Nat), es.map (fun e => (e.key, e.val)) = l.map (fun p => (namedVal p.1, encV p.2)) →
        (Instr.findAsking 82 (namedVal k) es i).run Try.prog w = .ok ((place k l i).map fun p => (p.1, encV p.2)) w := by
      intro es
      induction es with
      | nil => intro l i h; cases l <;> simp_all [Instr.findAsking, place]
      | cons e es ih =>
        intro l i h
        cases l with
        | nil => simp at h
        | cons p l =>
          simp only [List.map_cons, List.cons.injEq, Prod.mk.injEq] at h
          obtain ⟨⟨h1, h2⟩, h3⟩ := h
          simp only [Instr.findAsking, h1, Sem.run_bind, equal_named, Result.andThen_ok, place]
          by_cases hk : k = p.1
          · simp [hk, h2]
          · simp [hk, ih l (i + 1) h3]
    unfold Instr.findKey
    simp only [Sem.run_bind, run_underlying hu, Result.andThen_ok]
    cases es with
    | nil => cases l <;> simp_all [Instr.findNow, place]
    | cons e es =>
      cases l with
      | nil => simp at h
      | cons p l =>
        have h' := h
        simp only [List.map_cons, List.cons.injEq, Prod.mk.injEq] at h'
        have hn : Instr.findNow (.struct (Try.prog.fieldsOf 82)) (namedVal k) (e :: es) 0 = none := by
          simp [Instr.findNow, Instr.sameNow]
        rw [hn]
        exact key _ _ 0 h

theorem partitionID_c (p : Part) (w : World) : Calls Try.prog 42 #[partVal p] w fun e w' => e = .returned (.int .u16 p.id) ∧ Below w.heap.size w w' := by
  unfold partVal
  go_enter Try.func42, Try.ntmps42
  go_wp2
  go_ret
  exact ⟨rfl, below_new _ _⟩
theorem partitionName_c (p : Part) (w : World) : Calls Try.prog 45 #[partVal p] w fun e w' => e = .returned (.string p.name) ∧ Below w.heap.size w w' := by
  unfold partVal
  go_enter Try.func45, Try.ntmps45
  go_wp2
  go_ret
  exact ⟨rfl, below_new _ _⟩
theorem portID_c (p : Prt) (w : World) : Calls Try.prog 49 #[prtVal p] w fun e w' => e = .returned (.int .u16 p.id) ∧ Below w.heap.size w w' := by
  unfold prtVal
  go_enter Try.func49, Try.ntmps49
  go_wp2
  go_ret
  exact ⟨rfl, below_new _ _⟩
theorem portName_c (p : Prt) (w : World) : Calls Try.prog 51 #[prtVal p] w fun e w' => e = .returned (namedVal (p.part, p.name)) ∧ Below w.heap.size w w' := by
  unfold prtVal
  go_enter Try.func51, Try.ntmps51
  go_wp2
  exact bodyPost_ret (v := .agg #[.int .u16 p.part, .string p.name]) (by simp [results, Try.results51, go_sem]) rfl ⟨rfl, (below_new _ _).alloc (by simp) _⟩
theorem channelID_c (x d : Value) (id : Int) (w : World) : Calls Try.prog 55 #[.agg #[.int .u16 id, x, d]] w fun e w' => e = .returned (.int .u16 id) ∧ Below w.heap.size w w' := by
  go_enter Try.func55, Try.ntmps55
  go_wp2
  go_ret
  exact ⟨rfl, below_new _ _⟩

/-! ### places -/
abbrev Map16 (w : World) (r : Nat) (l : List (Int × Int)) : Prop := MapAt (Value.int .u16) (Value.int .i64) w r l
abbrev MapStr (w : World) (r : Nat) (l : List (ByteArray × Int)) : Prop := MapAt Value.string (Value.int .i64) w r l
abbrev MapNm (w : World) (r : Nat) (l : List ((Int × ByteArray) × Int)) : Prop := MapAt namedVal (Value.int .i64) w r l

theorem law16 : KeyLaw (Value.int .u16) (Value.int .i64) Try.prog 34 (fun _ => True) := int_law .u16 Try.underlying34
theorem lawStr : KeyLaw Value.string (Value.int .i64) Try.prog 9 (fun _ => True) := str_law Try.underlying9
theorem lawNm : KeyLaw namedVal (Value.int .i64) Try.prog 82 (fun _ => True) := named_law

theorem find16_c (w : World) (r : Nat) (l : List (Int × Int)) (h : Map16 w r l) (k : Int) :
    Calls Try.prog 75 #[.map (some r), Value.int .u16 k] w fun e w' => e = .returned (.int .i64 ((look k l).getD (-1))) ∧ Below w.heap.size w w' := by
  have hl : ∀ w', w'.heap[r]? = w.heap[r]? → (Instr.lookup 71 (.map (some r)) (Value.int .u16 k) true).run Try.prog w' = .ok (.tuple #[.int .i64 ((look k l).getD 0), .bool (look k l).isSome]) w' := by
    intro w' hw
    have := (h.kept hw).lookup law16 Try.underlying71 (fun _ _ => trivial) (k := k) trivial (Try.zeroValue3 w') true
    rw [this]
    cases look k l <;> simp
  have hrun := hl w rfl
  clear hl
  generalize look k l = o at hrun ⊢
  cases o with
  | none =>
    simp only [Option.getD_none, Option.isSome_none] at hrun
    go_enter Try.func75, Try.ntmps75
    go_wp2
    go_ret
    exact ⟨rfl, Below.refl _ _⟩
  | some v =>
    simp only [Option.getD_some, Option.isSome_some] at hrun
    go_enter Try.func75, Try.ntmps75
    go_wp2
    go_ret
    exact ⟨rfl, Below.refl _ _⟩

theorem add16_c (w : World) (r : Nat) (l : List (Int × Int)) (h : Map16 w r l) (k : Int) (i : Int) :
    Calls Try.prog 43 #[.map (some r), Value.int .u16 k, .int .i64 i] w fun e w' => e = .returned (.bool (look k l).isNone) ∧
      Map16 w' r (addKey l k i) ∧ w.grownBy w' (some r) := by
  have hlt := h.lt
  have hl : ∀ w', w'.heap[r]? = w.heap[r]? → (Instr.lookup 71 (.map (some r)) (Value.int .u16 k) true).run Try.prog w' = .ok (.tuple #[.int .i64 ((look k l).getD 0), .bool (look k l).isSome]) w' := by
    intro w' hw
    have := (h.kept hw).lookup law16 Try.underlying71 (fun _ _ => trivial) (k := k) trivial (Try.zeroValue3 w') true
    rw [this]
    cases look k l <;> simp
  have hrun := hl w rfl
  cases ho : look k l with
  | none =>
    rw [ho] at hrun
    simp only [Option.getD_none, Option.isSome_none] at hrun
    obtain ⟨w2, hput, hm2, hg2, hs2⟩ := MapAt.put (P := Try.prog) (w := w) law16 Try.underlying71 (h.kept rfl) (fun _ _ => trivial) (k := k) trivial ho i
    have Hm2 := hid hm2
    have Hg2 := hid hg2
    have Ho := hid ho
    clear hl hm2 hg2 hs2 ho h
    go_enter Try.func43, Try.ntmps43
    go_wp2
    go_ret
    exact ⟨rfl, by rw [addKey_none Ho.out]; exact Hm2.out, Hg2.out⟩
  | some v =>
    rw [ho] at hrun
    simp only [Option.getD_some, Option.isSome_some] at hrun
    have Ho := hid ho
    have H := hid h
    clear hl ho h
    go_enter Try.func43, Try.ntmps43
    go_wp2
    go_ret
    exact ⟨rfl, by rw [addKey_some Ho.out]; exact H.out, ⟨rfl, rfl, rfl, Nat.le_refl _, fun _ _ _ => rfl⟩⟩

theorem addStr_c (w : World) (r : Nat) (l : List (ByteArray × Int)) (h : MapStr w r l) (k : ByteArray) (i : Int) :
    Calls Try.prog 46 #[.map (some r), Value.string k, .int .i64 i] w fun e w' => e = .returned (.bool (look k l).isNone) ∧
      MapStr w' r (addKey l k i) ∧ w.grownBy w' (some r) := by
  have hlt := h.lt
  have hl : ∀ w', w'.heap[r]? = w.heap[r]? → (Instr.lookup 76 (.map (some r)) (Value.string k) true).run Try.prog w' = .ok (.tuple #[.int .i64 ((look k l).getD 0), .bool (look k l).isSome]) w' := by
    intro w' hw
    have := (h.kept hw).lookup lawStr Try.underlying76 (fun _ _ => trivial) (k := k) trivial (Try.zeroValue3 w') true
    rw [this]
    cases look k l <;> simp
  have hrun := hl w rfl
  cases ho : look k l with
  | none =>
    rw [ho] at hrun
    simp only [Option.getD_none, Option.isSome_none] at hrun
    obtain ⟨w2, hput, hm2, hg2, hs2⟩ := MapAt.put (P := Try.prog) (w := w) lawStr Try.underlying76 (h.kept rfl) (fun _ _ => trivial) (k := k) trivial ho i
    have Hm2 := hid hm2
    have Hg2 := hid hg2
    have Ho := hid ho
    clear hl hm2 hg2 hs2 ho h
    go_enter Try.func46, Try.ntmps46
    go_wp2
    go_ret
    exact ⟨rfl, by rw [addKey_none Ho.out]; exact Hm2.out, Hg2.out⟩
  | some v =>
    rw [ho] at hrun
    simp only [Option.getD_some, Option.isSome_some] at hrun
    have Ho := hid ho
    have H := hid h
    clear hl ho h
    go_enter Try.func46, Try.ntmps46
    go_wp2
    go_ret
    exact ⟨rfl, by rw [addKey_some Ho.out]; exact H.out, ⟨rfl, rfl, rfl, Nat.le_refl _, fun _ _ _ => rfl⟩⟩

theorem findNm_c (w : World) (r : Nat) (l : List ((Int × ByteArray) × Int)) (h : MapNm w r l) (k : (Int × ByteArray)) :
    Calls Try.prog 76 #[.map (some r), namedVal k] w fun e w' => e = .returned (.int .i64 ((look k l).getD (-1))) ∧ Below w.heap.size w w' := by
  have hl : ∀ w', w'.heap[r]? = w.heap[r]? → (Instr.lookup 86 (.map (some r)) (namedVal k) true).run Try.prog w' = .ok (.tuple #[.int .i64 ((look k l).getD 0), .bool (look k l).isSome]) w' := by
    intro w' hw
    have := (h.kept hw).lookup lawNm Try.underlying86 (fun _ _ => trivial) (k := k) trivial (Try.zeroValue3 w') true
    rw [this]
    cases look k l <;> simp
  have hrun := hl (w.alloc (.cells #[.int .u16 k.1, .string k.2] 82)) (Below.heap_alloc _ _ _ h.lt)
  generalize look k l = o at hrun ⊢
  cases o with
  | none =>
    simp only [Option.getD_none, Option.isSome_none] at hrun
    unfold namedVal at *
    go_enter Try.func76, Try.ntmps76
    go_wp2
    go_ret
    exact ⟨rfl, below_new _ _⟩
  | some v =>
    simp only [Option.getD_some, Option.isSome_some] at hrun
    unfold namedVal at *
    go_enter Try.func76, Try.ntmps76
    go_wp2
    go_ret
    exact ⟨rfl, below_new _ _⟩

theorem addNm_c (w : World) (r : Nat) (l : List ((Int × ByteArray) × Int)) (h : MapNm w r l) (k : (Int × ByteArray)) (i : Int) :
    Calls Try.prog 52 #[.map (some r), namedVal k, .int .i64 i] w fun e w' => e = .returned (.bool (look k l).isNone) ∧
      MapNm w' r (addKey l k i) ∧ w.grownBy w' (some r) := by
  have hlt := h.lt
  have hl : ∀ w', w'.heap[r]? = w.heap[r]? → (Instr.lookup 86 (.map (some r)) (namedVal k) true).run Try.prog w' = .ok (.tuple #[.int .i64 ((look k l).getD 0), .bool (look k l).isSome]) w' := by
    intro w' hw
    have := (h.kept hw).lookup lawNm Try.underlying86 (fun _ _ => trivial) (k := k) trivial (Try.zeroValue3 w') true
    rw [this]
    cases look k l <;> simp
  have hrun := hl (w.alloc (.cells #[.int .u16 k.1, .string k.2] 82)) (Below.heap_alloc _ _ _ h.lt)
  cases ho : look k l with
  | none =>
    rw [ho] at hrun
    simp only [Option.getD_none, Option.isSome_none] at hrun
    obtain ⟨w2, hput, hm2, hg2, hs2⟩ := MapAt.put (P := Try.prog) (w := (w.alloc (.cells #[.int .u16 k.1, .string k.2] 82))) lawNm Try.underlying86 (h.kept (Below.heap_alloc _ _ _ h.lt)) (fun _ _ => trivial) (k := k) trivial ho i
    have Hm2 := hid hm2
    have Hg2 := hid hg2
    have Ho := hid ho
    clear hl hm2 hg2 hs2 ho h
    unfold namedVal at *
    go_enter Try.func52, Try.ntmps52
    go_wp2
    go_ret
    exact ⟨rfl, by rw [addKey_none Ho.out]; exact Hm2.out, gtrans (World.grownBy_alloc _ _ _) Hg2.out⟩
  | some v =>
    rw [ho] at hrun
    simp only [Option.getD_some, Option.isSome_some] at hrun
    have Ho := hid ho
    have H := hid h
    clear hl ho h
    unfold namedVal at *
    go_enter Try.func52, Try.ntmps52
    go_wp2
    go_ret
    exact ⟨rfl, by rw [addKey_some Ho.out]; exact H.out.kept (Below.heap_alloc _ _ _ hlt), World.grownBy_alloc _ _ _⟩
end Go.Proofs.Ytlccbejhamkdoaa
