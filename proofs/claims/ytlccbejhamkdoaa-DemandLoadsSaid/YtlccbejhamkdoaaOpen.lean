/- a configuration that came in, laid open -/
import Derived.Test.YtlccbejhamkdoaaData
import Derived.Test.YtlccbejhamkdoaaChecked
import Derived.ProofKit
import Derived.Deep.Slices
import Derived.SizedLaws
import Derived.KernelRfl
namespace Go.Proofs.Ytlccbejhamkdoaa
open Go.RowKit Go.ChangeShapes Go.WideShapes Go.Deep

theorem list_of {α : Type} [Inhabited α] {Q : Nat → α → Prop} : ∀ n, (∀ i, i < n → ∃ x, Q i x) → ∃ l : List α, l.length = n ∧ ∀ i (h : i < l.length), Q i l[i]
  | 0, _ => ⟨[], rfl, fun i h => by simp at h⟩
  | n + 1, h => by
    obtain ⟨l, hl, hq⟩ := list_of n (fun i hi => h i (by omega))
    obtain ⟨x, hx⟩ := h n (by omega)
    refine ⟨l ++ [x], by simp [hl], fun i hi => ?_⟩
    by_cases hin : i < l.length
    · rw [List.getElem_append_left hin]; exact hq i hin
    · have : i = l.length := by simp at hi; omega
      subst this
      simp only [List.getElem_concat_length]
      rw [hl]; exact hx

theorem addr_add (b o n : Nat) : (⟨b, o, none⟩ : Addr).add n = ⟨b, o + n, none⟩ := by
  unfold Addr.add
  split
  · rename_i h; rw [h]; rfl
  · rfl

section
variable {H : Type} {enc : TypeId × Value → H} {P : Program} {W : World}

/-- what a section's datum is: so many elements -/
def SecD (d : DataW H) (n : Nat) (Q : Nat → DataW H → Prop) : Prop :=
  (d = .nil ∧ n = 0) ∨ ∃ (D : Nat → DataW H) (spare : List (DataW H)), d = .slice ((List.range n).map D) spare ∧ ∀ i, i < n → Q i (D i)

/-- a slice whose elements lie in sz cells each -/
theorem open_rows {t e : TypeId} {fuel sz : Nat} {v : Value} {x : DataW H × List MemPlace} (ht : P.underlying t = some (.slice e)) (hsz : P.cellsOf e = sz) (hpos : 0 < sz)
    (h : DataW.trod enc P W 0 (fun _ => true) true fuel t [v] = some x) :
    ∃ (a : Option Addr) (len cap n : Nat), v = .slice a len cap ∧ len ≤ cap ∧ cap ≤ maxLen ∧
      SecD x.1 len (fun i di => ∃ b o cs pl, a = some ⟨b, o, none⟩ ∧ CellsAt W b (o + i * sz) cs ∧ cs.length = sz ∧ DataW.trod enc P W 0 (fun _ => true) true n e cs = some (di, pl)) := by
  rcases open_slice ht h with ⟨hcs, hx⟩ | ⟨a, len, cap, m, n, D, Pl, hcs, _, hl, hm, hmm, hx, hi⟩
  · simp only [List.cons.injEq, and_true] at hcs
    subst hcs
    exact ⟨none, 0, 0, 0, rfl, Nat.le_refl _, Nat.zero_le _, .inl ⟨by rw [hx], rfl⟩⟩
  · simp only [List.cons.injEq, and_true] at hcs
    subst hcs
    refine ⟨some a, len, cap, n, rfl, hl, hm, .inr ⟨D, _, by rw [hx], fun i hil => ?_⟩⟩
    simp only [if_true] at hmm
    have hspot : a = ⟨a.block, a.off, none⟩ := by
      obtain ⟨cs, hc, _⟩ := hi 0 (by omega)
      obtain ⟨_, hcl, hat⟩ := World.cells?_some hc
      have h0 := hat 0 (by omega)
      rw [List.getElem?_eq_getElem (by omega)] at h0
      simp only [Nat.zero_mul, Addr.add, if_true] at h0
      obtain ⟨b, o, s⟩ := a
      cases s with
      | none => rfl
      | some s =>
        unfold World.cell? at h0
        simp only [Option.isSome_some, if_true] at h0
        split at h0 <;> cases h0
    obtain ⟨cs, hc, htr⟩ := hi i (by omega)
    rw [hsz] at hc
    obtain ⟨_, hcl, hat⟩ := World.cells?_some hc
    refine ⟨a.block, a.off, cs, Pl i, by rw [← hspot], fun j u hj => ?_, hcl, htr⟩
    have hjl : j < sz := by rw [← hcl]; exact (List.getElem?_eq_some_iff.1 hj).1
    have := hat j hjl
    rw [hspot, addr_add, addr_add, hj] at this
    exact this
end
/-! ### records -/
theorem len2 {α : Type} {l : List α} (h : l.length = 2) : ∃ c0 c1, l = [c0, c1] := by
  match l, h with
  | [c0, c1], _ => exact ⟨c0, c1, rfl⟩
theorem len3 {α : Type} {l : List α} (h : l.length = 3) : ∃ c0 c1 c2, l = [c0, c1, c2] := by
  match l, h with
  | [c0, c1, c2], _ => exact ⟨c0, c1, c2, rfl⟩
theorem len4 {α : Type} {l : List α} (h : l.length = 4) : ∃ c0 c1 c2 c3, l = [c0, c1, c2, c3] := by
  match l, h with
  | [c0, c1, c2, c3], _ => exact ⟨c0, c1, c2, c3, rfl⟩
theorem len5 {α : Type} {l : List α} (h : l.length = 5) : ∃ c0 c1 c2 c3 c4, l = [c0, c1, c2, c3, c4] := by
  match l, h with
  | [c0, c1, c2, c3, c4], _ => exact ⟨c0, c1, c2, c3, c4, rfl⟩
theorem len6 {α : Type} {l : List α} (h : l.length = 6) : ∃ c0 c1 c2 c3 c4 c5, l = [c0, c1, c2, c3, c4, c5] := by
  match l, h with
  | [c0, c1, c2, c3, c4, c5], _ => exact ⟨c0, c1, c2, c3, c4, c5, rfl⟩
theorem wf_u8 {n : Int} (h : (Lit.int .u8 n).wf = true) : U8 n := by simpa [Lit.wf, IntKind.min, IntKind.max, IntKind.signed, IntKind.bits, U8] using h
theorem wf_u16 {n : Int} (h : (Lit.int .u16 n).wf = true) : U16 n := by simpa [Lit.wf, IntKind.min, IntKind.max, IntKind.signed, IntKind.bits, U16] using h
theorem wf_u32 {n : Int} (h : (Lit.int .u32 n).wf = true) : U32 n := by simpa [Lit.wf, IntKind.min, IntKind.max, IntKind.signed, IntKind.bits, U32] using h
theorem wf_u64 {n : Int} (h : (Lit.int .u64 n).wf = true) : U64 n := by simpa [Lit.wf, IntKind.min, IntKind.max, IntKind.signed, IntKind.bits, U64] using h
theorem cells_u8 : Try.prog.cellsOf 5 = 1 := by kernel_rfl
theorem cells_u16 : Try.prog.cellsOf 34 = 1 := by kernel_rfl
theorem cells_u32 : Try.prog.cellsOf 38 = 1 := by kernel_rfl
theorem cells_u64 : Try.prog.cellsOf 22 = 1 := by kernel_rfl
theorem cells_bool : Try.prog.cellsOf 4 = 1 := by kernel_rfl
theorem cells_str : Try.prog.cellsOf 9 = 1 := by kernel_rfl
section
variable {H : Type} {enc : TypeId × Value → H} {W : World}

theorem open_Part {n : Nat} {cs : List Value} {x : DataW H × List MemPlace} (h : DataW.trod enc Try.prog W 0 (fun _ => true) true n 36 cs = some x) (hl : cs.length = 4) : ∃ p : Part, cs = encPart p ∧ p.ok := by
  obtain ⟨xs, m, _, _, _, hlen, hf⟩ := DataW.trod_struct Try.underlying36 h
  obtain ⟨c0, c1, c2, c3, rfl⟩ := len4 hl
  obtain ⟨x0, x1, x2, x3, rfl⟩ := len4 hlen
  have f0 : DataW.trod enc Try.prog W 0 (fun _ => true) true m 34 [c0] = some x0 := by simpa [cells_u16] using hf 0 _ rfl
  obtain ⟨n0, e0, _, w0⟩ := DataW.trod_int Try.underlying34 f0
  simp only [List.cons.injEq, and_true] at e0
  subst e0
  have f1 : DataW.trod enc Try.prog W 0 (fun _ => true) true m 9 [c1] = some x1 := by simpa [cells_str] using hf 1 _ rfl
  obtain ⟨n1, e1, _, w1⟩ := DataW.trod_string Try.underlying9 f1
  simp only [List.cons.injEq, and_true] at e1
  subst e1
  have f2 : DataW.trod enc Try.prog W 0 (fun _ => true) true m 22 [c2] = some x2 := by simpa [cells_u64] using hf 2 _ rfl
  obtain ⟨n2, e2, _, w2⟩ := DataW.trod_int Try.underlying22 f2
  simp only [List.cons.injEq, and_true] at e2
  subst e2
  have f3 : DataW.trod enc Try.prog W 0 (fun _ => true) true m 22 [c3] = some x3 := by simpa [cells_u64] using hf 3 _ rfl
  obtain ⟨n3, e3, _, w3⟩ := DataW.trod_int Try.underlying22 f3
  simp only [List.cons.injEq, and_true] at e3
  subst e3
  exact ⟨⟨n0, n1, n2, n3⟩, rfl, wf_u16 w0, w1, wf_u64 w2, wf_u64 w3⟩

theorem open_Win {n : Nat} {cs : List Value} {x : DataW H × List MemPlace} (h : DataW.trod enc Try.prog W 0 (fun _ => true) true n 91 cs = some x) (hl : cs.length = 3) : ∃ p : Win, cs = encWin p ∧ p.ok := by
  obtain ⟨xs, m, _, _, _, hlen, hf⟩ := DataW.trod_struct Try.underlying91 h
  obtain ⟨c0, c1, c2, rfl⟩ := len3 hl
  obtain ⟨x0, x1, x2, rfl⟩ := len3 hlen
  have f0 : DataW.trod enc Try.prog W 0 (fun _ => true) true m 22 [c0] = some x0 := by simpa [cells_u64] using hf 0 _ rfl
  obtain ⟨n0, e0, _, w0⟩ := DataW.trod_int Try.underlying22 f0
  simp only [List.cons.injEq, and_true] at e0
  subst e0
  have f1 : DataW.trod enc Try.prog W 0 (fun _ => true) true m 22 [c1] = some x1 := by simpa [cells_u64] using hf 1 _ rfl
  obtain ⟨n1, e1, _, w1⟩ := DataW.trod_int Try.underlying22 f1
  simp only [List.cons.injEq, and_true] at e1
  subst e1
  have f2 : DataW.trod enc Try.prog W 0 (fun _ => true) true m 34 [c2] = some x2 := by simpa [cells_u16] using hf 2 _ rfl
  obtain ⟨n2, e2, _, w2⟩ := DataW.trod_int Try.underlying34 f2
  simp only [List.cons.injEq, and_true] at e2
  subst e2
  exact ⟨⟨n0, n1, n2⟩, rfl, wf_u64 w0, wf_u64 w1, wf_u16 w2⟩

theorem open_Reg {n : Nat} {cs : List Value} {x : DataW H × List MemPlace} (h : DataW.trod enc Try.prog W 0 (fun _ => true) true n 181 cs = some x) (hl : cs.length = 5) : ∃ p : Reg, cs = encReg p ∧ p.ok := by
  obtain ⟨xs, m, _, _, _, hlen, hf⟩ := DataW.trod_struct Try.underlying181 h
  obtain ⟨c0, c1, c2, c3, c4, rfl⟩ := len5 hl
  obtain ⟨x0, x1, x2, x3, x4, rfl⟩ := len5 hlen
  have f0 : DataW.trod enc Try.prog W 0 (fun _ => true) true m 22 [c0] = some x0 := by simpa [cells_u64] using hf 0 _ rfl
  obtain ⟨n0, e0, _, w0⟩ := DataW.trod_int Try.underlying22 f0
  simp only [List.cons.injEq, and_true] at e0
  subst e0
  have f1 : DataW.trod enc Try.prog W 0 (fun _ => true) true m 22 [c1] = some x1 := by simpa [cells_u64] using hf 1 _ rfl
  obtain ⟨n1, e1, _, w1⟩ := DataW.trod_int Try.underlying22 f1
  simp only [List.cons.injEq, and_true] at e1
  subst e1
  have f2 : DataW.trod enc Try.prog W 0 (fun _ => true) true m 34 [c2] = some x2 := by simpa [cells_u16] using hf 2 _ rfl
  obtain ⟨n2, e2, _, w2⟩ := DataW.trod_int Try.underlying34 f2
  simp only [List.cons.injEq, and_true] at e2
  subst e2
  have f3 : DataW.trod enc Try.prog W 0 (fun _ => true) true m 5 [c3] = some x3 := by simpa [cells_u8] using hf 3 _ rfl
  obtain ⟨n3, e3, _, w3⟩ := DataW.trod_int Try.underlying5 f3
  simp only [List.cons.injEq, and_true] at e3
  subst e3
  have f4 : DataW.trod enc Try.prog W 0 (fun _ => true) true m 4 [c4] = some x4 := by simpa [cells_bool] using hf 4 _ rfl
  obtain ⟨n4, e4, _⟩ := DataW.trod_bool Try.underlying4 f4
  simp only [List.cons.injEq, and_true] at e4
  subst e4
  exact ⟨⟨n0, n1, n2, n3, n4⟩, rfl, wf_u64 w0, wf_u64 w1, wf_u16 w2, wf_u8 w3⟩

theorem open_Prt {n : Nat} {cs : List Value} {x : DataW H × List MemPlace} (h : DataW.trod enc Try.prog W 0 (fun _ => true) true n 40 cs = some x) (hl : cs.length = 6) : ∃ p : Prt, cs = encPrt p ∧ p.ok := by
  obtain ⟨xs, m, _, _, _, hlen, hf⟩ := DataW.trod_struct Try.underlying40 h
  obtain ⟨c0, c1, c2, c3, c4, c5, rfl⟩ := len6 hl
  obtain ⟨x0, x1, x2, x3, x4, x5, rfl⟩ := len6 hlen
  have f0 : DataW.trod enc Try.prog W 0 (fun _ => true) true m 34 [c0] = some x0 := by simpa [cells_u16] using hf 0 _ rfl
  obtain ⟨n0, e0, _, w0⟩ := DataW.trod_int Try.underlying34 f0
  simp only [List.cons.injEq, and_true] at e0
  subst e0
  have f1 : DataW.trod enc Try.prog W 0 (fun _ => true) true m 34 [c1] = some x1 := by simpa [cells_u16] using hf 1 _ rfl
  obtain ⟨n1, e1, _, w1⟩ := DataW.trod_int Try.underlying34 f1
  simp only [List.cons.injEq, and_true] at e1
  subst e1
  have f2 : DataW.trod enc Try.prog W 0 (fun _ => true) true m 9 [c2] = some x2 := by simpa [cells_str] using hf 2 _ rfl
  obtain ⟨n2, e2, _, w2⟩ := DataW.trod_string Try.underlying9 f2
  simp only [List.cons.injEq, and_true] at e2
  subst e2
  have f3 : DataW.trod enc Try.prog W 0 (fun _ => true) true m 4 [c3] = some x3 := by simpa [cells_bool] using hf 3 _ rfl
  obtain ⟨n3, e3, _⟩ := DataW.trod_bool Try.underlying4 f3
  simp only [List.cons.injEq, and_true] at e3
  subst e3
  have f4 : DataW.trod enc Try.prog W 0 (fun _ => true) true m 4 [c4] = some x4 := by simpa [cells_bool] using hf 4 _ rfl
  obtain ⟨n4, e4, _⟩ := DataW.trod_bool Try.underlying4 f4
  simp only [List.cons.injEq, and_true] at e4
  subst e4
  have f5 : DataW.trod enc Try.prog W 0 (fun _ => true) true m 38 [c5] = some x5 := by simpa [cells_u32] using hf 5 _ rfl
  obtain ⟨n5, e5, _, w5⟩ := DataW.trod_int Try.underlying38 f5
  simp only [List.cons.injEq, and_true] at e5
  subst e5
  exact ⟨⟨n0, n1, n2, n3, n4, n5⟩, rfl, wf_u16 w0, wf_u16 w1, w2, wf_u32 w5⟩

instance : Inhabited Part := ⟨⟨0, ByteArray.empty, 0, 0⟩⟩
instance : Inhabited Win := ⟨⟨0, 0, 0⟩⟩
instance : Inhabited Reg := ⟨⟨0, 0, 0, 0, false⟩⟩
instance : Inhabited Prt := ⟨⟨0, 0, ByteArray.empty, false, false, 0⟩⟩
instance : Inhabited Chn := ⟨⟨0, 0, []⟩⟩

theorem rows_of {α : Type} [Inhabited α] {e : TypeId} {sz n len : Nat} {encr : α → List Value} {ok : α → Prop} {a : Option Addr} {d : DataW H}
    (hopen : ∀ (cs : List Value) (x : DataW H × List MemPlace), DataW.trod enc Try.prog W 0 (fun _ => true) true n e cs = some x → cs.length = sz → ∃ p : α, cs = encr p ∧ ok p)
    (hs : SecD d len (fun i di => ∃ b o cs pl, a = some ⟨b, o, none⟩ ∧ CellsAt W b (o + i * sz) cs ∧ cs.length = sz ∧ DataW.trod enc Try.prog W 0 (fun _ => true) true n e cs = some (di, pl))) :
    ∃ l : List α, l.length = len ∧ RowAt sz encr W a l ∧ ∀ p ∈ l, ok p := by
  rcases hs with ⟨_, rfl⟩ | ⟨D, spare, _, hi⟩
  · exact ⟨[], rfl, RowAt.nil _ _ _ _, fun p hp => by simp at hp⟩
  · obtain ⟨l, hl, hq⟩ := list_of (Q := fun i (p : α) => ok p ∧ ∃ b o, a = some ⟨b, o, none⟩ ∧ CellsAt W b (o + i * sz) (encr p)) len (fun i hil => by
      obtain ⟨b, o, cs, pl, ha, hc, hlen, htr⟩ := hi i hil
      obtain ⟨p, rfl, hp⟩ := hopen _ _ htr hlen
      exact ⟨p, hp, b, o, ha, hc⟩)
    refine ⟨l, hl, fun k x hx => ?_, fun p hp => ?_⟩
    · obtain ⟨hk, rfl⟩ := List.getElem?_eq_some_iff.1 hx
      obtain ⟨_, b, o, ha, hc⟩ := hq k hk
      exact ⟨b, o, ha, hc⟩
    · obtain ⟨k, hk, rfl⟩ := List.getElem_of_mem hp
      exact (hq k hk).1

theorem open_u16 {n : Nat} (cs : List Value) (x : DataW H × List MemPlace) (h : DataW.trod enc Try.prog W 0 (fun _ => true) true n 34 cs = some x) (_ : cs.length = 1) : ∃ p : Int, cs = [.int .u16 p] ∧ U16 p := by
  obtain ⟨m, e, _, w⟩ := DataW.trod_int Try.underlying34 h
  exact ⟨m, e, wf_u16 w⟩

theorem cells_u16s : Try.prog.cellsOf 42 = 1 := by kernel_rfl

/-- a channel: its cells, and what its datum is -/
theorem open_Chn {n : Nat} {cs : List Value} {x : DataW H × List MemPlace} (h : DataW.trod enc Try.prog W 0 (fun _ => true) true n 44 cs = some x) (hl : cs.length = 3) :
    ∃ (p : Chn) (d : Option Addr) (cc : Nat), cs = [.int .u16 p.id, .int .u16 p.src, .slice d p.dests.length cc] ∧ p.dests.length ≤ cc ∧ RowAt 1 (fun n => [.int .u16 n]) W d p.dests ∧ p.ok ∧
      ∃ d0 d1 d2, x.1 = .agg [d0, d1, d2] ∧ SecD d2 p.dests.length (fun _ _ => True) := by
  obtain ⟨xs, m, _, hx, _, hlen, hf⟩ := DataW.trod_struct Try.underlying44 h
  obtain ⟨c0, c1, c2, rfl⟩ := len3 hl
  obtain ⟨x0, x1, x2, rfl⟩ := len3 hlen
  have f0 : DataW.trod enc Try.prog W 0 (fun _ => true) true m 34 [c0] = some x0 := by simpa [cells_u16] using hf 0 _ rfl
  have f1 : DataW.trod enc Try.prog W 0 (fun _ => true) true m 34 [c1] = some x1 := by simpa [cells_u16] using hf 1 _ rfl
  have f2 : DataW.trod enc Try.prog W 0 (fun _ => true) true m 42 [c2] = some x2 := by simpa [cells_u16s] using hf 2 _ rfl
  obtain ⟨n0, e0, _, w0⟩ := DataW.trod_int Try.underlying34 f0
  obtain ⟨n1, e1, _, w1⟩ := DataW.trod_int Try.underlying34 f1
  simp only [List.cons.injEq, and_true] at e0 e1
  subst e0 e1
  obtain ⟨d, len, cap, k, rfl, hcap, hmax, hs⟩ := open_rows Try.underlying42 cells_u16 (by decide) f2
  obtain ⟨l, hl2, hrow, hok⟩ := rows_of open_u16 hs
  subst hl2
  refine ⟨⟨n0, n1, l⟩, d, cap, rfl, hcap, hrow, ⟨wf_u16 w0, wf_u16 w1, hok, ?_⟩, x0.1, x1.1, x2.1, by rw [hx]; rfl, ?_⟩
  · unfold maxLen at hmax; exact Nat.le_trans hcap hmax
  · rcases hs with h0 | ⟨D, sp, hD, _⟩
    · exact .inl h0
    · exact .inr ⟨D, sp, hD, fun _ _ => trivial⟩

theorem chans_of {n len : Nat} {a : Option Addr} {d : DataW H}
    (hs : SecD d len (fun i di => ∃ b o cs pl, a = some ⟨b, o, none⟩ ∧ CellsAt W b (o + i * 3) cs ∧ cs.length = 3 ∧ DataW.trod enc Try.prog W 0 (fun _ => true) true n 44 cs = some (di, pl))) :
    ∃ l : List Chn, l.length = len ∧ ChnAt W a l ∧ (∀ p ∈ l, p.ok) ∧ SecD d len (fun i di => ∃ d0 d1 d2, di = .agg [d0, d1, d2] ∧ SecD d2 (l[i]?.getD default).dests.length (fun _ _ => True)) := by
  rcases hs with ⟨hn, rfl⟩ | ⟨D, spare, hD, hi⟩
  · exact ⟨[], rfl, fun k x hx => by simp at hx, fun p hp => by simp at hp, .inl ⟨hn, rfl⟩⟩
  · obtain ⟨l, hl, hq⟩ := list_of (Q := fun i (p : Chn) => p.ok ∧ (∃ b o dd cc, a = some ⟨b, o, none⟩ ∧ CellsAt W b (o + i * 3) [.int .u16 p.id, .int .u16 p.src, .slice dd p.dests.length cc] ∧ p.dests.length ≤ cc ∧ RowAt 1 (fun n => [.int .u16 n]) W dd p.dests) ∧
        ∃ d0 d1 d2, D i = .agg [d0, d1, d2] ∧ SecD d2 p.dests.length (fun _ _ => True)) len (fun i hil => by
      obtain ⟨b, o, cs, pl, ha, hc, hlen, htr⟩ := hi i hil
      obtain ⟨p, dd, cc, rfl, hcc, hr, hp, hd⟩ := open_Chn htr hlen
      exact ⟨p, hp, ⟨b, o, dd, cc, ha, hc, hcc, hr⟩, hd⟩)
    refine ⟨l, hl, fun k x hx => ?_, fun p hp => ?_, .inr ⟨D, spare, hD, fun i hil => ?_⟩⟩
    · obtain ⟨hk, rfl⟩ := List.getElem?_eq_some_iff.1 hx
      exact (hq k hk).2.1
    · obtain ⟨k, hk, rfl⟩ := List.getElem_of_mem hp
      exact (hq k hk).1
    · have hk : i < l.length := by omega
      simp only [List.getElem?_eq_getElem hk, Option.getD_some]
      exact (hq i hk).2.2

set_option maxRecDepth 100000 in
theorem sec_reach {t e : TypeId} {d : DataW H} {len : Nat} {Q : Nat → DataW H → Prop} (ht : Try.prog.underlying t = some (.slice e)) (hs : SecD d len Q) (hw : ∀ n ∈ d.weights Try.prog t, n ≤ reachBytes) : len * Try.prog.bytesOf e ≤ 140737488351232 := by
  rcases hs with ⟨_, rfl⟩ | ⟨D, spare, rfl, _⟩
  · simp
  · have := hw ((((List.range len).map D).length + spare.length) * Try.prog.bytesOf e) (by simp [DataW.weights, ht])
    have h2 : len * Try.prog.bytesOf e ≤ (((List.range len).map D).length + spare.length) * Try.prog.bytesOf e := Nat.mul_le_mul_right _ (by simp)
    unfold reachBytes at this
    omega

/-- what the datum of a configuration is -/
def CfgD (d : DataW H) (c : Cfg) : Prop := ∃ d0 d1 d2 d3 d4 d5, d = .agg [d0, d1, d2, d3, d4, d5] ∧ SecD d1 c.parts.length (fun _ _ => True) ∧ SecD d2 c.wins.length (fun _ _ => True) ∧ SecD d3 c.regs.length (fun _ _ => True) ∧
  SecD d4 c.ports.length (fun _ _ => True) ∧ SecD d5 c.chans.length (fun i di => ∃ e0 e1 e2, di = .agg [e0, e1, e2] ∧ SecD e2 (c.chans[i]?.getD default).dests.length (fun _ _ => True))

theorem SecD.any {d : DataW H} {len : Nat} {Q : Nat → DataW H → Prop} (h : SecD d len Q) : SecD d len (fun _ _ => True) := by
  rcases h with h0 | ⟨D, sp, hD, _⟩
  · exact .inl h0
  · exact .inr ⟨D, sp, hD, fun _ _ => trivial⟩

theorem cells_part : Try.prog.cellsOf 36 = 4 := by kernel_rfl
theorem cells_win : Try.prog.cellsOf 91 = 3 := by kernel_rfl
theorem cells_reg : Try.prog.cellsOf 181 = 5 := by kernel_rfl
theorem cells_prt : Try.prog.cellsOf 40 = 6 := by kernel_rfl
theorem cells_chn : Try.prog.cellsOf 44 = 3 := by kernel_rfl
theorem cells_s1 : Try.prog.cellsOf 23 = 1 := by kernel_rfl
theorem cells_s2 : Try.prog.cellsOf 24 = 1 := by kernel_rfl
theorem cells_s3 : Try.prog.cellsOf 25 = 1 := by kernel_rfl
theorem cells_s4 : Try.prog.cellsOf 26 = 1 := by kernel_rfl
theorem cells_s5 : Try.prog.cellsOf 27 = 1 := by kernel_rfl
theorem cells_cfg : Try.prog.cellsOf 29 = 6 := by kernel_rfl
theorem bytes_part : Try.prog.bytesOf 36 = 40 := by kernel_rfl
theorem bytes_win : Try.prog.bytesOf 91 = 24 := by kernel_rfl
theorem bytes_reg : Try.prog.bytesOf 181 = 24 := by kernel_rfl
theorem bytes_prt : Try.prog.bytesOf 40 = 32 := by kernel_rfl
theorem bytes_chn : Try.prog.bytesOf 44 = 32 := by kernel_rfl

set_option maxRecDepth 100000 in
/-- A CONFIGURATION THAT CAME IN lies in memory as 'CfgAt' says -/
theorem open_cfg {v : Value} {d : DataW H} {p : List MemPlace} {base : Nat} (hv : Value.okWide Try.prog W .any base 29 v) (h : DataW.Trod enc Try.prog W 0 (fun _ => true) true 29 v d p)
    (hw : ∀ n ∈ d.weights Try.prog 29, n ≤ reachBytes) : ∃ c A, v = cfgVal c A ∧ CfgAt W c A ∧ CfgD d c := by
  obtain ⟨cs, rfl, hsz⟩ := okWide_struct Try.underlying29 hv
  obtain ⟨fuel, hf⟩ := h
  obtain ⟨xs, m, _, hx, _, hlen, hg⟩ := DataW.trod_struct Try.underlying29 hf
  rw [cells_cfg] at hsz
  obtain ⟨cl⟩ := cs
  obtain ⟨c0, c1, c2, c3, c4, c5, rfl⟩ := len6 (l := cl) hsz
  obtain ⟨x0, x1, x2, x3, x4, x5, rfl⟩ := len6 hlen
  have f0 : DataW.trod enc Try.prog W 0 (fun _ => true) true m 22 [c0] = some x0 := by simpa [cells_u64, Value.cells] using hg 0 _ rfl
  have f1 : DataW.trod enc Try.prog W 0 (fun _ => true) true m 23 [c1] = some x1 := by simpa [cells_s1, Value.cells] using hg 1 _ rfl
  have f2 : DataW.trod enc Try.prog W 0 (fun _ => true) true m 24 [c2] = some x2 := by simpa [cells_s2, Value.cells] using hg 2 _ rfl
  have f3 : DataW.trod enc Try.prog W 0 (fun _ => true) true m 25 [c3] = some x3 := by simpa [cells_s3, Value.cells] using hg 3 _ rfl
  have f4 : DataW.trod enc Try.prog W 0 (fun _ => true) true m 26 [c4] = some x4 := by simpa [cells_s4, Value.cells] using hg 4 _ rfl
  have f5 : DataW.trod enc Try.prog W 0 (fun _ => true) true m 27 [c5] = some x5 := by simpa [cells_s5, Value.cells] using hg 5 _ rfl
  have hd : d = .agg [x0.1, x1.1, x2.1, x3.1, x4.1, x5.1] := by have := congrArg Prod.fst hx; simpa using this
  have hwe : DataW.weights Try.prog 29 (.agg [x0.1, x1.1, x2.1, x3.1, x4.1, x5.1] : DataW H) =
      x0.1.weights Try.prog 22 ++ (x1.1.weights Try.prog 23 ++ (x2.1.weights Try.prog 24 ++ (x3.1.weights Try.prog 25 ++ (x4.1.weights Try.prog 26 ++ (x5.1.weights Try.prog 27 ++ []))))) := by
    simp only [DataW.weights, Try.underlying29]
    rfl
  rw [hd, hwe] at hw
  clear hwe hg hx
  obtain ⟨n0, e0, _, w0⟩ := DataW.trod_int Try.underlying22 f0
  simp only [List.cons.injEq, and_true] at e0
  subst e0
  obtain ⟨a1, l1, k1, m1, rfl, hk1, _, s1⟩ := open_rows Try.underlying23 cells_part (by decide) f1
  obtain ⟨a2, l2, k2, m2, rfl, hk2, _, s2⟩ := open_rows Try.underlying24 cells_win (by decide) f2
  obtain ⟨a3, l3, k3, m3, rfl, hk3, _, s3⟩ := open_rows Try.underlying25 cells_reg (by decide) f3
  obtain ⟨a4, l4, k4, m4, rfl, hk4, _, s4⟩ := open_rows Try.underlying26 cells_prt (by decide) f4
  obtain ⟨a5, l5, k5, m5, rfl, hk5, _, s5⟩ := open_rows Try.underlying27 cells_chn (by decide) f5
  have r1 := sec_reach Try.underlying23 s1 (fun n hn => hw n (by simp [hn]))
  have r2 := sec_reach Try.underlying24 s2 (fun n hn => hw n (by simp [hn]))
  have r3 := sec_reach Try.underlying25 s3 (fun n hn => hw n (by simp [hn]))
  have r4 := sec_reach Try.underlying26 s4 (fun n hn => hw n (by simp [hn]))
  have r5 := sec_reach Try.underlying27 s5 (fun n hn => hw n (by simp [hn]))
  rw [bytes_part] at r1
  rw [bytes_win] at r2
  rw [bytes_reg] at r3
  rw [bytes_prt] at r4
  rw [bytes_chn] at r5
  obtain ⟨p1, rfl, row1, ok1⟩ := rows_of (fun cs x => open_Part) s1
  obtain ⟨p2, rfl, row2, ok2⟩ := rows_of (fun cs x => open_Win) s2
  obtain ⟨p3, rfl, row3, ok3⟩ := rows_of (fun cs x => open_Reg) s3
  obtain ⟨p4, rfl, row4, ok4⟩ := rows_of (fun cs x => open_Prt) s4
  obtain ⟨p5, rfl, row5, ok5, sd5⟩ := chans_of s5
  exact ⟨⟨n0, p1, p2, p3, p4, p5⟩, ⟨a1, k1, a2, k2, a3, k3, a4, k4, a5, k5⟩, rfl, ⟨⟨wf_u64 w0, ok1, ok2, ok3, ok4, ok5, r1, r2, r3, r4, r5⟩, row1, row2, row3, row4, row5, hk1, hk2, hk3, hk4, hk5⟩,
    x0.1, x1.1, x2.1, x3.1, x4.1, x5.1, hd, s1.any, s2.any, s3.any, s4.any, sd5⟩
end
end Go.Proofs.Ytlccbejhamkdoaa
