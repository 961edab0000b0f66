/- laws of append in the form that these texts use -/
import Derived.Test.YtlccbejhamkdoaaData
namespace Go.Proofs.Ytlccbejhamkdoaa
open Go.RowKit

/-- append of literal elements to a slice that is nil or the call's own -/
theorem wp_append_lit {P : Program} {ops : Array Oper} {rest : List Oper} {o : Oper} {a : Act} {Q : Exit → Act → World → Prop} (hgd : o.guard = none) (s x : Operand) (t e : TypeId)
    (ho : o.op = .call { callee := .builtin .append, args := #[s, x], argTypes := #[t, t] })
    {z : Value} {size bytes : Nat} (ht : P.underlying t = some (.slice e)) (hinfo : (P.info? e).map (fun i => (i.zero, i.size, i.bytes)) = some (some z, size, bytes)) (hzs : z.cells.size = size) (hsz : 0 < size)
    (w0 : World) (base : Nat) (v : Value) (n : Nat) (xs news : List Value) (m : Nat) (hs : a.eval s = v) (hx : a.eval x = .slice (some ⟨w0.heap.size, 0, none⟩) m m) (hown : w0.ownsRow base e size v n xs)
    (hl : news.length = m * size) (h1 : ∀ u ∈ news, u.oneCell' = true) (hb : (n + m) * bytes ≤ 140737488355328) (hn : n + m ≤ 9223372036854775807) (hbase : base ≤ w0.heap.size)
    (h : ∀ v' w', w'.ownsRow base e size v' (n + m) (xs ++ news) → w0.grownBy w' v.ownBlock → (v' = .slice none 0 0 ↔ v = .slice none 0 0 ∧ m = 0) → wpList P ops Q rest (a.put o.dst v') w') :
    wpList P ops Q (o :: rest) a (w0.alloc (.cells news.toArray e)) := by
  obtain ⟨i, hi, h2, h3, h4⟩ := info_parts hinfo
  refine wpList_append_own _ hgd s x t ho base e i z size bytes ht hi h2 h3 h4 hzs hsz v n xs hs (hown.alloc _) ⟨w0.heap.size, 0, none⟩ m m news hx hl ?_ h1 (by unfold maxLen; omega) hb (by simp; omega) ?_
  · intro j u hj
    have hadd : (⟨w0.heap.size, 0, none⟩ : Addr).add j = ⟨w0.heap.size, j, none⟩ := by
      unfold Addr.add
      split
      · rename_i h0; rw [h0]
      · simp
    rw [hadd]
    exact cell_of_heap (heap_new w0 _) (by simpa using hj)
  · intro v' w' g1 g2 g3
    exact h v' w' g1 (gtrans (World.grownBy_alloc _ _ _) g2) g3

/-- what a row of the call's own does to the rest -/
theorem below_own {w w1 w' : World} {base : Nat} {e : TypeId} {size n : Nat} {v : Value} {xs : List Value} (h : Below w.heap.size w w1) (hown : w1.ownsRow base e size v n xs) (hbase : w.heap.size ≤ base) (hg : w1.grownBy w' v.ownBlock) : Below w.heap.size w w' :=
  h.grown hg h.size (fun k hk => Nat.le_trans hbase (hown.lt k hk).1)

theorem own_slice {w : World} {base : Nat} {e : TypeId} {size n : Nat} {v : Value} {xs : List Value} (h : w.ownsRow base e size v n xs) : ∃ a cap, v = .slice a n cap ∧ n ≤ cap := by
  obtain ⟨_, h | ⟨g, cap, _, hv, _, _, hc, _⟩⟩ := h
  · obtain ⟨rfl, rfl⟩ := h
    exact ⟨none, 0, rfl, Nat.le_refl _⟩
  · exact ⟨_, cap, hv, hc⟩

theorem flatMap_get {α β : Type} {enc : α → List β} {sz : Nat} {l : List α} (henc : ∀ x ∈ l, (enc x).length = sz) {k j : Nat} {x : α} {u : β} (hx : l[k]? = some x) (hj : (enc x)[j]? = some u) : (l.flatMap enc)[k * sz + j]? = some u := by
  induction l generalizing k with
  | nil => simp at hx
  | cons y l ih =>
    rw [List.flatMap_cons]
    have hy : (enc y).length = sz := henc y (by simp)
    cases k with
    | zero =>
      simp only [List.getElem?_cons_zero, Option.some.injEq] at hx
      subst hx
      have hjl : j < (enc y).length := (List.getElem?_eq_some_iff.1 hj).1
      rw [List.getElem?_append_left (by omega)]
      simpa using hj
    | succ k =>
      have e : (k + 1) * sz + j = sz + (k * sz + j) := by rw [Nat.add_mul]; omega
      rw [e, List.getElem?_append_right (by rw [hy]; omega), hy, Nat.add_sub_cancel_left]
      exact ih (fun z hz => henc z (List.mem_cons_of_mem _ hz)) (by simpa using hx)

/-- an owned row reads as a row of records -/
theorem own_row {α : Type} {sz : Nat} {enc : α → List Value} {w : World} {base : Nat} {e : TypeId} {n cap : Nat} {a : Option Addr} {l : List α} (h : w.ownsRow base e sz (.slice a n cap) n (l.flatMap enc)) (henc : ∀ x ∈ l, (enc x).length = sz) (_hn : l.length = n) : RowAt sz enc w a l := by
  intro k x hx
  obtain ⟨hlen, h | ⟨g, cap', cur, hv, _, hh, hc, _, hsz, htake⟩⟩ := h
  · obtain ⟨_, rfl⟩ := h
    have : l = [] := List.eq_nil_of_length_eq_zero _hn
    subst this
    simp at hx
  · simp only [Value.slice.injEq] at hv
    obtain ⟨rfl, _, rfl⟩ := hv
    refine ⟨g, 0, rfl, fun j u hj => ?_⟩
    have hget := flatMap_get henc hx hj
    rw [← htake, List.getElem?_take] at hget
    split at hget
    · simp only [Nat.zero_add, World.cell?, hh]
      simpa using hget
    · cases hget
end Go.Proofs.Ytlccbejhamkdoaa
