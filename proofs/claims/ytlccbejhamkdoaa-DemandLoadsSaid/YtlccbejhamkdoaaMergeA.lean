/- the laws beneath conf.Merge: rows of the call's own, told apart by their element types -/
import Derived.Test.YtlccbejhamkdoaaOwn
import Derived.Test.YtlccbejhamkdoaaAux
import Derived.Laws.AppendOwnNone
import Derived.KernelRfl
namespace Go.Proofs.Ytlccbejhamkdoaa
open Go.RowKit

theorem info_part : (Try.prog.info? 36).map (fun i => (i.zero, i.size, i.bytes)) = some (some (.agg #[.int .u16 0, .string ByteArray.empty, .int .u64 0, .int .u64 0]), 4, 40) := by kernel_rfl
theorem info_win : (Try.prog.info? 91).map (fun i => (i.zero, i.size, i.bytes)) = some (some (.agg #[.int .u64 0, .int .u64 0, .int .u16 0]), 3, 24) := by kernel_rfl
theorem info_reg : (Try.prog.info? 181).map (fun i => (i.zero, i.size, i.bytes)) = some (some (.agg #[.int .u64 0, .int .u64 0, .int .u16 0, .int .u8 0, .bool false]), 5, 24) := by kernel_rfl
theorem info_prt : (Try.prog.info? 40).map (fun i => (i.zero, i.size, i.bytes)) = some (some (.agg #[.int .u16 0, .int .u16 0, .string ByteArray.empty, .bool false, .bool false, .int .u32 0]), 6, 32) := by kernel_rfl
theorem info_chn : (Try.prog.info? 44).map (fun i => (i.zero, i.size, i.bytes)) = some (some (.agg #[.int .u16 0, .int .u16 0, .slice none 0 0]), 3, 32) := by kernel_rfl

/-- append of nothing -/
theorem run_append_nil {P : Program} {w : World} {base : Nat} {size : Nat} (t ty e : TypeId) (i : TypeInfo) (ht : P.underlying t = some (.slice e)) (hi : P.info? e = some i)
    (v : Value) (n c : Nat) (xs : List Value) (hown : w.ownsRow base e size v n xs) :
    (Builtin.append_ #[t, t] ty #[v, .slice none 0 c]).run P w = .ok v w := by
  rcases hown.2 with ⟨rfl, rfl⟩ | ⟨g, cap, cur, rfl, _, _, hnc, _⟩
  · simp [Builtin.append_, run_underlying ht, sizeOf, typeInfo, hi, Builtin.lenOf, Builtin.firstCells]
  · simp [Builtin.append_, run_underlying ht, sizeOf, typeInfo, hi, Builtin.lenOf, Builtin.firstCells, hnc, storeCells]

theorem addr_add' (b o n : Nat) : (⟨b, o, none⟩ : Addr).add n = ⟨b, o + n, none⟩ := by
  unfold Addr.add
  split
  · rename_i h; rw [h]; rfl
  · rfl

/-- these cells lie behind that slice -/
def SrcAt (w : World) (ad : Option Addr) (news : List Value) : Prop := ∀ j u, news[j]? = some u → ∃ b o, ad = some ⟨b, o, none⟩ ∧ w.cell? ⟨b, o + j, none⟩ = some u

theorem flatMap_inv {α β : Type} {enc : α → List β} {sz : Nat} {l : List α} (henc : ∀ x, (enc x).length = sz) {j : Nat} {u : β} (h : (l.flatMap enc)[j]? = some u) :
    ∃ k x r, l[k]? = some x ∧ (enc x)[r]? = some u ∧ j = k * sz + r := by
  induction l generalizing j with
  | nil => simp at h
  | cons y l ih =>
    rw [List.flatMap_cons] at h
    by_cases hj : j < sz
    · rw [List.getElem?_append_left (by rw [henc]; exact hj)] at h
      exact ⟨0, y, j, rfl, h, by omega⟩
    · rw [List.getElem?_append_right (by rw [henc]; omega), henc] at h
      obtain ⟨k, x, r, h1, h2, h3⟩ := ih h
      exact ⟨k + 1, x, r, by simpa using h1, h2, by rw [Nat.add_mul]; omega⟩

theorem flat_len {α β : Type} {enc : α → List β} {sz : Nat} (henc : ∀ x, (enc x).length = sz) : ∀ l : List α, (l.flatMap enc).length = l.length * sz
  | [] => by simp
  | x :: l => by rw [List.flatMap_cons, List.length_append, henc, flat_len henc l, List.length_cons, Nat.add_mul]; omega

theorem RowAt.src {α : Type} {sz : Nat} {enc : α → List Value} {w : World} {a : Option Addr} {l : List α} (h : RowAt sz enc w a l) (henc : ∀ x, (enc x).length = sz) : SrcAt w a (l.flatMap enc) := by
  intro j u hj
  obtain ⟨k, x, r, h1, h2, rfl⟩ := flatMap_inv henc hj
  obtain ⟨b, o, ha, hc⟩ := h k x h1
  exact ⟨b, o, ha, by rw [← Nat.add_assoc]; exact hc r u h2⟩

/-- append of a slice that lies anywhere to a row of the call's own -/
theorem wp_append_src {P : Program} {ops : Array Oper} {rest : List Oper} {o : Oper} {a : Act} {Q : Exit → Act → World → Prop} (hgd : o.guard = none) (s x : Operand) (t e : TypeId)
    (ho : o.op = .call { callee := .builtin .append, args := #[s, x], argTypes := #[t, t] })
    {z : Value} {size bytes : Nat} (ht : P.underlying t = some (.slice e)) (hinfo : (P.info? e).map (fun i => (i.zero, i.size, i.bytes)) = some (some z, size, bytes)) (hzs : z.cells.size = size) (hsz : 0 < size)
    (w : World) (base : Nat) (v : Value) (n : Nat) (xs news : List Value) (ad : Option Addr) (m c : Nat) (hs : a.eval s = v) (hx : a.eval x = .slice ad m c) (hown : w.ownsRow base e size v n xs)
    (hsrc : SrcAt w ad news) (hl : news.length = m * size) (h1 : ∀ u ∈ news, u.oneCell' = true) (hb : (n + m) * bytes ≤ 140737488355328) (hn : n + m ≤ 9223372036854775807) (hbase : base ≤ w.heap.size)
    (h : ∀ v' w', w'.ownsRow base e size v' (n + m) (xs ++ news) → w.grownBy w' v.ownBlock → wpList P ops Q rest (a.put o.dst v') w') :
    wpList P ops Q (o :: rest) a w := by
  obtain ⟨i, hi, h2, h3, h4⟩ := info_parts hinfo
  cases ad with
  | none =>
    have hnil : news = [] := by
      cases news with
      | nil => rfl
      | cons u r => obtain ⟨b, o, hb', _⟩ := hsrc 0 u rfl; cases hb'
    subst hnil
    have hm : m = 0 := by
      rcases Nat.eq_zero_or_pos m with h0 | h0
      · exact h0
      · have := Nat.mul_pos h0 hsz
        simp at hl
        omega
    subst hm
    refine wpList_plain hgd fun K hK => ?_
    have hrun := run_append_nil (P := P) (w := w) t o.type e i ht hi v n c xs hown
    have hgo := h v w (by simpa using hown) (grefl w _)
    unfold Oper.wp
    simp [execOp, ho, resolve, invoke, builtin, hs, hx, hrun, Result.andThen]
    exact hK _ _ hgo
  | some ad =>
    refine wpList_append_own _ hgd s x t ho base e i z size bytes ht hi h2 h3 h4 hzs hsz v n xs hs hown ad m c news hx hl ?_ h1 (by unfold maxLen; omega) hb hbase ?_
    · intro j u hj
      obtain ⟨b, o', he, hc⟩ := hsrc j u hj
      cases he
      rw [addr_add']
      exact hc
    · intro v' w' g1 g2 g3
      exact h v' w' g1 g2

/-! ### what is kept: blocks told apart by their element types -/
/-- the blocks of this element type are as they were -/
def KeptE (e : TypeId) (w w' : World) : Prop := ∀ (g : Nat) (cur : Array Value) (f : Nat × Nat), w.heap[g]? = some (.cells cur e f) → w'.heap[g]? = some (.cells cur e f)
theorem KeptE.below {e : TypeId} {w w' : World} (hb : Below w.heap.size w w') : KeptE e w w' := fun _ _ _ h => heap_keep h hb
theorem KeptE.trans {e : TypeId} {w w1 w2 : World} (h : KeptE e w w1) (k : KeptE e w1 w2) : KeptE e w w2 := fun g cur f hg => k g cur f (h g cur f hg)
theorem KeptE.grown {e e' : TypeId} {w w' : World} {base size n : Nat} {v : Value} {xs : List Value} (hown : w.ownsRow base e' size v n xs) (hg : w.grownBy w' v.ownBlock) (hne : e ≠ e') : KeptE e w w' := by
  intro g cur f hh
  rw [hg.block g (lt_of_block hh) ?_]
  · exact hh
  · intro heq
    rcases hown.2 with ⟨rfl, _⟩ | ⟨g', cap, cur', rfl, _, hh', _⟩
    · cases heq
    · simp only [Value.ownBlock, Option.some.injEq] at heq
      subst heq
      rw [hh] at hh'
      cases hh'
      exact hne rfl
theorem KeptE.set {e e' : TypeId} {w : World} {b i : Nat} {cur : Array Value} {f : Nat × Nat} (h : w.heap[b]? = some (.cells cur e' f)) (hne : e ≠ e') (v : Value) : KeptE e w (w.setCell ⟨b, i, none⟩ v) := by
  intro g cur' f' hh
  have : g ≠ b := by
    rintro rfl
    rw [h] at hh
    cases hh
    exact hne rfl
  exact heap_set_ne hh this v
theorem own_kept {w w' : World} {base : Nat} {e : TypeId} {size n : Nat} {v : Value} {xs : List Value} (h : w.ownsRow base e size v n xs) (hk : KeptE e w w') : w'.ownsRow base e size v n xs := by
  obtain ⟨hl, h | ⟨g, cap, cur, hv, h1, h2, h3, h4, h5, h6⟩⟩ := h
  · exact ⟨hl, .inl h⟩
  · exact ⟨hl, .inr ⟨g, cap, cur, hv, h1, hk _ _ _ h2, h3, h4, h5, h6⟩⟩
theorem own_base {w : World} {base base' : Nat} {e : TypeId} {size n : Nat} {v : Value} {xs : List Value} (h : w.ownsRow base e size v n xs) (hb : base' ≤ base) : w.ownsRow base' e size v n xs := by
  obtain ⟨hl, h | ⟨g, cap, cur, hv, h1, h2⟩⟩ := h
  · exact ⟨hl, .inl h⟩
  · exact ⟨hl, .inr ⟨g, cap, cur, hv, Nat.le_trans hb h1, h2⟩⟩

/-- the cells of a row of channels, their destinations in rows of the call's own -/
def ChnRow (w : World) (base : Nat) : List Chn → List Value → Prop
  | [], xs => xs = []
  | x :: l, xs => ∃ d cap r, xs = .int .u16 x.id :: .int .u16 x.src :: .slice d x.dests.length cap :: r ∧ w.ownsRow base 34 1 (.slice d x.dests.length cap) x.dests.length (x.dests.flatMap fun n => [.int .u16 n]) ∧ ChnRow w base l r

theorem ChnRow.kept {w w' : World} {base : Nat} (hk : KeptE 34 w w') : ∀ {l : List Chn} {xs : List Value}, ChnRow w base l xs → ChnRow w' base l xs
  | [], _, h => h
  | _ :: _, _, ⟨d, cap, r, hx, ho, hr⟩ => ⟨d, cap, r, hx, own_kept ho hk, ChnRow.kept hk hr⟩
theorem ChnRow.snoc {w : World} {base : Nat} {x : Chn} {d : Option Addr} {cap : Nat} (ho : w.ownsRow base 34 1 (.slice d x.dests.length cap) x.dests.length (x.dests.flatMap fun n => [.int .u16 n])) :
    ∀ {l : List Chn} {xs : List Value}, ChnRow w base l xs → ChnRow w base (l ++ [x]) (xs ++ [.int .u16 x.id, .int .u16 x.src, .slice d x.dests.length cap])
  | [], xs, h => by
    have : xs = [] := h
    subst this
    exact ⟨d, cap, [], rfl, ho, rfl⟩
  | _ :: _, _, ⟨d', cap', r, hx, ho', hr⟩ => ⟨d', cap', _, by rw [hx]; rfl, ho', ChnRow.snoc ho hr⟩
theorem ChnRow.get {w : World} {base : Nat} : ∀ {l : List Chn} {xs : List Value} {k : Nat} {x : Chn}, ChnRow w base l xs → l[k]? = some x → ∃ d cap, w.ownsRow base 34 1 (.slice d x.dests.length cap) x.dests.length (x.dests.flatMap fun n => [.int .u16 n]) ∧
      ∀ j u, [.int .u16 x.id, .int .u16 x.src, .slice d x.dests.length cap][j]? = some u → xs[k * 3 + j]? = some u
  | [], _, _, _, _, hx => by simp at hx
  | y :: l, xs, 0, x, ⟨d, cap, r, hxs, ho, hr⟩, hx => by
    simp only [List.getElem?_cons_zero, Option.some.injEq] at hx
    subst hx
    refine ⟨d, cap, ho, fun j u hj => ?_⟩
    rw [hxs, Nat.zero_mul, Nat.zero_add]
    match j with
    | 0 => simpa using hj
    | 1 => simpa using hj
    | 2 => simpa using hj
    | j + 3 => simp at hj
  | y :: l, xs, k + 1, x, ⟨d, cap, r, hxs, ho, hr⟩, hx => by
    obtain ⟨d', cap', ho', hj'⟩ := ChnRow.get hr (by simpa using hx)
    refine ⟨d', cap', ho', fun j u hj => ?_⟩
    rw [hxs, show (k + 1) * 3 + j = (k * 3 + j) + 3 by omega]
    simpa using hj' j u hj
theorem ChnRow.len {w : World} {base : Nat} : ∀ {l : List Chn} {xs : List Value}, ChnRow w base l xs → xs.length = l.length * 3
  | [], _, h => by rw [show _ = [] from h]; rfl
  | _ :: l, _, ⟨_, _, r, hx, _, hr⟩ => by
    rw [hx]
    have := ChnRow.len hr
    simp only [List.length_cons]
    omega

theorem chn_of_own {w : World} {base n cap : Nat} {a : Option Addr} {l : List Chn} {xs : List Value} (h : w.ownsRow base 44 3 (.slice a n cap) n xs) (hr : ChnRow w base l xs) (hn : l.length = n) : ChnAt w a l := by
  intro k x hx
  obtain ⟨d, cp, ho, hget⟩ := hr.get hx
  obtain ⟨hlen, h | ⟨g, cap', cur, hv, _, hh, hc, _, hsz, htake⟩⟩ := h
  · obtain ⟨_, rfl⟩ := h
    have : l = [] := List.eq_nil_of_length_eq_zero hn
    subst this
    simp at hx
  · simp only [Value.slice.injEq] at hv
    obtain ⟨rfl, _, rfl⟩ := hv
    obtain ⟨_, _, he, hcap⟩ := own_slice ho
    simp only [Value.slice.injEq] at he
    refine ⟨g, 0, d, cp, rfl, fun j u hj => ?_, by omega, own_row ho (fun _ _ => rfl) rfl⟩
    have hget' := hget j u hj
    rw [← htake, List.getElem?_take] at hget'
    split at hget'
    · simp only [Nat.zero_add, World.cell?, hh]
      simpa using hget'
    · cases hget'

/-- a configuration whose rows are the call's own -/
structure OwnCfg (w : World) (base : Nat) (c : Cfg) (s1 s2 s3 s4 s5 : Value) : Prop where
  o1 : w.ownsRow base 36 4 s1 c.parts.length (c.parts.flatMap encPart)
  o2 : w.ownsRow base 91 3 s2 c.wins.length (c.wins.flatMap encWin)
  o3 : w.ownsRow base 181 5 s3 c.regs.length (c.regs.flatMap encReg)
  o4 : w.ownsRow base 40 6 s4 c.ports.length (c.ports.flatMap encPrt)
  o5 : ∃ xs, w.ownsRow base 44 3 s5 c.chans.length xs ∧ ChnRow w base c.chans xs

theorem OwnCfg.kept {w w' : World} {base : Nat} {c : Cfg} {s1 s2 s3 s4 s5 : Value} (h : OwnCfg w base c s1 s2 s3 s4 s5) (hb : Below w.heap.size w w') : OwnCfg w' base c s1 s2 s3 s4 s5 :=
  ⟨own_kept h.o1 (.below hb), own_kept h.o2 (.below hb), own_kept h.o3 (.below hb), own_kept h.o4 (.below hb), by
    obtain ⟨xs, h1, h2⟩ := h.o5
    exact ⟨xs, own_kept h1 (.below hb), h2.kept (.below hb)⟩⟩

theorem OwnCfg.at {w : World} {base : Nat} {c : Cfg} {s1 s2 s3 s4 s5 : Value} (h : OwnCfg w base c s1 s2 s3 s4 s5) (hok : c.ok) :
    ∃ A : Adr, s1 = .slice A.a1 c.parts.length A.k1 ∧ s2 = .slice A.a2 c.wins.length A.k2 ∧ s3 = .slice A.a3 c.regs.length A.k3 ∧ s4 = .slice A.a4 c.ports.length A.k4 ∧ s5 = .slice A.a5 c.chans.length A.k5 ∧ CfgAt w c A := by
  obtain ⟨h1, h2, h3, h4, xs, h5, h6⟩ := h
  obtain ⟨a1, k1, rfl, l1⟩ := own_slice h1
  obtain ⟨a2, k2, rfl, l2⟩ := own_slice h2
  obtain ⟨a3, k3, rfl, l3⟩ := own_slice h3
  obtain ⟨a4, k4, rfl, l4⟩ := own_slice h4
  obtain ⟨a5, k5, rfl, l5⟩ := own_slice h5
  exact ⟨⟨a1, k1, a2, k2, a3, k3, a4, k4, a5, k5⟩, rfl, rfl, rfl, rfl, rfl, hok, own_row h1 (fun _ _ => rfl) rfl, own_row h2 (fun _ _ => rfl) rfl, own_row h3 (fun _ _ => rfl) rfl, own_row h4 (fun _ _ => rfl) rfl, chn_of_own h5 h6 rfl, l1, l2, l3, l4, l5⟩
end Go.Proofs.Ytlccbejhamkdoaa
