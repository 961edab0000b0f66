/- one configuration, and one twice, handed to conf.Merge; conf.Clone -/
import Derived.Test.YtlccbejhamkdoaaMergeC
import Derived.Test.YtlccbejhamkdoaaPlain13
import Derived.Test.YtlccbejhamkdoaaBulk
namespace Go.Proofs.Ytlccbejhamkdoaa
open Go.RowKit

theorem ChnRow.base {w : World} {base base' : Nat} (hb : base' ≤ base) : ∀ {l : List Chn} {xs : List Value}, ChnRow w base l xs → ChnRow w base' l xs
  | [], _, h => h
  | _ :: _, _, ⟨d, cap, r, hx, ho, hr⟩ => ⟨d, cap, r, hx, own_base ho hb, ChnRow.base hb hr⟩
theorem OwnCfg.base {w : World} {base base' : Nat} {c : Cfg} {s1 s2 s3 s4 s5 : Value} (h : OwnCfg w base c s1 s2 s3 s4 s5) (hb : base' ≤ base) : OwnCfg w base' c s1 s2 s3 s4 s5 :=
  ⟨own_base h.o1 hb, own_base h.o2 hb, own_base h.o3 hb, own_base h.o4 hb, by
    obtain ⟨xs, h1, h2⟩ := h.o5
    exact ⟨xs, own_base h1 hb, h2.base hb⟩⟩
theorem sum_mem {l : List Nat} {x : Nat} (h : x ∈ l) : x ≤ l.sum := by
  induction l with
  | nil => cases h
  | cons y l ih =>
    rw [List.sum_cons]
    rcases List.mem_cons.1 h with rfl | h'
    · omega
    · have := ih h'; omega

theorem Small.dests {c : Cfg} (h : Small c) : ∀ y ∈ c.chans, y.dests.length ≤ 1048576 := by
  intro y hy
  have hs := h.sum
  have : y.dests.length ≤ (c.chans.map (fun x => x.dests.length)).sum := sum_mem (List.mem_map.2 ⟨y, hy, rfl⟩)
  omega
theorem Small.ok2 {c : Cfg} (h : Small c) (fr : Int) (hfr : U64 fr) (hok : c.ok) : (joinCfg fr [c, c]).ok := by
  have hs := h.sum
  rw [join_two]
  have hm : ∀ {α : Type} {p : α → Prop} {l : List α}, (∀ x ∈ l, p x) → ∀ x ∈ l ++ l, p x := fun h x hx => by
    rcases List.mem_append.1 hx with h' | h' <;> exact h x h'
  refine ⟨hfr, hm hok.parts, hm hok.wins, hm hok.regs, hm hok.ports, hm hok.chans, ?_, ?_, ?_, ?_, ?_⟩ <;> simp only [List.length_append] <;> omega

theorem CfgsAt.one {w : World} {c : Cfg} {A : Adr} (hc : CfgAt w c A) (t : TypeId) : CfgsAt (w.alloc (.cells (cfgCells c A) t)) w.heap.size 0 [(c, A)] := by
  intro k x hx
  match k, hx with
  | 0, hx =>
    simp only [List.getElem?_cons_zero, Option.some.injEq] at hx
    subst hx
    exact ⟨fun j u hj => cell_of_heap (heap_new w _) (by simpa using hj), hc.below (below_new _ _)⟩
  | k + 1, hx => simp at hx
theorem CfgsAt.two {w : World} {c : Cfg} {A : Adr} (hc : CfgAt w c A) (t : TypeId) : CfgsAt (w.alloc (.cells (cfgCells c A ++ cfgCells c A) t)) w.heap.size 0 [(c, A), (c, A)] := by
  intro k x hx
  match k, hx with
  | 0, hx =>
    simp only [List.getElem?_cons_zero, Option.some.injEq] at hx
    subst hx
    refine ⟨fun j u hj => cell_of_heap (heap_new w _) ?_, hc.below (below_new _ _)⟩
    have hlt : j < (cfgCells c A).size := by simpa using (List.getElem?_eq_some_iff.1 hj).1
    rw [Array.getElem?_append_left (by simpa using hlt)]
    simpa using hj
  | 1, hx =>
    simp only [List.getElem?_cons_succ, List.getElem?_cons_zero, Option.some.injEq] at hx
    subst hx
    refine ⟨fun j u hj => cell_of_heap (heap_new w _) ?_, hc.below (below_new _ _)⟩
    have h6 : (cfgCells c A).size = 6 := rfl
    rw [Array.getElem?_append_right (by rw [h6]; omega), h6, show 0 + 1 * 6 + j - 6 = j by omega]
    simpa using hj
  | k + 2, hx => simp at hx

theorem Merge_one (w : World) (c : Cfg) (A : Adr) (b : Nat) (hs : Small c) (h : CfgsAt w b 0 [(c, A)]) :
    Calls Try.prog 39 #[.int .u64 c.frame, .slice (some ⟨b, 0, none⟩) 1 1] w fun e w' => ∃ s1 s2 s3 s4 s5, e = .returned (.agg #[.int .u64 c.frame, s1, s2, s3, s4, s5]) ∧
      OwnCfg w' w.heap.size c s1 s2 s3 s4 s5 ∧ Below w.heap.size w w' := by
  have hsum := hs.sum
  have := Merge_c w c.frame [(c, A)] b 0 1 h (by simp) (fun k x hx y hy => by
    match k, hx with
    | 0, hx => simp only [List.getElem?_cons_zero, Option.some.injEq] at hx; subst hx; have := hs.dests y hy; omega
    | k + 1, hx => simp at hx) (fun k hk => by
    match k, hk with
    | 0, _ => simp [Room, joinCfg]
    | 1, _ =>
      show Room (joinCfg c.frame [c])
      rw [join_one]
      refine ⟨?_, ?_, ?_, ?_, ?_⟩ <;> omega
    | k + 2, hk => simp at hk)
  rwa [show ([(c, A)].map (·.1)) = [c] from rfl, join_one] at this
theorem Merge_two (w : World) (c : Cfg) (A : Adr) (b : Nat) (hs : Small c) (h : CfgsAt w b 0 [(c, A), (c, A)]) :
    Calls Try.prog 39 #[.int .u64 c.frame, .slice (some ⟨b, 0, none⟩) 2 2] w fun e w' => ∃ s1 s2 s3 s4 s5, e = .returned (.agg #[.int .u64 c.frame, s1, s2, s3, s4, s5]) ∧
      OwnCfg w' w.heap.size (joinCfg c.frame [c, c]) s1 s2 s3 s4 s5 ∧ Below w.heap.size w w' := by
  have hsum := hs.sum
  exact Merge_c w c.frame [(c, A), (c, A)] b 0 2 h (by simp) (fun k x hx y hy => by
    have hd := hs.dests
    match k, hx with
    | 0, hx => simp only [List.getElem?_cons_zero, Option.some.injEq] at hx; subst hx; have := hd y hy; omega
    | 1, hx => simp only [List.getElem?_cons_succ, List.getElem?_cons_zero, Option.some.injEq] at hx; subst hx; have := hd y hy; omega
    | k + 2, hx => simp at hx) (fun k hk => by
    match k, hk with
    | 0, _ => simp [Room, joinCfg]
    | 1, _ =>
      show Room (joinCfg c.frame [c])
      rw [join_one]
      refine ⟨?_, ?_, ?_, ?_, ?_⟩ <;> omega
    | 2, _ =>
      show Room (joinCfg c.frame [c, c])
      rw [join_two]
      refine ⟨?_, ?_, ?_, ?_, ?_⟩ <;> simp only [List.length_append] <;> omega
    | k + 3, hk => simp at hk)
end Go.Proofs.Ytlccbejhamkdoaa
