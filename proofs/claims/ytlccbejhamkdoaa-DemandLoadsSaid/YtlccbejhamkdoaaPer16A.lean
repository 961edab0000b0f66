/- the iterator over the periods of a partition: the function that notes a period and yields it -/
import Derived.RangeFuncNested
import Derived.RangeFuncBound
import Derived.RangeFuncCalls
import Derived.RangeFuncLeaves
import Derived.Shelf.Abstract
import Derived.Shelf.RegionOpen
import Derived.OwnWalkIn
import Derived.TacticsInMore
import Derived.LoopNIn
import Derived.LoopIn
import Derived.Test.YtlccbejhamkdoaaRange
import Derived.Test.YtlccbejhamkdoaaPlain16
import Derived.Test.YtlccbejhamkdoaaAux
import Derived.KernelRfl
namespace Go.Proofs.Ytlccbejhamkdoaa
open Go.RowKit Go.Shelf
attribute [local go_sem] Oper.semAt_some

theorem anyRoom {F : Fence} (hd : F.depth = none) (k : Nat) : F.room k := fun d h => by rw [hd] at h; cases h
theorem anyRound {F : Fence} (hd : F.depth = none) {m m' : Nat} {P : Program} {l : Nat} {f : FuncId} {tmps : Array Value} {assign body : Code} {w : World} {R : Ending → World → Prop}
    (h : RoundIn F m P l f tmps assign body w R) : RoundIn F m' P l f tmps assign body w R := ⟨h.1, fun c cs _ => h.2 c cs (anyRoom hd _)⟩
theorem anyYield {F : Fence} (hd : F.depth = none) {m : Nat} (m' : Nat) {P : Program} {l : Nat} {args : Array Value} {W : World} {R : Ending → World → Prop} (h : YieldAt F m P l args W R) : YieldAt F m' P l args W R := by
  obtain ⟨fn, tmps, assign, body, hy, hR⟩ := h
  exact ⟨fn, tmps, assign, body, hy, anyRound hd hR⟩

/-- a round keeps all blocks but the loop's own record and those that the caller writes -/
def KpM (own : Nat → Prop) (l : Nat) (W W' : World) : Prop := W.heap.size ≤ W'.heap.size ∧ ∀ b, b < W.heap.size → b ≠ l → ¬ own b → W'.heap[b]? = W.heap[b]?
theorem KpM.trans {own : Nat → Prop} {l : Nat} {A B C : World} (h : KpM own l A B) (k : KpM own l B C) : KpM own l A C :=
  ⟨Nat.le_trans h.1 k.1, fun b hb hl ho => (k.2 b (Nat.lt_of_lt_of_le hb h.1) hl ho).trans (h.2 b hb hl ho)⟩
theorem KpM.put (own : Nat → Prop) (l : Nat) (W : World) (o : Obj) : KpM own l W (W.putObj l o) :=
  ⟨by simp, fun b _ hl _ => World.putObj_heap_other (by omega)⟩
theorem KpM.heap {own : Nat → Prop} {l b : Nat} {W W' : World} {o : Obj} (h : KpM own l W W') (ho : W.heap[b]? = some o) (hl : b ≠ l) (hn : ¬ own b) : W'.heap[b]? = some o :=
  (h.2 b (lt_of_block ho) hl hn).trans ho
theorem RowAt.kpm {α : Type} {sz : Nat} {enc : α → List Value} {own : Nat → Prop} {l : Nat} {W W' : World} {a : Option Addr} {ws : List α} (h : RowAt sz enc W a ws) (hk : KpM own l W W') (ha : ∀ b o, a = some ⟨b, o, none⟩ → b ≠ l ∧ ¬ own b) : RowAt sz enc W' a ws := by
  intro k x hx
  obtain ⟨b, o, hb, hc⟩ := h k x hx
  refine ⟨b, o, hb, fun j u hj => ?_⟩
  have h1 := hc j u hj
  have hlt := World.block_lt_of_cell? W _ h1
  exact (World.cell?_of_block (hk.2 b hlt (ha b o hb).1 (ha b o hb).2)).trans h1
theorem RowAt.belowB {α : Type} {sz : Nat} {enc : α → List Value} {B : Nat} {W W' : World} {a : Option Addr} {ws : List α} (h : RowAt sz enc W a ws) (hk : Below B W W') (ha : ∀ b o, a = some ⟨b, o, none⟩ → b < B) : RowAt sz enc W' a ws := by
  intro k x hx
  obtain ⟨b, o, hb, hc⟩ := h k x hx
  refine ⟨b, o, hb, fun j u hj => ?_⟩
  exact (hk.cell (p := ⟨b, _, none⟩) (ha b o hb)).trans (hc j u hj)

/-- what a round of the loop is asked -/
def Rounds (m l : Nat) (own : Nat → Prop) (J Jx : List (Int × Int) → World → Prop) : Prop :=
  ∀ pre x W1, J pre W1 → YieldAt Fence.wide m Try.prog l #[.int .u64 x.1, .int .u64 x.2] W1 fun e W' =>
    (e = .returned (.bool true) ∧ J (pre ++ [x]) W' ∧ KpM own l W1 W') ∨ (e = .returned (.bool false) ∧ Jx (pre ++ [x]) W' ∧ KpM own l W1 W')

set_option maxHeartbeats 1000000 in
theorem done_c (m m0 l B nb tb yb : Nat) (own : Nat → Prop) (J Jx : List (Int × Int) → World → Prop) (hJ : AbB B J) (hY : Rounds m0 l own J Jx) (hn : B ≤ nb) (ht : B ≤ tb) (hnt : nb ≠ tb) (hyn : yb ≠ nb) (hyt : yb ≠ tb)
    (W : World) (pre : List (Int × Int)) (k n : Int) (u v : Value) (hk : 0 ≤ k) (hk1 : k + 1 ≤ 18446744073709551615)
    (hnb : W.heap[nb]? = some (.cells #[u] 22 (0, 0))) (htb : W.heap[tb]? = some (.cells #[v] 22 (0, 0))) (hyb : W.heap[yb]? = some (.cells #[.func (.yield l) #[] #[]] 97 (0, 0))) (hJ0 : J pre W) :
    CallsIn Fence.wide m Try.prog 102 #[.int .u64 k, .int .u64 n, .pointer (some ⟨nb, 0, none⟩), .pointer (some ⟨tb, 0, none⟩), .pointer (some ⟨yb, 0, none⟩)] W fun e W' =>
      (e = .returned (.bool false) ∧ J (pre ++ [(k, n)]) W' ∧ KpM own l ((W.setCell ⟨nb, 0, none⟩ (.int .u64 (k + 1))).setCell ⟨tb, 0, none⟩ (.int .u64 0)) W') ∨ (e = .returned (.bool true) ∧ Jx (pre ++ [(k, n)]) W') := by
  have n0 := cell_of_heap (i := 0) hnb rfl
  have n1 : W.frozen? ⟨nb, 0, none⟩ = false := free_of_heap hnb
  have t0 := cell_of_heap (i := 0) htb rfl
  have t1 : W.frozen? ⟨tb, 0, none⟩ = false := free_of_heap htb
  have y0 := cell_of_heap (i := 0) hyb rfl
  have hJ2 : J pre ((W.setCell ⟨nb, 0, none⟩ (.int .u64 (k + 1))).setCell ⟨tb, 0, none⟩ (.int .u64 0)) :=
    hJ _ _ _ hJ0 (((Below.refl B W).setCell (p := ⟨nb, 0, none⟩) hn _).setCell (p := ⟨tb, 0, none⟩) ht _)
  obtain ⟨fn, tmps, assign, body, hy, hR⟩ := anyYield rfl (m - 1) (hY pre (k, n) _ hJ2)
  refine callsIn_of_wp Try.func102 rfl trivial ?_ rfl
  simp only [Try.ntmps102, List.size_toArray, List.length_cons, List.length_nil, Nat.reduceAdd, Nat.reduceSub, Array.replicate_succ, Array.replicate_zero, List.push_toArray, List.append_toArray, List.nil_append, List.cons_append]
  dsimp only at hy
  gi_wp2
  refine ⟨fun h => (by cases h), ?_⟩
  refine hR.mono ?_
  rintro e W2 (⟨rfl, hJ3, hk3⟩ | ⟨rfl, hx3, _⟩)
  · have HJ3 := hid hJ3
    have Hk3 := hid hk3
    clear hJ3 hk3
    gi_wp2
    go_ret
    exact .inl ⟨rfl, HJ3.out, Hk3.out⟩
  · have Hx3 := hid hx3
    clear hx3
    gi_wp2
    go_ret
    exact .inr ⟨rfl, Hx3.out⟩
end Go.Proofs.Ytlccbejhamkdoaa
