/- slices.Reverse at rows of the call's own -/
import Derived.Test.YtlccbejhamkdoaaShelfRev
import Derived.Test.YtlccbejhamkdoaaMergeC
import Derived.Test.YtlccbejhamkdoaaOpen
namespace Go.Proofs.Ytlccbejhamkdoaa
open Go.RowKit Go.Sort

section
variable {α : Type} [Inhabited α] {enc : α → List Value} {k : Nat}
theorem flatK_list (hk : ∀ x, (enc x).length = k) (d : Array α) : (flatK enc k d).toList = d.toList.flatMap enc := by
  apply List.ext_getElem?
  intro t
  by_cases ht : t < d.size * k
  · have h1 : (flatK enc k d).toList[t]? = some (flatK enc k d)[t]! := by
      rw [Array.getElem?_toList, Array.getElem?_eq_getElem (by simpa using ht), getElem!_pos (flatK enc k d) t (by simpa using ht)]
    have k0 : 0 < k := by
      rcases Nat.eq_zero_or_pos k with h | h
      · subst h; simp at ht
      · exact h
    have hq : t / k < d.size := (Nat.div_lt_iff_lt_mul k0).2 ht
    have hm : t % k < k := Nat.mod_lt _ k0
    have he : t / k * k + t % k = t := by rw [Nat.mul_comm]; exact Nat.div_add_mod t k
    have h2 := flatMap_get (enc := enc) (sz := k) (l := d.toList) (fun x _ => hk x) (k := t / k) (j := t % k) (x := d[t / k]) (u := (enc d[t / k])[t % k]'(by rw [hk]; exact hm)) (by simp [hq]) (by simp [hk, hm])
    rw [he] at h2
    rw [h1, get_flatK enc k d t ht, h2, getElem!_pos d _ hq, getElem!_pos (enc d[t / k]) _ (by rw [hk]; exact hm)]
  · rw [List.getElem?_eq_none (by simpa using ht), List.getElem?_eq_none (by rw [flat_len hk]; simpa using ht)]

theorem own_holds {w : World} {base : Nat} {e : TypeId} {g n cap : Nat} {d : Array α} (hk : ∀ x, (enc x).length = k) (h : w.ownsRow base e k (.slice (some ⟨g, 0, none⟩) n cap) n (d.toList.flatMap enc)) (hn : d.size = n) : HoldsK enc k w g 0 d := by
  intro j hj
  rcases h.2 with ⟨h', _⟩ | ⟨g', cap', cur, h', _, hg, _, _, hsz, htake⟩
  · cases h'
  · simp only [Value.slice.injEq, Option.some.injEq, Addr.mk.injEq, and_true, true_and] at h'
    obtain ⟨rfl, rfl⟩ := h'
    have hj' : j < n * k := by rw [← hn]; simpa using hj
    refine ⟨?_, by simp [World.frozen?, hg]⟩
    rw [← flatK_list hk] at htake
    have h1 : (cur.toList.take (n * k))[j]? = (flatK enc k d).toList[j]? := by rw [htake]
    rw [List.getElem?_take, if_pos hj', Array.getElem?_toList, Array.getElem?_toList, Array.getElem?_eq_getElem (xs := flatK enc k d) (by simpa using hj)] at h1
    rw [Nat.zero_add]
    simp only [World.cell?, hg, id_eq]
    rw [getElem!_pos _ j (by simpa using hj)]
    simpa using h1

theorem own_put {w : World} {base : Nat} {e : TypeId} {g n cap m : Nat} {xs : List Value} {d : Array α} (hk : ∀ x, (enc x).length = k) (h : w.ownsRow base e k (.slice (some ⟨g, 0, none⟩) n cap) n xs) (hn : d.size = n) :
    (putRowK enc k (Sort.ahead w m) g 0 d).ownsRow base e k (.slice (some ⟨g, 0, none⟩) n cap) n (d.toList.flatMap enc) ∧ w.grownBy (putRowK enc k (Sort.ahead w m) g 0 d) (some g) := by
  rcases h.2 with ⟨h', _⟩ | ⟨g', cap', cur, h', hb, hg, hc, hcm, hsz, htake⟩
  · cases h'
  · simp only [Value.slice.injEq, Option.some.injEq, Addr.mk.injEq, and_true, true_and] at h'
    obtain ⟨rfl, rfl⟩ := h'
    constructor
    · refine ⟨by rw [flat_len hk]; simp [hn], .inr ⟨g, cap, putCells id 0 (flatK enc k d) cur, rfl, hb, ?_, hc, hcm, by simp [putCells, hsz], ?_⟩⟩
      · show ((Sort.ahead w m).heap.modify g (onCells (putCells id 0 (flatK enc k d))))[g]? = _
        rw [Array.getElem?_modify, Sort.heap_ahead, hg]
        simp [onCells]
      · rw [← flatK_list hk]
        apply List.ext_getElem?
        intro t
        rw [List.getElem?_take]
        by_cases ht : t < n * k
        · have hle : n * k ≤ cap * k := Nat.mul_le_mul_right k hc
          have htf : t < (flatK enc k d).size := by rw [size_flatK, hn]; exact ht
          rw [if_pos ht, Array.getElem?_toList, Array.getElem?_toList, putCells, Array.getElem?_mapIdx, Array.getElem?_eq_getElem (show t < cur.size by omega), Array.getElem?_eq_getElem htf]
          simp only [Option.map_some, Nat.zero_le, Nat.zero_add, htf, and_self, if_true, Nat.sub_zero, id_eq]
          rw [getElem!_pos _ t htf]
        · rw [if_neg ht, List.getElem?_eq_none (by simp [hn]; omega)]
    · refine ⟨rfl, rfl, rfl, ?_, fun i hi hne => ?_⟩
      · show w.heap.size ≤ ((Sort.ahead w m).heap.modify g _).size
        simp
      · show ((Sort.ahead w m).heap.modify g _)[i]? = _
        have : g ≠ i := fun h => hne (by rw [h])
        rw [Array.getElem?_modify, if_neg this, Sort.heap_ahead]

theorem rev_own {P : Program} {F : FuncId} {e : TypeId} (hk : ∀ x, (enc x).length = k)
    (hC : ∀ (blk off cap : Nat) (d : Array α) (w : World), HoldsK enc k w blk off d → d.size ≤ 9223372036854775807 → Calls P F #[.slice (some ⟨blk, off, none⟩) d.size cap] w fun e w' => e = .returned (.tuple #[]) ∧ ∃ n, w' = putRowK enc k (Sort.ahead w n) blk off d.reverse)
    (hE : ∀ (a : Option Addr) (cap : Nat) (w : World), Calls P F #[.slice a 0 cap] w fun e w' => e = .returned (.tuple #[]) ∧ w' = w)
    (w : World) (base : Nat) (s : Value) (l : List α) (hsz : l.length ≤ 9223372036854775807) (h : w.ownsRow base e k s l.length (l.flatMap enc)) :
    Calls P F #[s] w fun e' w' => e' = .returned (.tuple #[]) ∧ w'.ownsRow base e k s l.length (l.reverse.flatMap enc) ∧ w.grownBy w' s.ownBlock := by
  rcases h.2 with ⟨rfl, hn⟩ | ⟨g, cap, cur, rfl, _⟩
  · have hl : l = [] := List.eq_nil_of_length_eq_zero hn
    subst hl
    refine (hE none 0 w).mono ?_
    rintro e' w' ⟨rfl, rfl⟩
    exact ⟨rfl, World.ownsRow_nil _ _ _ _, grefl _ _⟩
  · have hH : HoldsK enc k w g 0 l.toArray := own_holds hk (by simpa using h) (by simp)
    have := hC g 0 cap l.toArray w hH (by simpa using hsz)
    simp only [List.size_toArray] at this
    refine this.mono ?_
    rintro e' w' ⟨rfl, n, rfl⟩
    have hp := own_put (m := n) (d := l.toArray.reverse) hk h (by simp)
    refine ⟨rfl, ?_, hp.2⟩
    have h1 := hp.1
    simpa using h1
end

theorem revPk (blk off cap : Nat) (d : Array (Part)) (w : World) (hH : HoldsK encPart 4 w blk off d) (hs : d.size ≤ 9223372036854775807) :
    Calls Try.prog 11 #[.slice (some ⟨blk, off, none⟩) d.size cap] w fun e w' => e = .returned (.tuple #[]) ∧ ∃ n, w' = putRowK encPart 4 (Sort.ahead w n) blk off d.reverse :=
  Try.slices_Reverse_f11 4 Try.isAgg36 Try.sizeOf36 encPart (fun _ => rfl) one_part blk off cap d w hH hs
theorem revPe (a : Option Addr) (cap : Nat) (w : World) : Calls Try.prog 11 #[.slice a 0 cap] w fun e w' => e = .returned (.tuple #[]) ∧ w' = w :=
  Try.slices_Reverse_empty_f11 (α := Part) a cap w
theorem revP_c (w : World) (base : Nat) (s : Value) (l : List Part) (hsz : l.length ≤ 9223372036854775807) (h : w.ownsRow base 36 4 s l.length (l.flatMap encPart)) :
    Calls Try.prog 11 #[s] w fun e' w' => e' = .returned (.tuple #[]) ∧ w'.ownsRow base 36 4 s l.length (l.reverse.flatMap encPart) ∧ w.grownBy w' s.ownBlock :=
  rev_own (enc := encPart) (k := 4) (fun _ => rfl) revPk revPe w base s l hsz h
theorem revQk (blk off cap : Nat) (d : Array (Prt)) (w : World) (hH : HoldsK encPrt 6 w blk off d) (hs : d.size ≤ 9223372036854775807) :
    Calls Try.prog 12 #[.slice (some ⟨blk, off, none⟩) d.size cap] w fun e w' => e = .returned (.tuple #[]) ∧ ∃ n, w' = putRowK encPrt 6 (Sort.ahead w n) blk off d.reverse :=
  Try.slices_Reverse_f12 6 Try.isAgg40 Try.sizeOf40 encPrt (fun _ => rfl) one_prt blk off cap d w hH hs
theorem revQe (a : Option Addr) (cap : Nat) (w : World) : Calls Try.prog 12 #[.slice a 0 cap] w fun e w' => e = .returned (.tuple #[]) ∧ w' = w :=
  Try.slices_Reverse_empty_f12 (α := Prt) a cap w
theorem revQ_c (w : World) (base : Nat) (s : Value) (l : List Prt) (hsz : l.length ≤ 9223372036854775807) (h : w.ownsRow base 40 6 s l.length (l.flatMap encPrt)) :
    Calls Try.prog 12 #[s] w fun e' w' => e' = .returned (.tuple #[]) ∧ w'.ownsRow base 40 6 s l.length (l.reverse.flatMap encPrt) ∧ w.grownBy w' s.ownBlock :=
  rev_own (enc := encPrt) (k := 6) (fun _ => rfl) revQk revQe w base s l hsz h

/-- a channel's cells, with the place of its destinations -/
def encChn (y : Chn × Option Addr × Nat) : List Value := [.int .u16 y.1.id, .int .u16 y.1.src, .slice y.2.1 y.1.dests.length y.2.2]
theorem one_chn : ∀ x, ∀ v ∈ encChn x, v.oneCell' = true := by intro x v hv; simp only [encChn, List.mem_cons, List.not_mem_nil, or_false] at hv; rcases hv with rfl | rfl | rfl <;> rfl
def DestAt (w : World) (base : Nat) (y : Chn × Option Addr × Nat) : Prop := w.ownsRow base 34 1 (.slice y.2.1 y.1.dests.length y.2.2) y.1.dests.length (y.1.dests.flatMap fun n => [.int .u16 n])
theorem ChnRow.out {w : World} {base : Nat} : ∀ {l : List Chn} {xs : List Value}, ChnRow w base l xs → ∃ ys : List (Chn × Option Addr × Nat), ys.map (·.1) = l ∧ xs = ys.flatMap encChn ∧ ∀ y ∈ ys, DestAt w base y
  | [], _, h => ⟨[], rfl, h, fun y hy => by cases hy⟩
  | x :: l, _, ⟨d, cap, r, hx, ho, hr⟩ => by
    obtain ⟨ys, h1, h2, h3⟩ := ChnRow.out hr
    refine ⟨(x, d, cap) :: ys, by simp [h1], by rw [hx, h2]; rfl, fun y hy => ?_⟩
    rcases List.mem_cons.1 hy with rfl | h'
    · exact ho
    · exact h3 y h'
theorem ChnRow.of {w : World} {base : Nat} : ∀ {ys : List (Chn × Option Addr × Nat)}, (∀ y ∈ ys, DestAt w base y) → ChnRow w base (ys.map (·.1)) (ys.flatMap encChn)
  | [], _ => rfl
  | y :: ys, h => ⟨y.2.1, y.2.2, ys.flatMap encChn, rfl, h y (List.mem_cons_self ..), ChnRow.of fun z hz => h z (List.mem_cons_of_mem _ hz)⟩

theorem revCk (blk off cap : Nat) (d : Array (Chn × Option Addr × Nat)) (w : World) (hH : HoldsK encChn 3 w blk off d) (hs : d.size ≤ 9223372036854775807) :
    Calls Try.prog 13 #[.slice (some ⟨blk, off, none⟩) d.size cap] w fun e w' => e = .returned (.tuple #[]) ∧ ∃ n, w' = putRowK encChn 3 (Sort.ahead w n) blk off d.reverse :=
  Try.slices_Reverse_f13 3 Try.isAgg44 Try.sizeOf44 encChn (fun _ => rfl) one_chn blk off cap d w hH hs
theorem revCe (a : Option Addr) (cap : Nat) (w : World) : Calls Try.prog 13 #[.slice a 0 cap] w fun e w' => e = .returned (.tuple #[]) ∧ w' = w :=
  Try.slices_Reverse_empty_f13 (α := Chn × Option Addr × Nat) a cap w
theorem revC_c (w : World) (base : Nat) (s : Value) (l : List Chn) (xs : List Value) (hsz : l.length ≤ 9223372036854775807) (h : w.ownsRow base 44 3 s l.length xs) (hr : ChnRow w base l xs) :
    Calls Try.prog 13 #[s] w fun e' w' => e' = .returned (.tuple #[]) ∧ (∃ xs', w'.ownsRow base 44 3 s l.length xs' ∧ ChnRow w' base l.reverse xs') ∧ w.grownBy w' s.ownBlock := by
  obtain ⟨ys, h1, rfl, h3⟩ := hr.out
  have hlen : ys.length = l.length := by rw [← h1]; simp
  rw [← hlen] at h
  refine (rev_own (enc := encChn) (k := 3) (fun _ => rfl) revCk revCe w base s ys (by omega) h).mono ?_
  rintro e' w' ⟨rfl, hown, hg⟩
  refine ⟨rfl, ⟨ys.reverse.flatMap encChn, by rw [← hlen]; exact hown, ?_⟩, hg⟩
  have hk : KeptE 34 w w' := KeptE.grown h hg (by decide)
  have := ChnRow.of (w := w') (base := base) (ys := ys.reverse) (fun y hy => own_kept (h3 y (by simpa using hy)) hk)
  rwa [List.map_reverse, h1] at this
end Go.Proofs.Ytlccbejhamkdoaa
