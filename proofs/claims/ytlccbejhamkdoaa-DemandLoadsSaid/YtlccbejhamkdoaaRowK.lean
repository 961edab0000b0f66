/- rows of the call's own in the words of the library's contracts (HoldsK, putRowK) -/
import Derived.Shelf.GgSortFunc.InsertionK
import Derived.Test.YtlccbejhamkdoaaMergeA
namespace Go.Proofs.Ytlccbejhamkdoaa
open Go.RowKit Go.Sort

section
variable {α : Type} [Inhabited α] {enc : α → List Value} {k : Nat}
theorem flatK_list (hk : ∀ x, (enc x).length = k) (d : Array α) : (flatK enc k d).toList = d.toList.flatMap enc := by
  apply List.ext_getElem?
  intro t
  by_cases ht : t < d.size * k
  · have h1 : (flatK enc k d).toList[t]? = some (flatK enc k d)[t]! := by
      rw [Array.getElem?_toList, Array.getElem?_eq_getElem (by simpa using ht), getElem!_pos (flatK enc k d) t (by simpa using ht)]
    have k0 : 0 < k := by
      rcases Nat.eq_zero_or_pos k with h | h
      · subst h; simp at ht
      · exact h
    have hq : t / k < d.size := (Nat.div_lt_iff_lt_mul k0).2 ht
    have hm : t % k < k := Nat.mod_lt _ k0
    have he : t / k * k + t % k = t := by rw [Nat.mul_comm]; exact Nat.div_add_mod t k
    have h2 := flatMap_get (enc := enc) (sz := k) (l := d.toList) (fun x _ => hk x) (k := t / k) (j := t % k) (x := d[t / k]) (u := (enc d[t / k])[t % k]'(by rw [hk]; exact hm)) (by simp [hq]) (by simp [hk, hm])
    rw [he] at h2
    rw [h1, get_flatK enc k d t ht, h2, getElem!_pos d _ hq, getElem!_pos (enc d[t / k]) _ (by rw [hk]; exact hm)]
  · rw [List.getElem?_eq_none (by simpa using ht), List.getElem?_eq_none (by rw [flat_len hk]; simpa using ht)]

theorem own_holds {w : World} {base : Nat} {e : TypeId} {g n cap : Nat} {d : Array α} (hk : ∀ x, (enc x).length = k) (h : w.ownsRow base e k (.slice (some ⟨g, 0, none⟩) n cap) n (d.toList.flatMap enc)) (hn : d.size = n) : HoldsK enc k w g 0 d := by
  intro j hj
  rcases h.2 with ⟨h', _⟩ | ⟨g', cap', cur, h', _, hg, _, _, hsz, htake⟩
  · cases h'
  · simp only [Value.slice.injEq, Option.some.injEq, Addr.mk.injEq, and_true, true_and] at h'
    obtain ⟨rfl, rfl⟩ := h'
    have hj' : j < n * k := by rw [← hn]; simpa using hj
    refine ⟨?_, by simp [World.frozen?, hg]⟩
    rw [← flatK_list hk] at htake
    have h1 : (cur.toList.take (n * k))[j]? = (flatK enc k d).toList[j]? := by rw [htake]
    rw [List.getElem?_take, if_pos hj', Array.getElem?_toList, Array.getElem?_toList, Array.getElem?_eq_getElem (xs := flatK enc k d) (by simpa using hj)] at h1
    rw [Nat.zero_add]
    simp only [World.cell?, hg, id_eq]
    rw [getElem!_pos _ j (by simpa using hj)]
    simpa using h1

theorem own_put {w : World} {base : Nat} {e : TypeId} {g n cap m : Nat} {xs : List Value} {d : Array α} (hk : ∀ x, (enc x).length = k) (h : w.ownsRow base e k (.slice (some ⟨g, 0, none⟩) n cap) n xs) (hn : d.size = n) :
    (putRowK enc k (Sort.ahead w m) g 0 d).ownsRow base e k (.slice (some ⟨g, 0, none⟩) n cap) n (d.toList.flatMap enc) ∧ w.grownBy (putRowK enc k (Sort.ahead w m) g 0 d) (some g) := by
  rcases h.2 with ⟨h', _⟩ | ⟨g', cap', cur, h', hb, hg, hc, hcm, hsz, htake⟩
  · cases h'
  · simp only [Value.slice.injEq, Option.some.injEq, Addr.mk.injEq, and_true, true_and] at h'
    obtain ⟨rfl, rfl⟩ := h'
    constructor
    · refine ⟨by rw [flat_len hk]; simp [hn], .inr ⟨g, cap, putCells id 0 (flatK enc k d) cur, rfl, hb, ?_, hc, hcm, by simp [putCells, hsz], ?_⟩⟩
      · show ((Sort.ahead w m).heap.modify g (onCells (putCells id 0 (flatK enc k d))))[g]? = _
        rw [Array.getElem?_modify, Sort.heap_ahead, hg]
        simp [onCells]
      · rw [← flatK_list hk]
        apply List.ext_getElem?
        intro t
        rw [List.getElem?_take]
        by_cases ht : t < n * k
        · have hle : n * k ≤ cap * k := Nat.mul_le_mul_right k hc
          have htf : t < (flatK enc k d).size := by rw [size_flatK, hn]; exact ht
          rw [if_pos ht, Array.getElem?_toList, Array.getElem?_toList, putCells, Array.getElem?_mapIdx, Array.getElem?_eq_getElem (show t < cur.size by omega), Array.getElem?_eq_getElem htf]
          simp only [Option.map_some, Nat.zero_le, Nat.zero_add, htf, and_self, if_true, Nat.sub_zero, id_eq]
          rw [getElem!_pos _ t htf]
        · rw [if_neg ht, List.getElem?_eq_none (by simp [hn]; omega)]
    · refine ⟨rfl, rfl, rfl, ?_, fun i hi hne => ?_⟩
      · show w.heap.size ≤ ((Sort.ahead w m).heap.modify g _).size
        simp
      · show ((Sort.ahead w m).heap.modify g _)[i]? = _
        have : g ≠ i := fun h => hne (by rw [h])
        rw [Array.getElem?_modify, if_neg this, Sort.heap_ahead]

end
end Go.Proofs.Ytlccbejhamkdoaa
