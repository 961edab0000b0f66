/- the windows of a partition: Clone, IndexFunc, DeleteFunc -/
import Derived.Test.YtlccbejhamkdoaaRowK
import Derived.Test.YtlccbejhamkdoaaAux
import Derived.Lib.SliceRun
import Derived.KernelRfl
namespace Go.Proofs.Ytlccbejhamkdoaa
open Go.RowKit

theorem infoW : (Try.prog.info? 91).map (fun i => (i.zero, i.size, i.bytes)) = some (some (.agg #[.int .u64 0, .int .u64 0, .int .u16 0]), 3, 24) := by kernel_rfl
theorem oneW : ∀ x, ∀ v ∈ encWin x, v.oneCell' = true := by intro x v hv; simp only [encWin, List.mem_cons, List.not_mem_nil, or_false] at hv; rcases hv with rfl | rfl | rfl <;> rfl
theorem fallW {α : Type} {enc : α → List Value} (h : ∀ x, ∀ v ∈ enc x, v.oneCell' = true) (l : List α) : ∀ u ∈ l.flatMap enc, u.oneCell' = true := by
  intro u hu
  obtain ⟨x, _, hx⟩ := List.mem_flatMap.1 hu
  exact h x u hx

theorem cloneW_c (w : World) (d : Option Addr) (cap : Nat) (l : List Win) (hrow : RowAt 3 encWin w d l) (hlen : l.length * 24 ≤ 140737488355328) :
    Calls Try.prog 80 #[.slice d l.length cap] w fun e w' => ∃ d' cap', e = .returned (.slice d' l.length cap') ∧
      w'.ownsRow w.heap.size 91 3 (.slice d' l.length cap') l.length (l.flatMap encWin) ∧ Below w.heap.size w w' := by
  have q60 : ∀ (w : World) (a : Option Addr) (n c n' c' : Nat), (binOp .eql 24 (.slice a n c) (.slice none n' c')).run Try.prog w = .ok (.bool a.isNone) w := fun w a n c n' c' => Lib.run_eql_slice_nil w _ _ a n c n' c' Try.underlying24
  cases d with
  | none =>
    have hl : l = [] := by
      cases l with
      | nil => rfl
      | cons u r => obtain ⟨b, o, hb', _⟩ := hrow 0 u rfl; cases hb'
    subst hl
    go_enter Try.func80, Try.ntmps80
    go_wp2
    go_ret
    exact ⟨none, 0, rfl, World.ownsRow_nil _ _ _ _, Below.refl _ _⟩
  | some ad =>
    have Hrow := hid hrow
    have Hmade := hid (World.ownsRow_made (base := w.heap.size) (e := 91) (size := 3) w #[] 0 (Nat.le_refl _) (by decide) rfl)
    clear hrow
    go_enter Try.func80, Try.ntmps80
    go_wp2_with (at_builtin; refine stop ?_)
    refine go_on ?_
    refine wp_append_src rfl _ _ 24 91 rfl (z := .agg #[.int .u64 0, .int .u64 0, .int .u16 0]) (size := 3) (bytes := 24) Try.underlying24 infoW rfl (by decide) _ w.heap.size _ 0 [] (l.flatMap encWin) (some ad) l.length cap rfl rfl (by exact Hmade.out) ((Hrow.out.below (below_new _ _)).src (fun _ => rfl)) (by rw [flat_len (sz := 3) (fun _ => rfl)]) (fallW oneW l) (by omega) (by omega) (by simp) ?_
    intro v' w' hown' hg
    obtain ⟨d', cap', rfl, _⟩ := own_slice hown'
    rw [Nat.zero_add] at hown'
    rw [List.nil_append] at hown'
    have Hown' := hid hown'
    have Hb := hid (bgrown (below_new w _) hg (Nat.le_refl _))
    clear hown' hg
    go_wp2
    go_ret
    exact ⟨d', cap', rfl, Hown'.out, Hb.out⟩

/-- whether a window is another partition's -/
theorem of1_c (w : World) (x : Win) (pb : Nat) (id : Int) (h : w.cell? ⟨pb, 0, none⟩ = some (.int .u16 id)) :
    Calls Try.prog 81 #[.agg #[.int .u64 x.start, .int .u64 x.len, .int .u16 x.part], .pointer (some ⟨pb, 0, none⟩)] w fun e w' => e = .returned (.bool (!decide (x.part = id))) ∧ Below w.heap.size w w' := by
  have hlt := World.block_lt_of_cell? w _ h
  simp only at hlt
  have hr : Hid ((x.part != id) = !decide (x.part = id)) := by
    show (x.part != id) = !decide (x.part = id)
    by_cases h : x.part = id <;> simp [bne, h]
  go_enter Try.func81, Try.ntmps81
  go_wp2
  go_ret
  exact ⟨ret_bool hr.out, below_new _ _⟩

/-- where the first window of another partition stands -/
def firstOther (l : List Win) (id : Int) : Int := match l.findIdx? (fun x => !decide (x.part = id)) with
  | some i => i
  | none => -1
theorem firstOther_no {l : List Win} {id : Int} (h : ∀ j (hj : j < l.length), l[j].part = id) : firstOther l id = -1 := by
  have : l.findIdx? (fun x => !decide (x.part = id)) = none := by
    rw [List.findIdx?_eq_none_iff]
    intro x hx
    obtain ⟨j, hj, rfl⟩ := List.getElem_of_mem hx
    simp [h j hj]
  simp [firstOther, this]
theorem firstOther_at {l : List Win} {id : Int} {i : Nat} (hi : i < l.length) (hn : l[i].part ≠ id) (h : ∀ j, j < i → ∀ (hj : j < l.length), l[j].part = id) : firstOther l id = i := by
  have : l.findIdx? (fun x => !decide (x.part = id)) = some i := by
    rw [List.findIdx?_eq_some_iff_getElem]
    exact ⟨hi, by simp [hn], fun j hj => by simp [h j hj (by omega)]⟩
  simp [firstOther, this]

set_option maxHeartbeats 1000000 in
theorem indexW_c (w : World) (a : Option Addr) (cap : Nat) (l : List Win) (hrow : RowAt 3 encWin w a l) (hlen : l.length ≤ 9223372036854775807) (pb : Nat) (id : Int) (h : w.cell? ⟨pb, 0, none⟩ = some (.int .u16 id)) :
    Calls Try.prog 96 #[.slice a l.length cap, .func (.func 81) #[] #[.pointer (some ⟨pb, 0, none⟩)]] w fun e w' => e = .returned (.int .i64 (firstOther l id)) ∧ Below w.heap.size w w' := by
  obtain ⟨r, hr⟩ : ∃ r, firstOther l id = r := ⟨_, rfl⟩
  rw [hr]
  have Hr := hid hr
  clear hr
  go_enter Try.func96, Try.ntmps96
  go_wp2
  go_loopw [8] (fun i wr => ∃ k : Nat, k ≤ l.length ∧ i = .int .i64 k ∧ Hid (∀ j, j < k → ∀ (hj : j < l.length), l[j].part = id) ∧ Below w.heap.size w wr) (fun i _ => l.length - (intOf i).toNat)
  case atStart => exact ⟨0, Nat.zero_le _, rfl, fun j hj => by omega, Below.refl _ _⟩
  case round =>
    obtain ⟨k, hkn, rfl, Hk, hbr⟩ := hrel
    by_cases hlt : k < l.length
    · obtain ⟨b, o, rfl, hb0, h0, h1, h2⟩ := (hrow.below hbr).win hlt
      have hcell := hid (cell_below hbr h)
      have Hrow := hid hrow
      clear hrow
      go_wp2_with fail
      refine (of1_c wr l[k] pb id hcell.out).mono ?_
      rintro e w2 ⟨rfl, hb2⟩
      have hbf := bthen hbr hb2
      clear hb2
      by_cases he : l[k].part = id
      · have hbe : decide (l[k].part = id) = true := by simpa using he
        have hnext : Hid (∀ j, j < k + 1 → ∀ (hj : j < l.length), l[j].part = id) := by
          intro j hj hjl
          rcases Nat.lt_succ_iff_lt_or_eq.1 hj with h' | rfl
          · exact Hk.out j h' hjl
          · exact he
        clear he
        go_wp2
        go_roundw
        case rel => exact ⟨k + 1, by omega, by go_num, hnext, hbf⟩
        case measure => simp [intOf]; omega
      · have hbe : decide (l[k].part = id) = false := by simpa using he
        have hfin : Hid (firstOther l id = k) := firstOther_at hlt he Hk.out
        clear he
        go_wp2
        go_ret
        exact ⟨ret_int (hfin.out.symm.trans Hr.out), hbf⟩
    · have hfin : Hid (firstOther l id = -1) := firstOther_no (fun j hj => Hk.out j (by omega) hj)
      go_wp2
      go_ret
      exact ⟨ret_int (hfin.out.symm.trans Hr.out), hbr⟩
end Go.Proofs.Ytlccbejhamkdoaa
