/- collect: the keys of records -/
import Derived.Test.YtlccbejhamkdoaaUniqA
namespace Go.Proofs.Ytlccbejhamkdoaa
open Go.RowKit

set_option maxHeartbeats 400000 in
theorem collectP16_c (w : World) (a : Option Addr) (cap r : Nat) (l : List Part) (hrow : RowAt 4 encPart w a l) (hlen : l.length ≤ 140737488351232) (hm : Map16 w r []) :
    Calls Try.prog 41 #[.slice a l.length cap, .func (.func 42) #[] #[], .func (.func 43) #[.map (some r)] #[]] w fun e w' =>
      e = .returned (.int .i64 (fd (l.map (·.id)) l.length)) ∧ Map16 w' r (fm (l.map (·.id)) l.length) ∧ w.grownBy w' (some r) := by
  have hsh := hm.shape
  obtain ⟨ks, hks⟩ : ∃ ks, ks = l.map (·.id) := ⟨_, rfl⟩
  rw [← hks]
  have hk : ∀ k (h : k < l.length), ks[k]? = some l[k].id := by intro k h; subst hks; simp [h]
  have Hk := hid hk
  clear hks hk
  go_enter Try.func41, Try.ntmps41
  go_wp2
  go_loopw [7, 12] (fun f i wr => ∃ k : Nat, k ≤ l.length ∧ f = .int .i64 (fd ks k) ∧ i = .int .i64 k ∧ Map16 wr r (fm ks k) ∧ w.grownBy wr (some r)) (fun _ i _ => l.length - (intOf i).toNat)
  case atStart => exact ⟨0, Nat.zero_le _, rfl, rfl, hm, grefl _ _⟩
  case round =>
    obtain ⟨k, hkn, rfl, rfl, hmk, hg⟩ := hrel
    by_cases hlt : k < l.length
    · obtain ⟨b, o, rfl, hb, h0, h1, h2, h3⟩ := (hrow.grown hg hsh).part hlt
      have hfr := fd_range ks k
      clear hrow hm hsh
      have hkk := Hk.out k hlt
      have hm1 := hid hmk
      have hg1 := hid hg
      clear hmk hg
      go_wp2_with fail
      refine (partitionID_c l[k] _).mono ?_
      rintro e w2 ⟨rfl, hb2⟩
      have hm2 := (hm1.out.below (below_new _ _)).below hb2
      have hg2 := gtrans (gtrans hg1.out (World.grownBy_alloc _ _ _)) (gbelow hb2 _)
      have hc8 : w2.heap.size ≥ wr.heap.size + 1 := by have := hb2.size; simpa using this
      clear hb2
      go_wp2_with fail
      refine (add16_c w2 r (fm ks k) hm2 l[k].id k).mono ?_
      rintro e w3 ⟨rfl, hm3, hg3⟩
      have hg4 := gtrans hg2 hg3
      clear hg2 hg3 hm2
      have Hm3 := hid hm3
      have Hg4 := hid hg4
      clear hm3 hg4
      cases hlk : look l[k].id (fm ks k) with
      | none =>
        have e1 := fm_succ hkk
        have e2 := fd_succ_new hkk hlk
        have E1 := hid e1
        have E2 := hid e2
        clear e1 e2 hlk
        go_wp2
        go_roundw
        case rel => exact ⟨k + 1, by omega, by rw [E2.out], by go_num, by rw [E1.out]; exact Hm3.out, Hg4.out⟩
        case measure => simp [intOf]; omega
      | some y =>
        have e1 := fm_succ hkk
        have E1 := hid e1
        by_cases hf : fd ks k < 0
        · have e2 := fd_succ_first hkk hlk hf
          have E2 := hid e2
          clear e1 e2 hlk
          go_wp2
          go_roundw
          case rel => exact ⟨k + 1, by omega, by rw [E2.out], by go_num, by rw [E1.out]; exact Hm3.out, Hg4.out⟩
          case measure => simp [intOf]; omega
        · have e2 := fd_succ_old hkk (by omega)
          have E2 := hid e2
          clear e1 e2 hlk
          go_wp2
          go_roundw
          case rel => exact ⟨k + 1, by omega, by rw [E2.out], by go_num, by rw [E1.out]; exact Hm3.out, Hg4.out⟩
          case measure => simp [intOf]; omega
    · have hke : k = l.length := by omega
      subst hke
      go_wp2
      go_ret
      exact ⟨rfl, hmk, hg⟩
set_option maxHeartbeats 400000 in
theorem collectPStr_c (w : World) (a : Option Addr) (cap r : Nat) (l : List Part) (hrow : RowAt 4 encPart w a l) (hlen : l.length ≤ 140737488351232) (hm : MapStr w r []) :
    Calls Try.prog 44 #[.slice a l.length cap, .func (.func 45) #[] #[], .func (.func 46) #[.map (some r)] #[]] w fun e w' =>
      e = .returned (.int .i64 (fd (l.map (·.name)) l.length)) ∧ MapStr w' r (fm (l.map (·.name)) l.length) ∧ w.grownBy w' (some r) := by
  have hsh := hm.shape
  obtain ⟨ks, hks⟩ : ∃ ks, ks = l.map (·.name) := ⟨_, rfl⟩
  rw [← hks]
  have hk : ∀ k (h : k < l.length), ks[k]? = some l[k].name := by intro k h; subst hks; simp [h]
  have Hk := hid hk
  clear hks hk
  go_enter Try.func44, Try.ntmps44
  go_wp2
  go_loopw [7, 12] (fun f i wr => ∃ k : Nat, k ≤ l.length ∧ f = .int .i64 (fd ks k) ∧ i = .int .i64 k ∧ MapStr wr r (fm ks k) ∧ w.grownBy wr (some r)) (fun _ i _ => l.length - (intOf i).toNat)
  case atStart => exact ⟨0, Nat.zero_le _, rfl, rfl, hm, grefl _ _⟩
  case round =>
    obtain ⟨k, hkn, rfl, rfl, hmk, hg⟩ := hrel
    by_cases hlt : k < l.length
    · obtain ⟨b, o, rfl, hb, h0, h1, h2, h3⟩ := (hrow.grown hg hsh).part hlt
      have hfr := fd_range ks k
      clear hrow hm hsh
      have hkk := Hk.out k hlt
      have hm1 := hid hmk
      have hg1 := hid hg
      clear hmk hg
      go_wp2_with fail
      refine (partitionName_c l[k] _).mono ?_
      rintro e w2 ⟨rfl, hb2⟩
      have hm2 := (hm1.out.below (below_new _ _)).below hb2
      have hg2 := gtrans (gtrans hg1.out (World.grownBy_alloc _ _ _)) (gbelow hb2 _)
      have hc8 : w2.heap.size ≥ wr.heap.size + 1 := by have := hb2.size; simpa using this
      clear hb2
      go_wp2_with fail
      refine (addStr_c w2 r (fm ks k) hm2 l[k].name k).mono ?_
      rintro e w3 ⟨rfl, hm3, hg3⟩
      have hg4 := gtrans hg2 hg3
      clear hg2 hg3 hm2
      have Hm3 := hid hm3
      have Hg4 := hid hg4
      clear hm3 hg4
      cases hlk : look l[k].name (fm ks k) with
      | none =>
        have e1 := fm_succ hkk
        have e2 := fd_succ_new hkk hlk
        have E1 := hid e1
        have E2 := hid e2
        clear e1 e2 hlk
        go_wp2
        go_roundw
        case rel => exact ⟨k + 1, by omega, by rw [E2.out], by go_num, by rw [E1.out]; exact Hm3.out, Hg4.out⟩
        case measure => simp [intOf]; omega
      | some y =>
        have e1 := fm_succ hkk
        have E1 := hid e1
        by_cases hf : fd ks k < 0
        · have e2 := fd_succ_first hkk hlk hf
          have E2 := hid e2
          clear e1 e2 hlk
          go_wp2
          go_roundw
          case rel => exact ⟨k + 1, by omega, by rw [E2.out], by go_num, by rw [E1.out]; exact Hm3.out, Hg4.out⟩
          case measure => simp [intOf]; omega
        · have e2 := fd_succ_old hkk (by omega)
          have E2 := hid e2
          clear e1 e2 hlk
          go_wp2
          go_roundw
          case rel => exact ⟨k + 1, by omega, by rw [E2.out], by go_num, by rw [E1.out]; exact Hm3.out, Hg4.out⟩
          case measure => simp [intOf]; omega
    · have hke : k = l.length := by omega
      subst hke
      go_wp2
      go_ret
      exact ⟨rfl, hmk, hg⟩
set_option maxHeartbeats 400000 in
theorem collectO16_c (w : World) (a : Option Addr) (cap r : Nat) (l : List Prt) (hrow : RowAt 6 encPrt w a l) (hlen : l.length ≤ 140737488351232) (hm : Map16 w r []) :
    Calls Try.prog 48 #[.slice a l.length cap, .func (.func 49) #[] #[], .func (.func 43) #[.map (some r)] #[]] w fun e w' =>
      e = .returned (.int .i64 (fd (l.map (·.id)) l.length)) ∧ Map16 w' r (fm (l.map (·.id)) l.length) ∧ w.grownBy w' (some r) := by
  have hsh := hm.shape
  obtain ⟨ks, hks⟩ : ∃ ks, ks = l.map (·.id) := ⟨_, rfl⟩
  rw [← hks]
  have hk : ∀ k (h : k < l.length), ks[k]? = some l[k].id := by intro k h; subst hks; simp [h]
  have Hk := hid hk
  clear hks hk
  go_enter Try.func48, Try.ntmps48
  go_wp2
  go_loopw [7, 12] (fun f i wr => ∃ k : Nat, k ≤ l.length ∧ f = .int .i64 (fd ks k) ∧ i = .int .i64 k ∧ Map16 wr r (fm ks k) ∧ w.grownBy wr (some r)) (fun _ i _ => l.length - (intOf i).toNat)
  case atStart => exact ⟨0, Nat.zero_le _, rfl, rfl, hm, grefl _ _⟩
  case round =>
    obtain ⟨k, hkn, rfl, rfl, hmk, hg⟩ := hrel
    by_cases hlt : k < l.length
    · obtain ⟨b, o, rfl, hb, h0, h1, h2, h3, h4, h5⟩ := (hrow.grown hg hsh).prt hlt
      have hfr := fd_range ks k
      clear hrow hm hsh
      have hkk := Hk.out k hlt
      have hm1 := hid hmk
      have hg1 := hid hg
      clear hmk hg
      go_wp2_with fail
      refine (portID_c l[k] _).mono ?_
      rintro e w2 ⟨rfl, hb2⟩
      have hm2 := (hm1.out.below (below_new _ _)).below hb2
      have hg2 := gtrans (gtrans hg1.out (World.grownBy_alloc _ _ _)) (gbelow hb2 _)
      have hc8 : w2.heap.size ≥ wr.heap.size + 1 := by have := hb2.size; simpa using this
      clear hb2
      go_wp2_with fail
      refine (add16_c w2 r (fm ks k) hm2 l[k].id k).mono ?_
      rintro e w3 ⟨rfl, hm3, hg3⟩
      have hg4 := gtrans hg2 hg3
      clear hg2 hg3 hm2
      have Hm3 := hid hm3
      have Hg4 := hid hg4
      clear hm3 hg4
      cases hlk : look l[k].id (fm ks k) with
      | none =>
        have e1 := fm_succ hkk
        have e2 := fd_succ_new hkk hlk
        have E1 := hid e1
        have E2 := hid e2
        clear e1 e2 hlk
        go_wp2
        go_roundw
        case rel => exact ⟨k + 1, by omega, by rw [E2.out], by go_num, by rw [E1.out]; exact Hm3.out, Hg4.out⟩
        case measure => simp [intOf]; omega
      | some y =>
        have e1 := fm_succ hkk
        have E1 := hid e1
        by_cases hf : fd ks k < 0
        · have e2 := fd_succ_first hkk hlk hf
          have E2 := hid e2
          clear e1 e2 hlk
          go_wp2
          go_roundw
          case rel => exact ⟨k + 1, by omega, by rw [E2.out], by go_num, by rw [E1.out]; exact Hm3.out, Hg4.out⟩
          case measure => simp [intOf]; omega
        · have e2 := fd_succ_old hkk (by omega)
          have E2 := hid e2
          clear e1 e2 hlk
          go_wp2
          go_roundw
          case rel => exact ⟨k + 1, by omega, by rw [E2.out], by go_num, by rw [E1.out]; exact Hm3.out, Hg4.out⟩
          case measure => simp [intOf]; omega
    · have hke : k = l.length := by omega
      subst hke
      go_wp2
      go_ret
      exact ⟨rfl, hmk, hg⟩
set_option maxHeartbeats 400000 in
theorem collectONm_c (w : World) (a : Option Addr) (cap r : Nat) (l : List Prt) (hrow : RowAt 6 encPrt w a l) (hlen : l.length ≤ 140737488351232) (hm : MapNm w r []) :
    Calls Try.prog 50 #[.slice a l.length cap, .func (.func 51) #[] #[], .func (.func 52) #[.map (some r)] #[]] w fun e w' =>
      e = .returned (.int .i64 (fd (l.map (fun p => (p.part, p.name))) l.length)) ∧ MapNm w' r (fm (l.map (fun p => (p.part, p.name))) l.length) ∧ w.grownBy w' (some r) := by
  have hsh := hm.shape
  obtain ⟨ks, hks⟩ : ∃ ks, ks = l.map (fun p => (p.part, p.name)) := ⟨_, rfl⟩
  rw [← hks]
  have hk : ∀ k (h : k < l.length), ks[k]? = some (l[k].part, l[k].name) := by intro k h; subst hks; simp [h]
  have Hk := hid hk
  clear hks hk
  go_enter Try.func50, Try.ntmps50
  go_wp2
  go_loopw [7, 12] (fun f i wr => ∃ k : Nat, k ≤ l.length ∧ f = .int .i64 (fd ks k) ∧ i = .int .i64 k ∧ MapNm wr r (fm ks k) ∧ w.grownBy wr (some r)) (fun _ i _ => l.length - (intOf i).toNat)
  case atStart => exact ⟨0, Nat.zero_le _, rfl, rfl, hm, grefl _ _⟩
  case round =>
    obtain ⟨k, hkn, rfl, rfl, hmk, hg⟩ := hrel
    by_cases hlt : k < l.length
    · obtain ⟨b, o, rfl, hb, h0, h1, h2, h3, h4, h5⟩ := (hrow.grown hg hsh).prt hlt
      have hfr := fd_range ks k
      clear hrow hm hsh
      have hkk := Hk.out k hlt
      have hm1 := hid hmk
      have hg1 := hid hg
      clear hmk hg
      go_wp2_with fail
      refine (portName_c l[k] _).mono ?_
      rintro e w2 ⟨rfl, hb2⟩
      have hm2 := (hm1.out.below (below_new _ _)).below hb2
      have hg2 := gtrans (gtrans hg1.out (World.grownBy_alloc _ _ _)) (gbelow hb2 _)
      have hc8 : w2.heap.size ≥ wr.heap.size + 1 := by have := hb2.size; simpa using this
      clear hb2
      go_wp2_with fail
      refine (addNm_c w2 r (fm ks k) hm2 (l[k].part, l[k].name) k).mono ?_
      rintro e w3 ⟨rfl, hm3, hg3⟩
      have hg4 := gtrans hg2 hg3
      clear hg2 hg3 hm2
      have Hm3 := hid hm3
      have Hg4 := hid hg4
      clear hm3 hg4
      cases hlk : look (l[k].part, l[k].name) (fm ks k) with
      | none =>
        have e1 := fm_succ hkk
        have e2 := fd_succ_new hkk hlk
        have E1 := hid e1
        have E2 := hid e2
        clear e1 e2 hlk
        go_wp2
        go_roundw
        case rel => exact ⟨k + 1, by omega, by rw [E2.out], by go_num, by rw [E1.out]; exact Hm3.out, Hg4.out⟩
        case measure => simp [intOf]; omega
      | some y =>
        have e1 := fm_succ hkk
        have E1 := hid e1
        by_cases hf : fd ks k < 0
        · have e2 := fd_succ_first hkk hlk hf
          have E2 := hid e2
          clear e1 e2 hlk
          go_wp2
          go_roundw
          case rel => exact ⟨k + 1, by omega, by rw [E2.out], by go_num, by rw [E1.out]; exact Hm3.out, Hg4.out⟩
          case measure => simp [intOf]; omega
        · have e2 := fd_succ_old hkk (by omega)
          have E2 := hid e2
          clear e1 e2 hlk
          go_wp2
          go_roundw
          case rel => exact ⟨k + 1, by omega, by rw [E2.out], by go_num, by rw [E1.out]; exact Hm3.out, Hg4.out⟩
          case measure => simp [intOf]; omega
    · have hke : k = l.length := by omega
      subst hke
      go_wp2
      go_ret
      exact ⟨rfl, hmk, hg⟩
set_option maxHeartbeats 400000 in
theorem collectC16_c (w : World) (a : Option Addr) (cap r : Nat) (l : List Chn) (hrow : ChnAt w a l) (hlen : l.length ≤ 140737488351232) (hm : Map16 w r []) :
    Calls Try.prog 54 #[.slice a l.length cap, .func (.func 55) #[] #[], .func (.func 43) #[.map (some r)] #[]] w fun e w' =>
      e = .returned (.int .i64 (fd (l.map (·.id)) l.length)) ∧ Map16 w' r (fm (l.map (·.id)) l.length) ∧ w.grownBy w' (some r) := by
  have hsh := hm.shape
  obtain ⟨ks, hks⟩ : ∃ ks, ks = l.map (·.id) := ⟨_, rfl⟩
  rw [← hks]
  have hk : ∀ k (h : k < l.length), ks[k]? = some l[k].id := by intro k h; subst hks; simp [h]
  have Hk := hid hk
  clear hks hk
  go_enter Try.func54, Try.ntmps54
  go_wp2
  go_loopw [7, 12] (fun f i wr => ∃ k : Nat, k ≤ l.length ∧ f = .int .i64 (fd ks k) ∧ i = .int .i64 k ∧ Map16 wr r (fm ks k) ∧ w.grownBy wr (some r)) (fun _ i _ => l.length - (intOf i).toNat)
  case atStart => exact ⟨0, Nat.zero_le _, rfl, rfl, hm, grefl _ _⟩
  case round =>
    obtain ⟨k, hkn, rfl, rfl, hmk, hg⟩ := hrel
    by_cases hlt : k < l.length
    · obtain ⟨b, o, d, c, rfl, hb, h0, h1, h2, _, _⟩ := (hrow.grown hg hsh).chn hlt
      have hfr := fd_range ks k
      clear hrow hm hsh
      have hkk := Hk.out k hlt
      have hm1 := hid hmk
      have hg1 := hid hg
      clear hmk hg
      go_wp2_with fail
      refine (channelID_c _ _ l[k].id _).mono ?_
      rintro e w2 ⟨rfl, hb2⟩
      have hm2 := (hm1.out.below (below_new _ _)).below hb2
      have hg2 := gtrans (gtrans hg1.out (World.grownBy_alloc _ _ _)) (gbelow hb2 _)
      have hc8 : w2.heap.size ≥ wr.heap.size + 1 := by have := hb2.size; simpa using this
      clear hb2
      go_wp2_with fail
      refine (add16_c w2 r (fm ks k) hm2 l[k].id k).mono ?_
      rintro e w3 ⟨rfl, hm3, hg3⟩
      have hg4 := gtrans hg2 hg3
      clear hg2 hg3 hm2
      have Hm3 := hid hm3
      have Hg4 := hid hg4
      clear hm3 hg4
      cases hlk : look l[k].id (fm ks k) with
      | none =>
        have e1 := fm_succ hkk
        have e2 := fd_succ_new hkk hlk
        have E1 := hid e1
        have E2 := hid e2
        clear e1 e2 hlk
        go_wp2
        go_roundw
        case rel => exact ⟨k + 1, by omega, by rw [E2.out], by go_num, by rw [E1.out]; exact Hm3.out, Hg4.out⟩
        case measure => simp [intOf]; omega
      | some y =>
        have e1 := fm_succ hkk
        have E1 := hid e1
        by_cases hf : fd ks k < 0
        · have e2 := fd_succ_first hkk hlk hf
          have E2 := hid e2
          clear e1 e2 hlk
          go_wp2
          go_roundw
          case rel => exact ⟨k + 1, by omega, by rw [E2.out], by go_num, by rw [E1.out]; exact Hm3.out, Hg4.out⟩
          case measure => simp [intOf]; omega
        · have e2 := fd_succ_old hkk (by omega)
          have E2 := hid e2
          clear e1 e2 hlk
          go_wp2
          go_roundw
          case rel => exact ⟨k + 1, by omega, by rw [E2.out], by go_num, by rw [E1.out]; exact Hm3.out, Hg4.out⟩
          case measure => simp [intOf]; omega
    · have hke : k = l.length := by omega
      subst hke
      go_wp2
      go_ret
      exact ⟨rfl, hmk, hg⟩
theorem sameNumber_c (n : Int) (w : World) : Calls Try.prog 74 #[.int .u16 n] w fun e w' => e = .returned (.int .u16 n) ∧ Below w.heap.size w w' := by
  go_enter Try.func74, Try.ntmps74
  go_wp2
  go_ret
  exact ⟨rfl, Below.refl _ _⟩

set_option maxHeartbeats 400000 in
theorem collectN16_c (w : World) (a : Option Addr) (cap r : Nat) (l : List Int) (hrow : RowAt 1 (fun n => [.int .u16 n]) w a l) (hlen : l.length ≤ 140737488351232) (hm : Map16 w r []) :
    Calls Try.prog 73 #[.slice a l.length cap, .func (.func 74) #[] #[], .func (.func 43) #[.map (some r)] #[]] w fun e w' =>
      e = .returned (.int .i64 (fd (l) l.length)) ∧ Map16 w' r (fm (l) l.length) ∧ w.grownBy w' (some r) := by
  have hsh := hm.shape
  have hk : ∀ k (h : k < l.length), l[k]? = some l[k] := by intro k h; simp [h]
  have Hk := hid hk
  clear hk
  go_enter Try.func73, Try.ntmps73
  go_wp2
  go_loopw [7, 12] (fun f i wr => ∃ k : Nat, k ≤ l.length ∧ f = .int .i64 (fd l k) ∧ i = .int .i64 k ∧ Map16 wr r (fm l k) ∧ w.grownBy wr (some r)) (fun _ i _ => l.length - (intOf i).toNat)
  case atStart => exact ⟨0, Nat.zero_le _, rfl, rfl, hm, grefl _ _⟩
  case round =>
    obtain ⟨k, hkn, rfl, rfl, hmk, hg⟩ := hrel
    by_cases hlt : k < l.length
    · obtain ⟨b, o, rfl, hb, h0⟩ := RowAt.one (enc := fun n => Value.int .u16 n) (hrow.grown hg hsh) hlt
      have hfr := fd_range l k
      clear hrow hm hsh
      have hkk := Hk.out k hlt
      have hm1 := hid hmk
      have hg1 := hid hg
      clear hmk hg
      go_wp2_with fail
      refine (sameNumber_c l[k] _).mono ?_
      rintro e w2 ⟨rfl, hb2⟩
      have hm2 := (hm1.out).below hb2
      have hg2 := gtrans hg1.out (gbelow hb2 _)
      clear hb2
      go_wp2_with fail
      refine (add16_c w2 r (fm l k) hm2 l[k] k).mono ?_
      rintro e w3 ⟨rfl, hm3, hg3⟩
      have hg4 := gtrans hg2 hg3
      clear hg2 hg3 hm2
      have Hm3 := hid hm3
      have Hg4 := hid hg4
      clear hm3 hg4
      cases hlk : look l[k] (fm l k) with
      | none =>
        have e1 := fm_succ hkk
        have e2 := fd_succ_new hkk hlk
        have E1 := hid e1
        have E2 := hid e2
        clear e1 e2 hlk
        go_wp2
        go_roundw
        case rel => exact ⟨k + 1, by omega, by rw [E2.out], by go_num, by rw [E1.out]; exact Hm3.out, Hg4.out⟩
        case measure => simp [intOf]; omega
      | some y =>
        have e1 := fm_succ hkk
        have E1 := hid e1
        by_cases hf : fd l k < 0
        · have e2 := fd_succ_first hkk hlk hf
          have E2 := hid e2
          clear e1 e2 hlk
          go_wp2
          go_roundw
          case rel => exact ⟨k + 1, by omega, by rw [E2.out], by go_num, by rw [E1.out]; exact Hm3.out, Hg4.out⟩
          case measure => simp [intOf]; omega
        · have e2 := fd_succ_old hkk (by omega)
          have E2 := hid e2
          clear e1 e2 hlk
          go_wp2
          go_roundw
          case rel => exact ⟨k + 1, by omega, by rw [E2.out], by go_num, by rw [E1.out]; exact Hm3.out, Hg4.out⟩
          case measure => simp [intOf]; omega
    · have hke : k = l.length := by omega
      subst hke
      go_wp2
      go_ret
      exact ⟨rfl, hmk, hg⟩
theorem Repeated_c (w : World) (a : Option Addr) (cap : Nat) (l : List Int) (hrow : RowAt 1 (fun n => [.int .u16 n]) w a l) (hlen : l.length ≤ 140737488351232) :
    Calls Try.prog 36 #[.slice a l.length cap] w fun e w' => e = .returned (.int .i64 (fd l l.length)) ∧ Below w.heap.size w w' := by
  have hmm := @run_makeMap Try.prog
  go_enter Try.func36, Try.ntmps36
  go_wp2_with fail
  refine (collectN16_c _ a cap w.heap.size l (hrow.below (below_new _ _)) hlen (MapAt.new w)).mono ?_
  rintro e w2 ⟨rfl, hm, hg⟩
  have hb := bgrown (below_new w (.map #[] 0)) hg (Nat.le_refl _)
  clear hm hg
  go_wp2
  go_ret
  exact ⟨rfl, hb⟩
end Go.Proofs.Ytlccbejhamkdoaa
