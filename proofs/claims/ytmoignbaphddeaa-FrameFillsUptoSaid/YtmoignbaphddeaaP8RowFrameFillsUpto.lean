/-
  the lengths of windows and of what lies between them: plain law
  the walk of FrameFills
-/
import Derived.Test.YtmoignbaphddeaaB7Law15A
set_option linter.unusedVariables false
namespace Go.Proofs.Ytmoignbaphddeaa
open Go.RowKit

/-- the windows in their order -/
def sortW (ws : List Win) : List Win := ws.mergeSort fun a b => decide (a.start ≤ b.start)
theorem sortW_perm (ws : List Win) : ws.Perm (sortW ws) := (List.mergeSort_perm ws _).symm
theorem sortW_asc (ws : List Win) : (sortW ws).Pairwise fun a b => a.start ≤ b.start := by
  have := List.pairwise_mergeSort (le := fun (a b : Win) => decide (a.start ≤ b.start)) (fun a b c h1 h2 => by simp only [decide_eq_true_eq] at *; omega) (fun a b => by simp only [Bool.or_eq_true, decide_eq_true_eq]; omega) ws
  exact this.imp fun h => by simpa using h

def lenS (ws : List Win) : Int := (ws.map Win.len).sum
theorem lenS_nil : lenS [] = 0 := rfl
theorem lenS_cons (x : Win) (ws : List Win) : lenS (x :: ws) = x.len + lenS ws := by simp [lenS]
theorem lenS_append (l m : List Win) : lenS (l ++ m) = lenS l + lenS m := by
  induction l with
  | nil => simp [lenS_nil]
  | cons x l ih => rw [List.cons_append, lenS_cons, lenS_cons, ih]; omega
theorem lenS_perm {l m : List Win} (h : l.Perm m) : lenS l = lenS m := by
  induction h with
  | nil => rfl
  | cons x _ ih => rw [lenS_cons, lenS_cons, ih]
  | swap x y l => rw [lenS_cons, lenS_cons, lenS_cons, lenS_cons]; omega
  | trans _ _ ih1 ih2 => exact ih1.trans ih2
theorem lenS_nonneg {ws : List Win} (h : ∀ x ∈ ws, 0 < x.len) : 0 ≤ lenS ws := by
  induction ws with
  | nil => exact Int.le_refl _
  | cons x ws ih =>
    rw [lenS_cons]
    have := ih (fun y hy => h y (List.mem_cons_of_mem _ hy))
    have := h x (by simp)
    omega
theorem lenS_take {ws : List Win} {k : Nat} (h : k < ws.length) : lenS (ws.take (k + 1)) = lenS (ws.take k) + ws[k].len := by
  rw [List.take_add_one, List.getElem?_eq_getElem h, lenS_append]; simp [lenS]
theorem lenS_take_le {ws : List Win} (h : ∀ x ∈ ws, 0 < x.len) (k : Nat) : lenS (ws.take k) ≤ lenS ws := by
  have e := lenS_append (ws.take k) (ws.drop k)
  rw [List.take_append_drop] at e
  have := lenS_nonneg (ws := ws.drop k) (fun x hx => h x (List.mem_of_mem_drop hx))
  omega
theorem idleR_sum {F : Int} : ∀ (m : List Win) (E : Int), Chain F E m → E ≤ F → lenS (idleR F E m) + lenS m = F - E
  | [], E, _, hE => by
    unfold idleR
    split
    · simp [lenS]
    · simp [lenS]; omega
  | x :: m, E, hc, hE => by
    unfold Chain at hc
    obtain ⟨h1, h2, h3, h4⟩ := hc
    have ih := idleR_sum m (x.start + x.len) h4 h3
    rw [idleR, lenS_append, lenS_cons]
    split
    · rw [lenS_cons, lenS_nil]; simp only; omega
    · rw [lenS_nil]; omega
theorem idleR_pos {F : Int} : ∀ (m : List Win) (E : Int), ∀ x ∈ idleR F E m, 0 < x.len
  | [], E => by
    intro x hx
    unfold idleR at hx
    split at hx
    · rw [List.mem_singleton] at hx; subst hx; simp only; omega
    · cases hx
  | y :: m, E => by
    intro x hx
    rw [idleR, List.mem_append] at hx
    rcases hx with hx | hx
    · split at hx
      · rw [List.mem_singleton] at hx; subst hx; simp only; omega
      · cases hx
    · exact idleR_pos m _ x hx
theorem RightW.idle {c : Cfg} (h : RightW c) (hF : U64 c.frame) : lenS (idleL c) + lenS c.wins = c.frame ∧ (∀ x ∈ idleL c, 0 < x.len) := by
  rw [idleL_eq h hF (sortW_perm _) (sortW_asc _), lenS_perm (sortW_perm c.wins)]
  have hap := h.apart.perm (sortW_perm c.wins)
  refine ⟨?_, idleR_pos _ _⟩
  rw [idleR_sum _ _ (hap.chain (sortW_asc _) (fun x hx => (hap.each x hx).1)) (Int.le_of_lt h.pos)]
  omega

theorem spans_len (ws : List Win) (id : Int) : ((spansOf ws id).map fun y => y.2 - y.1).sum = lenS (ws.filter fun x => decide (x.part = id)) := by
  unfold spansOf lenS
  rw [List.map_map]
  congr 1
  apply List.map_congr_left
  intro x _
  simp only [Function.comp]; omega
theorem RightW.used_len {c : Cfg} (h : RightW c) (id : Int) : usedP c.wins id 0 c.frame = lenS (c.wins.filter fun x => decide (x.part = id)) := by
  rw [← spans_len, spans_sum h.apart.each]

/-- the windows of partitions not among these -/
def restS (ws : List Win) (ids : List Int) : Int := lenS (ws.filter fun x => decide (x.part ∉ ids))
theorem restS_nil (ws : List Win) : restS ws [] = lenS ws := by
  unfold restS
  congr 1
  exact List.filter_eq_self.2 fun x _ => by simp
theorem restS_in {ws : List Win} {ids : List Int} {id : Int} (h : id ∈ ids) : restS ws (ids ++ [id]) = restS ws ids := by
  unfold restS
  congr 1
  apply List.filter_congr
  intro x _
  rw [decide_eq_decide]
  simp only [List.mem_append, List.mem_singleton, not_or]
  constructor
  · exact fun h' => h'.1
  · exact fun h' => ⟨h', fun e => h' (by rw [e]; exact h)⟩
theorem restS_out {ws : List Win} {ids : List Int} {id : Int} (h : id ∉ ids) : restS ws (ids ++ [id]) = restS ws ids - lenS (ws.filter fun x => decide (x.part = id)) := by
  unfold restS
  have key : ∀ (l : List Win), lenS (l.filter fun x => decide (x.part ∉ ids)) = lenS (l.filter fun x => decide (x.part ∉ ids ++ [id])) + lenS (l.filter fun x => decide (x.part = id)) := by
    intro l
    induction l with
    | nil => rfl
    | cons x l ih =>
      by_cases h1 : x.part = id
      · have h2 : x.part ∉ ids := by rw [h1]; exact h
        have h3 : ¬ x.part ∉ ids ++ [id] := by simp [h1]
        rw [List.filter_cons_of_pos (by simpa using h2), List.filter_cons_of_neg (by simpa using h3), List.filter_cons_of_pos (by simpa using h1), lenS_cons, lenS_cons, ih]
        omega
      · by_cases h2 : x.part ∈ ids
        · rw [List.filter_cons_of_neg (by simpa using h2), List.filter_cons_of_neg (by simp [h2]), List.filter_cons_of_neg (by simpa using h1), ih]
        · rw [List.filter_cons_of_pos (by simpa using h2), List.filter_cons_of_pos (by simp [h2, h1]), List.filter_cons_of_neg (by simpa using h1), lenS_cons, lenS_cons, ih]
          omega
  rw [key ws]; omega
theorem restS_all {ws : List Win} {ids : List Int} (h : ∀ x ∈ ws, x.part ∈ ids) : restS ws ids = 0 := by
  unfold restS
  have : (ws.filter fun x => decide (x.part ∉ ids)) = [] := by
    rw [List.filter_eq_nil_iff]
    intro x hx
    simpa using h x hx
  rw [this]; rfl
theorem restS_nonneg {ws : List Win} (h : ∀ x ∈ ws, 0 < x.len) (ids : List Int) : 0 ≤ restS ws ids := lenS_nonneg (fun x hx => h x (List.mem_filter.1 hx).1)
end Go.Proofs.Ytmoignbaphddeaa
namespace Go.Proofs.Ytmoignbaphddeaa
open Go.RowKit

theorem fills1_c (w : World) (q : Part) (pb : Nat) (p : Part) (h : w.heap[pb]? = some (.cells #[.int .u16 p.id, .string p.name, .int .u64 p.period, .int .u64 p.dur] 47 (0, 0))) :
    Calls Try.prog 19 #[.agg #[.int .u16 q.id, .string q.name, .int .u64 q.period, .int .u64 q.dur], .pointer (some ⟨pb, 0, none⟩)] w fun e w' => e = .returned (.bool (q.id == p.id)) ∧ Below w.heap.size w w' := by
  have p0 := cell_of_heap (i := 0) h rfl
  have pl := lt_of_block h
  clear h
  go_enter Try.func19, Try.ntmps19
  go_wp2
  go_ret
  exact ⟨rfl, below_new _ _⟩

set_option maxHeartbeats 2000000 in
theorem indexP_c (w : World) (d : Option Addr) (cap : Nat) (l : List Part) (hrow : RowAt 4 encPart w d l) (hlen : l.length ≤ 9223372036854775807) (pb : Nat) (p : Part) (h : w.heap[pb]? = some (.cells #[.int .u16 p.id, .string p.name, .int .u64 p.period, .int .u64 p.dur] 47 (0, 0))) :
    Calls Try.prog 33 #[.slice d l.length cap, .func (.func 19) #[] #[.pointer (some ⟨pb, 0, none⟩)]] w fun e w' => ∃ r : Int, e = .returned (.int .i64 r) ∧ (0 ≤ r ↔ p.id ∈ l.map (·.id)) ∧ Below w.heap.size w w' := by
  have Hrow := hid hrow
  have Hp := hid h
  clear hrow h
  go_enter Try.func33, Try.ntmps33
  go_wp2_with fail
  go_loopw [8] (fun i wr => ∃ k : Nat, k ≤ l.length ∧ i = .int .i64 k ∧ Hid (p.id ∉ (l.take k).map (·.id)) ∧ Below w.heap.size w wr) (fun i _ => l.length - (intOf i).toNat)
  case atStart => exact ⟨0, Nat.zero_le _, rfl, by show _ ∉ _; simp, Below.refl _ _⟩
  case round =>
    obtain ⟨k, hkn, rfl, Hk, hbr⟩ := hrel
    by_cases hlt : k < l.length
    · obtain ⟨b, o, rfl, hb0, g0, g1, g2, g3⟩ := (Hrow.out.below hbr).part hlt
      obtain ⟨q, hq⟩ : ∃ q, l[k] = q := ⟨_, rfl⟩
      rw [hq] at g0 g1 g2 g3
      have Hq := hid hq
      have hcall := hid (fills1_c wr q pb p (heap_keep Hp.out hbr))
      have Hb := hid hbr
      obtain ⟨t, ht⟩ : ∃ t, (q.id == p.id) = t := ⟨_, rfl⟩
      rw [ht] at hcall
      have Ht := hid ht
      clear hq hbr ht
      go_wp2_with fail
      refine hcall.out.mono ?_
      rintro e w3 ⟨rfl, hb3⟩
      have Hb3 := hid (bthen Hb.out hb3)
      clear hb3 hcall g0 g1 g2 g3
      cases t
      · have hnx : Hid (p.id ∉ (l.take (k + 1)).map (·.id)) := by
          have h1 := Ht.out
          have h2 := Hk.out
          show _ ∉ _
          rw [List.take_add_one, List.getElem?_eq_getElem hlt, Hq.out, List.map_append, List.mem_append, not_or]
          refine ⟨h2, ?_⟩
          simp only [Option.toList_some, List.map_cons, List.map_nil, List.mem_singleton]
          intro e
          rw [e] at h1
          simp at h1
        go_wp2
        exact ⟨⟨k + 1, by omega, by go_num, hnx, Hb3.out⟩, by simp [intOf]; omega⟩
      · have hin : Hid (p.id ∈ l.map (·.id)) := by
          have h1 := Ht.out
          simp only [beq_iff_eq] at h1
          exact List.mem_map.2 ⟨q, by rw [← Hq.out]; exact List.getElem_mem hlt, h1⟩
        go_wp2
        go_ret
        exact ⟨_, rfl, ⟨fun _ => hin.out, fun _ => by omega⟩, Hb3.out⟩
    · have hke : k = l.length := by omega
      subst hke
      have hno := hid Hk.out
      rw [List.take_length] at hno
      go_wp2
      go_ret
      exact ⟨_, rfl, ⟨fun h => by omega, fun h => absurd h hno.out⟩, hbr⟩

theorem contains_c (w : World) (d : Option Addr) (cap : Nat) (l : List Part) (hrow : RowAt 4 encPart w d l) (hlen : l.length ≤ 9223372036854775807) (pb : Nat) (p : Part) (h : w.heap[pb]? = some (.cells #[.int .u16 p.id, .string p.name, .int .u64 p.period, .int .u64 p.dur] 47 (0, 0))) :
    Calls Try.prog 18 #[.slice d l.length cap, .func (.func 19) #[] #[.pointer (some ⟨pb, 0, none⟩)]] w fun e w' => e = .returned (.bool (decide (p.id ∈ l.map (·.id)))) ∧ Below w.heap.size w w' := by
  have hcall := hid (indexP_c w d cap l hrow hlen pb p h)
  clear hrow h
  obtain ⟨t, ht⟩ : ∃ t, decide (p.id ∈ l.map (·.id)) = t := ⟨_, rfl⟩
  have Ht := hid ht
  rw [ht]
  clear ht
  go_enter Try.func18, Try.ntmps18
  go_wp2_with fail
  refine hcall.out.mono ?_
  rintro e w2 ⟨r, rfl, hr, hb2⟩
  have hrt : decide (0 ≤ r) = t := by rw [← Ht.out, decide_eq_decide]; exact hr
  clear hr hcall
  go_wp2
  go_ret
  exact ⟨by simp, hb2⟩

theorem winE_known {c : Cfg} {x : Win} (h : winE c x = 0) : x.part ∈ c.parts.map (·.id) := by
  unfold winE at h
  rcases ixOf_cases (c.parts.map (·.id)) x.part with ⟨h1, h2⟩ | ⟨n, h1, h2, -⟩
  · rw [h1, if_pos (by decide)] at h; omega
  · exact List.mem_of_getElem? h2

theorem idleL_len {c : Cfg} (h : RightW c) (hF : U64 c.frame) : (idleL c).length ≤ c.wins.length + 1 := by
  unfold idleL
  rw [List.length_map]
  have := gEnd_len c.frame ((visitT (c.wins.map spn)).map Prod.fst)
  rw [List.length_map, visitT_len (h.spans hF), List.length_map] at this
  exact this
theorem RowAt.take {α : Type} {sz : Nat} {enc : α → List Value} {w : World} {a : Option Addr} {l : List α} (h : RowAt sz enc w a l) (n : Nat) : RowAt sz enc w a (l.take n) := by
  intro k x hx
  rw [List.getElem?_take] at hx
  split at hx
  · exact h k x hx
  · cases hx

set_option maxHeartbeats 8000000 in
set_option maxRecDepth 20000 in
theorem FrameFills_walk (w : World) (c : Cfg) (A : Adr) (hc : CfgAt w c A) (hs : Small c) :
    Calls Try.prog 6 #[cfgVal c A] w fun e w' => e = .returned (.bool true) ∧ Below w.heap.size w w' := by
  have Hr := hid (fun W (h : CfgAt W c A) => right15_c W c A h)
  have HI := hid (fun W (h : CfgAt W c A) (hR : RightW c) => idle_c W c A h hR hs.wins)
  have HB := hid (fun W (h : CfgAt W c A) (hR : RightW c) id => busy_c W c A h hR id)
  have hokw := hid hc.ok.wins
  have hfr := hid hc.ok.frame
  have hnp := hc.ok.nparts
  have hnw := hs.wins
  have hbox := heap_new w (.cells (cfgCells c A) 29)
  have hc1 := hid (hc.below (below_new w (.cells (cfgCells c A) 29)))
  obtain ⟨a1, k1, a2, k2, a3, k3, a4, k4, a5, k5⟩ := A
  simp only [cfgVal, cfgCells] at Hr HI HB ⊢
  have Hbox := hid hbox
  clear hc hbox hs
  go_enter Try.func6, Try.ntmps6
  go_wp2_with fail
  refine (Hr.out _ hc1.out).mono ?_
  rintro e w2 ⟨r, rfl, hr, hb2⟩
  have hb02 := bthen (below_new w _) hb2
  have hc2 := hid (hc1.out.below hb2)
  have hbox2 := heap_keep Hbox.out hb2
  have Hrr := hid hr
  clear hb2 hc1 Hbox hr Hr
  cases r
  · clear hbox2
    go_wp2_with fail
    refine (alive15_c _).mono ?_
    rintro e w3 ⟨rfl, hb3⟩
    have hb03 := bthen hb02 hb3
    clear hb3
    go_wp2
    go_ret
    exact ⟨rfl, hb03⟩
  have HF : Hid (RightF c) := (Hrr.out.1 rfl).2
  have HR : Hid (RightW c) := HF.out.right hokw.out
  have hidle := HR.out.idle hfr.out
  have hGl := idleL_len HR.out hfr.out
  have hpos : Hid (∀ x ∈ c.wins, 0 < x.len) := fun x hx => (HR.out.apart.each x hx).2.1
  have hw0 := lenS_nonneg hpos.out
  have hi0 := lenS_nonneg hidle.2
  have hFU := hfr.out
  unfold U64 at hFU
  obtain ⟨S, hS⟩ : ∃ S, lenS c.wins = S := ⟨_, rfl⟩
  have Hidle := hid hidle
  rw [hS] at hw0 hidle
  have hsum := hidle.1
  have HS := hid hS
  clear hidle hS
  obtain ⟨-, -, z2, -, -, -⟩ := box_cfg hbox2
  have zl := lt_of_block hbox2
  have Hb02 := hid hb02
  have Hbox2 := hid hbox2
  simp only at z2
  clear hb02 hbox2
  go_wp2_with fail
  go_loopw [3, 18] (fun n i wr => ∃ k : Nat, k ≤ c.wins.length ∧ i = .int .i64 k ∧ n = .int .u64 (lenS (c.wins.take k)) ∧ Hid (Below w2.heap.size w2 wr)) (fun _ i _ => c.wins.length - (intOf i).toNat)
  case atStart => exact ⟨0, Nat.zero_le _, rfl, rfl, Below.refl _ _⟩
  case round =>
    obtain ⟨k, hkn, rfl, rfl, Hbr⟩ := hrel
    by_cases hlt : k < c.wins.length
    · obtain ⟨b, o, ha, hb0, g0, g1, g2⟩ := (hc2.out.below Hbr.out).wins.win hlt
      simp only at ha
      subst ha
      have hst := lenS_take hlt
      have hle := lenS_take_le hpos.out (k + 1)
      have hnn := lenS_nonneg (ws := c.wins.take k) (fun x hx => hpos.out x (List.mem_of_mem_take hx))
      obtain ⟨x, hx⟩ : ∃ x, c.wins[k] = x := ⟨_, rfl⟩
      have hxl := hpos.out c.wins[k] (List.getElem_mem hlt)
      rw [hx] at g0 g1 g2 hst hxl
      rw [hst, HS.out] at hle
      obtain ⟨q, hq⟩ : ∃ q, lenS (c.wins.take k) = q := ⟨_, rfl⟩
      rw [hq] at hst hle hnn ⊢
      have Hst := hid hst
      have Hb := hid (Hbr.out.trans ((below_new wr (.cells #[.int .u64 x.start, .int .u64 x.len, .int .u16 x.part] 45)).mono Hbr.out.size))
      have hw1 : q + x.len ≤ 18446744073709551615 := by omega
      clear hst hx hq
      go_wp2
      exact ⟨⟨k + 1, by omega, by go_num, by rw [Hst.out], Hb.out⟩, by simp [intOf]; omega⟩
    · have hke : k = c.wins.length := by omega
      subst hke
      rw [List.take_length, HS.out]
      have hbr := Hbr.out
      have Hb3 := hid (bthen Hb02.out hbr)
      have hc3 := hid (hc2.out.below hbr)
      have Hbox3 := hid (heap_keep Hbox2.out hbr)
      clear hbr z2 zl hc2 Hbox2 Hb02 Hbr
      obtain ⟨z0, z1, z2, z3, z4, z5⟩ := box_cfg Hbox3.out
      have zl := lt_of_block Hbox3.out
      simp only at z0 z1 z2 z3 z4 z5
      go_wp2_with fail
      refine (HI.out _ hc3.out HR.out).mono ?_
      rintro e w4 ⟨s, rfl, hown, hb4⟩
      obtain ⟨ad, cp, rfl, _⟩ := own_slice hown
      have Hrow := hid (own_row hown (fun _ _ => rfl) rfl)
      have Hb4 := hid (bthen Hb3.out hb4)
      have hc4 := hid (hc3.out.below hb4)
      have Hbox4 := hid (heap_keep Hbox3.out hb4)
      clear hown hb4 hc3 Hbox3 Hb3 z0 z1 z2 z3 z4 z5 zl HI
      obtain ⟨G, hG⟩ : ∃ G, idleL c = G := ⟨_, rfl⟩
      rw [hG] at Hidle hi0 Hrow hGl ⊢
      clear hG
      have Hg := hid Hidle.out.2
      have hsum2 : lenS G + S = c.frame := by have := Hidle.out.1; rw [HS.out] at this; exact this
      clear hsum
      go_wp2_with fail
      go_loopw [3, 31] (fun n i wr => ∃ k : Nat, k ≤ G.length ∧ i = .int .i64 k ∧ n = .int .u64 (S + lenS (G.take k)) ∧ Hid (Below w4.heap.size w4 wr)) (fun _ i _ => G.length - (intOf i).toNat)
      case atStart => exact ⟨0, Nat.zero_le _, rfl, by simp [lenS], Below.refl _ _⟩
      case round =>
        obtain ⟨k, hkn2, rfl, rfl, Hbr⟩ := hrel
        by_cases hlt2 : k < G.length
        · obtain ⟨b, o, rfl, hb0, g0, g1, g2⟩ := (Hrow.out.below Hbr.out).win hlt2
          have hst := lenS_take hlt2
          have hle := lenS_take_le Hg.out (k + 1)
          have hnn := lenS_nonneg (ws := G.take k) (fun x hx => Hg.out x (List.mem_of_mem_take hx))
          obtain ⟨x, hx⟩ : ∃ x, G[k] = x := ⟨_, rfl⟩
          have hxl := Hg.out G[k] (List.getElem_mem hlt2)
          rw [hx] at g0 g1 g2 hst hxl
          rw [hst] at hle
          obtain ⟨q, hq⟩ : ∃ q, lenS (G.take k) = q := ⟨_, rfl⟩
          rw [hq] at hst hle hnn ⊢
          have Hst := hid hst
          have Hb := hid (Hbr.out.trans ((below_new _ (.cells #[.int .u64 x.start, .int .u64 x.len, .int .u16 x.part] 45)).mono Hbr.out.size))
          have hw1 : S + q + x.len ≤ 18446744073709551615 := by omega
          clear hst hx hq
          go_wp2
          exact ⟨⟨k + 1, by omega, by go_num, by rw [Hst.out, Int.add_assoc], Hb.out⟩, by simp [intOf]; omega⟩
        · have hke2 : k = G.length := by omega
          subst hke2
          have hF : S + lenS G = c.frame := by omega
          rw [List.take_length, hF]
          have hbr := Hbr.out
          have Hb5 := hid (bthen Hb4.out hbr)
          have hc5 := hid (hc4.out.below hbr)
          have Hbox5 := hid (heap_keep Hbox4.out hbr)
          have hkk := hc5.out.k1
          clear hbr hc4 Hbox4 Hb4 Hbr Hrow hF
          obtain ⟨-, z1, -, -, -, -⟩ := box_cfg Hbox5.out
          have zl := lt_of_block Hbox5.out
          simp only at z1 hkk
          go_wp2_with fail
          go_loopw [6, 43] (fun n i wq => ∃ k : Nat, k ≤ c.parts.length ∧ i = .int .i64 k ∧ n = .int .u64 (restS c.wins ((c.parts.take k).map (·.id))) ∧ Hid (Below wr.heap.size wr wq)) (fun _ i _ => c.parts.length - (intOf i).toNat)
          case atStart => exact ⟨0, Nat.zero_le _, rfl, by rw [List.take_zero, List.map_nil, restS_nil, HS.out], Below.refl _ _⟩
          case round =>
            obtain ⟨k, hkn3, rfl, rfl, Hbr⟩ := hrel
            have Hbox6 := hid (heap_keep Hbox5.out Hbr.out)
            by_cases hlt3 : k < c.parts.length
            · obtain ⟨b, o, ha, hb0, g0, g1, g2, g3⟩ := (hc5.out.below Hbr.out).parts.part hlt3
              simp only at ha
              subst ha
              obtain ⟨p, hp⟩ : ∃ p, c.parts[k] = p := ⟨_, rfl⟩
              rw [hp] at g0 g1 g2 g3
              obtain ⟨ids, hids⟩ : ∃ ids, (c.parts.take k).map (·.id) = ids := ⟨_, rfl⟩
              have hids1 : (c.parts.take (k + 1)).map (·.id) = ids ++ [p.id] := by
                rw [List.take_add_one, List.getElem?_eq_getElem hlt3, hp, List.map_append, hids]; simp
              have Hids1 := hid hids1
              have hrest := restS_nonneg hpos.out ids
              have hrest1 := restS_nonneg hpos.out (ids ++ [p.id])
              have hlen := hc5.out
              have hcont := hid (fun (W : World) (cp : Nat) (hW : Below wr.heap.size wr W) pb h => contains_c W (some ⟨b, o, none⟩) cp (c.parts.take k) (((hc5.out.below Hbr.out).below hW).parts.take k) (by rw [List.length_take]; omega) pb p h)
              rw [hids, List.length_take, Nat.min_eq_left hkn3] at hcont
              rw [hids]
              have hkc : (k : Int) ≤ (k1 : Int) := by omega
              obtain ⟨-, z1', -, -, -, -⟩ := box_cfg Hbox6.out
              have zl' := lt_of_block Hbox6.out
              simp only at z1'
              clear hp hids hids1 hlen z1
              go_wp2_with fail
              refine (hcont.out _ _ (below_new _ _) _ (heap_new _ _)).mono ?_
              rintro e w7 ⟨rfl, hb7⟩
              have hb7w := hid ((below_new wr (.cells #[.int .u16 p.id, .string p.name, .int .u64 p.period, .int .u64 p.dur] 47)).trans (hb7.mono (by simp)))
              have hpb7 := heap_keep (heap_new wr (.cells #[.int .u16 p.id, .string p.name, .int .u64 p.period, .int .u64 p.dur] 47)) hb7
              have hc7 := hid ((hc5.out.below Hbr.out).below hb7w.out)
              have hbox7 := heap_keep Hbox6.out hb7w.out
              have Hb7 := hid (bthen Hbr.out hb7w.out)
              have p0 := cell_of_heap (i := 0) hpb7 rfl
              have pl := lt_of_block hpb7
              obtain ⟨y0, y1, y2, y3, y4, y5⟩ := box_cfg hbox7
              have yl := lt_of_block hbox7
              simp only at y0 y1 y2 y3 y4 y5
              clear g0 g1 g2 g3 z1' zl' hcont hb7 hpb7 hbox7 hb0
              by_cases hin : p.id ∈ ids
              · have hd : decide (p.id ∈ ids) = true := by simpa using hin
                have Hst := hid (restS_in (ws := c.wins) hin)
                rw [hd]
                clear hd hin y0 y1 y2 y3 y4 y5 p0
                go_wp2
                exact ⟨⟨k + 1, by omega, by go_num, by rw [Hids1.out, Hst.out], Hb7.out⟩, by simp [intOf]; omega⟩
              · have hd : decide (p.id ∈ ids) = false := by simpa using hin
                have hst := restS_out (ws := c.wins) hin
                rw [← HR.out.used_len p.id] at hst
                have hbus := hid (HB.out _ hc7.out HR.out p.id)
                have hun := usedP_nonneg c.wins p.id 0 c.frame
                have hle2 : restS c.wins ids ≤ S := by
                  have hh := lenS_append (c.wins.filter fun x => decide (x.part ∉ ids)) (c.wins.filter fun x => !decide (x.part ∉ ids))
                  rw [lenS_perm (List.filter_append_perm (fun x : Win => decide (x.part ∉ ids)) c.wins), HS.out] at hh
                  have hg := lenS_nonneg (ws := c.wins.filter fun x => !decide (x.part ∉ ids)) (fun x hx => hpos.out x (List.mem_filter.1 hx).1)
                  unfold restS; omega
                obtain ⟨u, hu⟩ : ∃ u, usedP c.wins p.id 0 c.frame = u := ⟨_, rfl⟩
                rw [hu] at hst hbus hun
                obtain ⟨q0, hq0⟩ : ∃ q0, restS c.wins ids = q0 := ⟨_, rfl⟩
                obtain ⟨q1, hq1⟩ : ∃ q1, restS c.wins (ids ++ [p.id]) = q1 := ⟨_, rfl⟩
                rw [hq0] at hrest hst hle2 ⊢
                rw [hq1] at hrest1 hst
                have Hq1 := hid hq1
                have Hst := hid hst
                have hsb : 0 ≤ q0 - u ∧ q0 - u ≤ 18446744073709551615 := by omega
                rw [hd]
                clear hd hin hu hq0 hq1 hst
                go_wp2_with fail
                refine hbus.out.mono ?_
                rintro e w8 ⟨rfl, hb8⟩
                have Hb8 := hid (bthen Hb7.out hb8)
                clear hbus hb8 y0 y1 y2 y3 y4 y5 p0
                go_wp2
                exact ⟨⟨k + 1, by omega, by go_num, by rw [Hids1.out, Hq1.out, Hst.out], Hb8.out⟩, by simp [intOf]; omega⟩
            · have hke3 : k = c.parts.length := by omega
              subst hke3
              have hz : restS c.wins (c.parts.map (·.id)) = 0 := restS_all fun x hx => winE_known (HF.out.each x hx)
              rw [List.take_length, hz]
              have Hb6 := hid (bthen Hb5.out Hbr.out)
              clear hz Hbr z1
              go_wp2_with fail
              refine (alive15_c _).mono ?_
              rintro e w7 ⟨rfl, hb7⟩
              have Hb7 := hid (bthen Hb6.out hb7)
              obtain ⟨y0, -, -, -, -, -⟩ := box_cfg (heap_keep Hbox6.out hb7)
              have yl := lt_of_block (heap_keep Hbox6.out hb7)
              clear hb7
              go_wp2
              go_ret
              exact ⟨rfl, Hb7.out⟩
end Go.Proofs.Ytmoignbaphddeaa
