/-
  The periods of a partition that are visited, and what they tell of all periods. Plain Lean, no program in sight.
-/
import Derived.Test.YtlccbejhamkdoaaData
namespace Go.Proofs.Ytlccbejhamkdoaa

/-- the ticks of a window in a range -/
def ovl (w : Win) (a b : Int) : Int := if max w.start a < min (w.start + w.len) b then min (w.start + w.len) b - max w.start a else 0
def usedL (ws : List Win) (a b : Int) : Int := (ws.map fun w => ovl w a b).sum

theorem ovl_nonneg (w : Win) (a b : Int) : 0 ≤ ovl w a b := by unfold ovl; split <;> omega
theorem usedL_nil (a b : Int) : usedL [] a b = 0 := rfl
theorem usedL_cons (w : Win) (ws : List Win) (a b : Int) : usedL (w :: ws) a b = ovl w a b + usedL ws a b := by simp [usedL]
theorem usedL_append (l m : List Win) (a b : Int) : usedL (l ++ m) a b = usedL l a b + usedL m a b := by
  induction l with
  | nil => simp [usedL_nil]
  | cons w l ih => rw [List.cons_append, usedL_cons, usedL_cons, ih]; omega
theorem usedL_nonneg (ws : List Win) (a b : Int) : 0 ≤ usedL ws a b := by
  induction ws with
  | nil => simp [usedL_nil]
  | cons w ws ih => rw [usedL_cons]; have := ovl_nonneg w a b; omega
theorem usedL_perm {l m : List Win} (h : l.Perm m) (a b : Int) : usedL l a b = usedL m a b := by
  induction h with
  | nil => rfl
  | cons x _ ih => rw [usedL_cons, usedL_cons, ih]
  | swap x y l => simp only [usedL_cons]; omega
  | trans _ _ h1 h2 => exact h1.trans h2

/-- windows one behind the other, from E on, within the frame -/
def Chain (F : Int) : Int → List Win → Prop
  | _, [] => True
  | E, w :: ws => E ≤ w.start ∧ 0 < w.len ∧ w.start + w.len ≤ F ∧ Chain F (w.start + w.len) ws

theorem Chain.used_le {F : Int} : ∀ {ws : List Win} {E : Int}, Chain F E ws → ∀ a b, usedL ws a b ≤ max 0 (b - max a E)
  | [], E, _, a, b => by rw [usedL_nil]; omega
  | w :: ws, E, h, a, b => by
    obtain ⟨h1, h2, h3, h4⟩ := h
    have := h4.used_le a b
    rw [usedL_cons]
    unfold ovl
    split <;> omega
theorem Chain.used_zero {F : Int} : ∀ {ws : List Win} {E : Int}, Chain F E ws → ∀ a b, b ≤ E → usedL ws a b = 0
  | [], E, _, a, b, _ => rfl
  | w :: ws, E, h, a, b, hb => by
    obtain ⟨h1, h2, h3, h4⟩ := h
    have := h4.used_zero a b (by omega)
    rw [usedL_cons, this]
    unfold ovl
    split <;> omega
theorem used_ended {D : List Win} {X : Int} (h : ∀ w ∈ D, w.start + w.len ≤ X) (a b : Int) (ha : X ≤ a) : usedL D a b = 0 := by
  induction D with
  | nil => rfl
  | cons w D ih =>
    rw [usedL_cons, ih (fun v hv => h v (List.mem_cons_of_mem _ hv))]
    have := h w (by simp)
    unfold ovl
    split <;> omega

/-- right windows -/
def Free (a b : Win) : Prop := a.start + a.len ≤ b.start ∨ b.start + b.len ≤ a.start
theorem Free.symm {a b : Win} (h : Free a b) : Free b a := Or.symm h
structure Apart (F : Int) (ws : List Win) : Prop where
  each : ∀ w ∈ ws, 0 ≤ w.start ∧ 0 < w.len ∧ w.start + w.len ≤ F
  free : ws.Pairwise Free
theorem Apart.perm {F : Int} {l m : List Win} (h : Apart F l) (hp : l.Perm m) : Apart F m :=
  ⟨fun w hw => h.each w (hp.mem_iff.2 hw), (hp.pairwise_iff (fun h => Free.symm h)).1 h.free⟩
theorem Apart.filter {F : Int} {l : List Win} (h : Apart F l) (p : Win → Bool) : Apart F (l.filter p) :=
  ⟨fun w hw => h.each w (List.mem_filter.1 hw).1, h.free.filter p⟩
theorem Apart.chain {F : Int} {l : List Win} (h : Apart F l) (hs : l.Pairwise fun a b => a.start ≤ b.start) : ∀ {E : Int}, (∀ w ∈ l, E ≤ w.start) → Chain F E l := by
  induction l with
  | nil => intro E _; trivial
  | cons w l ih =>
    intro E hE
    have hw := h.each w (by simp)
    rw [List.pairwise_cons] at hs
    have hf := List.pairwise_cons.1 h.free
    refine ⟨hE w (by simp), hw.2.1, hw.2.2, ih ⟨fun v hv => h.each v (List.mem_cons_of_mem _ hv), hf.2⟩ hs.2 ?_⟩
    intro v hv
    have h1 := hs.1 v hv
    have h2 := hf.1 v hv
    have h3 := h.each v (List.mem_cons_of_mem _ hv)
    unfold Free at h2
    omega

/-! ### the periods that are visited -/
section
variable (P count : Int)
mutual
def genA : List Win → Int → Int → List (Int × Int)
  | [], next, ticks => if next < count ∧ 0 < ticks then (next, ticks) :: genE (next + 1) else genE next
  | w :: ws, next, ticks => if 0 < ticks ∧ next < w.start / P then (next, ticks) :: genB w ws (next + 1) 0 else genB w ws next ticks
def genB (w : Win) (ws : List Win) (next ticks : Int) : List (Int × Int) :=
  if next < w.start / P then (next, 0) :: genC w ws 0 else genC w ws ticks
def genC (w : Win) (ws : List Win) (ticks : Int) : List (Int × Int) :=
  if w.start / P = (w.start + w.len - 1) / P then genA ws (w.start / P) (ticks + w.len)
  else (w.start / P, ticks + (w.start / P + 1) * P - w.start) :: genD w ws
def genD (w : Win) (ws : List Win) : List (Int × Int) :=
  if w.start / P + 1 < (w.start + w.len - 1) / P then (w.start / P + 1, P) :: genA ws ((w.start + w.len - 1) / P) (w.start + w.len - (w.start + w.len - 1) / P * P)
  else genA ws ((w.start + w.len - 1) / P) (w.start + w.len - (w.start + w.len - 1) / P * P)
def genE (next : Int) : List (Int × Int) := if next < count then [(next, 0)] else []
end
end

/-- these visits tell of all periods from lo on -/
structure Cover (used : Int → Int) (count lo : Int) (ys : List (Int × Int)) : Prop where
  each : ∀ y ∈ ys, lo ≤ y.1 ∧ y.1 < count ∧ y.2 = used y.1
  asc : ys.Pairwise fun a b => a.1 < b.1
  all : ∀ k, lo ≤ k → k < count → ∃ y ∈ ys, y.1 ≤ k ∧ used k = y.2

theorem Cover.cons {used : Int → Int} {count lo lo' n : Int} {ys : List (Int × Int)} (h : Cover used count lo' ys) (h1 : lo < lo') (h2 : lo < count) (hn : n = used lo) (he : ∀ k, lo < k → k < lo' → used k = used lo) : Cover used count lo ((lo, n) :: ys) := by
  refine ⟨?_, ?_, ?_⟩
  · intro y hy
    rcases List.mem_cons.1 hy with rfl | hy
    · exact ⟨Int.le_refl _, h2, hn⟩
    · have := h.each y hy
      exact ⟨by omega, this.2.1, this.2.2⟩
  · rw [List.pairwise_cons]
    exact ⟨fun y hy => by have := h.each y hy; simp only; omega, h.asc⟩
  · intro k hk hc
    by_cases hlt : k < lo'
    · refine ⟨(lo, n), by simp, hk, ?_⟩
      simp only
      rcases Int.lt_or_eq_of_le hk with h' | rfl
      · rw [he k h' hlt, hn]
      · exact hn.symm
    · obtain ⟨y, hy, h3, h4⟩ := h.all k (by omega) hc
      exact ⟨y, List.mem_cons_of_mem _ hy, h3, h4⟩
theorem Cover.nil {used : Int → Int} {count lo : Int} (h : count ≤ lo) : Cover used count lo [] :=
  ⟨fun y hy => by simp at hy, List.Pairwise.nil, fun k h1 h2 => by omega⟩

section
variable {P F count : Int}
/-- the ticks of the windows in a period -/
def inP (P : Int) (ws : List Win) (k : Int) : Int := usedL ws (k * P) ((k + 1) * P)

theorem div_facts (hP : 0 < P) (x : Int) : x / P * P ≤ x ∧ x < x / P * P + P := by
  have h1 := Int.emod_nonneg x (by omega : P ≠ 0)
  have h2 := Int.emod_lt_of_pos x hP
  have h3 := Int.mul_ediv_add_emod x P
  have h4 : P * (x / P) = x / P * P := Int.mul_comm _ _
  omega
theorem mul_mono (hP : 0 < P) {a b : Int} (h : a ≤ b) : a * P ≤ b * P := Int.mul_le_mul_of_nonneg_right h (by omega)
theorem succ_mul' (a P : Int) : (a + 1) * P = a * P + P := by rw [Int.add_mul, Int.one_mul]
theorem step_le (hP : 0 < P) {a b : Int} (h : a < b) : a * P + P ≤ b * P := by rw [← succ_mul']; exact mul_mono hP (by omega)
theorem lt_of_mul (hP : 0 < P) {a b : Int} (h : a * P < b * P) : a < b := by
  rcases Int.lt_or_le a b with h' | h'
  · exact h'
  · have := mul_mono hP h'; omega

theorem inP_eq (ws : List Win) (k : Int) : inP P ws k = usedL ws (k * P) (k * P + P) := by rw [inP, succ_mul']
theorem inP_append (l m : List Win) (k : Int) : inP P (l ++ m) k = inP P l k + inP P m k := usedL_append _ _ _ _

theorem ended_zero (hP : 0 < P) {D : List Win} {next k : Int} (h : ∀ w ∈ D, w.start + w.len ≤ next * P + P) (hk : next < k) : inP P D k = 0 := by
  rw [inP_eq]
  exact used_ended h _ _ (step_le hP hk)
theorem chain_zero {E k : Int} {ws : List Win} (h : Chain F E ws) (hk : k * P + P ≤ E) : inP P ws k = 0 := by
  rw [inP_eq]
  exact h.used_zero _ _ hk

theorem genE_cover (hP : 0 < P) {D : List Win} {next x : Int} (h : ∀ w ∈ D, w.start + w.len ≤ x * P + P) (hx : x < next) : Cover (inP P D) count next (genE P count next) := by
  unfold genE
  split
  · rename_i hlt
    refine (Cover.nil (Int.le_refl _)).cons hlt hlt (ended_zero hP h hx).symm (fun k h1 h2 => ?_)
    rw [ended_zero hP h hx, ended_zero hP h (by omega)]
  · exact Cover.nil (by omega)

theorem gen_cover (hP : 0 < P) (hF : F = count * P) : ∀ (ws D : List Win) (next ticks : Int), (∃ E, Chain F E ws ∧ next * P ≤ E) → (∀ w ∈ D, w.start + w.len ≤ next * P + P) →
    ticks = usedL D (next * P) (next * P + P) → next < count → Cover (inP P (D ++ ws)) count next (genA P count ws next ticks)
  | [], D, next, ticks, hc, hd, ht, htop => by
    have ht0 := usedL_nonneg D (next * P) (next * P + P)
    rw [List.append_nil]
    unfold genA
    split
    · exact (genE_cover hP hd (by omega)).cons (by omega) htop (by rw [inP_eq]; exact ht) (fun k h1 h2 => by omega)
    · rename_i hn
      have hz : ticks = 0 := by omega
      unfold genE
      rw [if_pos htop]
      have hu : inP P D next = 0 := by rw [inP_eq, ← ht]; exact hz
      refine (Cover.nil (Int.le_refl _)).cons htop htop hu.symm (fun k h1 h2 => ?_)
      rw [ended_zero hP hd h1, hu]
  | w :: ws, D, next, ticks, ⟨E, ⟨c1, c2, c3, c4⟩, hE⟩, hd, ht, htop => by
    have ht0 := usedL_nonneg D (next * P) (next * P + P)
    obtain ⟨f1, f2⟩ := div_facts hP w.start
    obtain ⟨l1, l2⟩ := div_facts hP (w.start + w.len - 1)
    have hfirst : next ≤ w.start / P := by
      rcases Int.lt_or_le (w.start / P) next with h | h
      · have := step_le hP h; omega
      · exact h
    have hlast : w.start / P ≤ (w.start + w.len - 1) / P := by
      rcases Int.lt_or_le ((w.start + w.len - 1) / P) (w.start / P) with h | h
      · have := step_le hP h; omega
      · exact h
    have hltop : (w.start + w.len - 1) / P < count := by
      refine lt_of_mul hP ?_
      rw [← hF]; omega
    have hzero : ∀ k, k < w.start / P → inP P (w :: ws) k = 0 := by
      intro k hk
      refine chain_zero (show Chain F w.start (w :: ws) from ⟨Int.le_refl _, c2, c3, c4⟩) ?_
      have := step_le hP hk; omega
    -- C: at the window's first period
    have hC : ∀ t, (∀ v ∈ D, v.start + v.len ≤ w.start / P * P + P) → t = usedL D (w.start / P * P) (w.start / P * P + P) → Cover (inP P (D ++ w :: ws)) count (w.start / P) (genC P count w ws t) := by
      intro t hd' ht'
      have hsplit : D ++ w :: ws = (D ++ [w]) ++ ws := by simp
      unfold genC
      split
      · rename_i heq
        rw [hsplit]
        refine gen_cover hP hF ws (D ++ [w]) _ _ ⟨w.start + w.len, c4, by omega⟩ ?_ ?_ (by omega)
        · intro v hv
          rcases List.mem_append.1 hv with hv | hv
          · exact hd' v hv
          · rw [List.mem_singleton.1 hv]; rw [← heq] at l2; omega
        · rw [usedL_append, ← ht', usedL_cons, usedL_nil]
          unfold ovl
          rw [← heq] at l2
          split <;> omega
      · rename_i hne
        have hlt : w.start / P < (w.start + w.len - 1) / P := by omega
        have hle := step_le hP hlt
        have hnext : Cover (inP P (D ++ w :: ws)) count ((w.start + w.len - 1) / P) (genA P count ws ((w.start + w.len - 1) / P) (w.start + w.len - (w.start + w.len - 1) / P * P)) := by
          rw [hsplit]
          refine gen_cover hP hF ws (D ++ [w]) _ _ ⟨w.start + w.len, c4, by omega⟩ ?_ ?_ hltop
          · intro v hv
            rcases List.mem_append.1 hv with hv | hv
            · have := hd' v hv; omega
            · rw [List.mem_singleton.1 hv]; omega
          · rw [usedL_append, used_ended hd' _ _ hle, usedL_cons, usedL_nil]
            unfold ovl
            split <;> omega
        have hfull : ∀ k, w.start / P < k → k < (w.start + w.len - 1) / P → inP P (D ++ w :: ws) k = P := by
          intro k h1 h2
          have e1 := step_le hP h1
          have e2 := step_le hP h2
          rw [inP_append, ended_zero hP hd' h1, inP_eq, usedL_cons, c4.used_zero _ _ (by omega)]
          unfold ovl
          split <;> omega
        have hD : Cover (inP P (D ++ w :: ws)) count (w.start / P + 1) (genD P count w ws) := by
          unfold genD
          split
          · rename_i hl
            refine hnext.cons hl (by omega) (hfull _ (by omega) hl).symm (fun k h1 h2 => ?_)
            rw [hfull k (by omega) h2, hfull _ (by omega) hl]
          · have : (w.start + w.len - 1) / P = w.start / P + 1 := by omega
            rw [this] at hnext ⊢
            exact hnext
        refine hD.cons (by omega) (by omega) ?_ (fun k h1 h2 => by omega)
        rw [inP_append, inP_eq, ← ht', inP_eq, usedL_cons, c4.used_zero _ _ (by omega), succ_mul']
        unfold ovl
        split <;> omega
    have hB : ∀ n t, next ≤ n → n ≤ w.start / P → (∀ v ∈ D, v.start + v.len ≤ n * P + P) → t = usedL D (n * P) (n * P + P) → (n < w.start / P → t = 0) → Cover (inP P (D ++ w :: ws)) count n (genB P count w ws n t) := by
      intro n t hn1 hn hd' ht' hz
      unfold genB
      split
      · rename_i hlt
        have hle := step_le hP hlt
        have hu : ∀ k, n < k → k < w.start / P → inP P (D ++ w :: ws) k = 0 := by
          intro k h1 h2
          rw [inP_append, ended_zero hP hd' h1, hzero k h2]; rfl
        have hu0 : inP P (D ++ w :: ws) n = 0 := by
          rw [inP_append, hzero n hlt, inP_eq, ← ht', hz hlt]; rfl
        refine (hC 0 (fun v hv => by have := hd' v hv; omega) ?_).cons hlt (by omega) hu0.symm (fun k h1 h2 => by rw [hu k h1 h2, hu0])
        rw [used_ended hd' _ _ hle]
      · have : n = w.start / P := by omega
        subst this
        exact hC t hd' ht'
    unfold genA
    split
    · rename_i hy
      have hle := step_le hP hy.2
      refine (hB (next + 1) 0 (by omega) (by omega) (fun v hv => by have := hd v hv; rw [succ_mul']; omega) ?_ (fun _ => rfl)).cons (by omega) htop ?_ (fun k h1 h2 => by omega)
      · rw [succ_mul', used_ended hd _ _ (by omega)]
      · rw [inP_append, hzero next hy.2, inP_eq, ← ht]; omega
    · rename_i hn
      refine hB next ticks (Int.le_refl _) hfirst hd ht (fun h => by omega)

/-- all visits of a partition's windows -/
theorem visits (hP : 0 < P) (hF : F = count * P) (hc : 0 < count) {ws : List Win} (h : Chain F 0 ws) : Cover (inP P ws) count 0 (genA P count ws 0 0) := by
  have := gen_cover hP hF ws [] 0 0 ⟨0, h, by omega⟩ (by simp) (by rw [usedL_nil]) hc
  simpa using this
end

/-! ### the least and the first -/
def leastOf (p : Int) (l : List Int) : Int := l.foldl min p
theorem leastOf_le : ∀ (l : List Int) (p : Int), leastOf p l ≤ p ∧ ∀ x ∈ l, leastOf p l ≤ x
  | [], p => ⟨Int.le_refl _, fun x hx => by simp at hx⟩
  | y :: l, p => by
    have ⟨h1, h2⟩ := leastOf_le l (min p y)
    have e : leastOf p (y :: l) = leastOf (min p y) l := rfl
    rw [e]
    refine ⟨by omega, fun x hx => ?_⟩
    rcases List.mem_cons.1 hx with rfl | hx
    · omega
    · exact h2 x hx
theorem leastOf_mem : ∀ (l : List Int) (p : Int), leastOf p l = p ∨ leastOf p l ∈ l
  | [], p => .inl rfl
  | y :: l, p => by
    have e : leastOf p (y :: l) = leastOf (min p y) l := rfl
    rw [e]
    rcases leastOf_mem l (min p y) with h | h
    · rw [h]
      rcases Int.le_total p y with h' | h'
      · left; omega
      · right; rw [Int.min_eq_right h']; simp
    · exact .inr (List.mem_cons_of_mem _ h)
theorem leastOf_snoc (p : Int) (l : List Int) (x : Int) : leastOf p (l ++ [x]) = min (leastOf p l) x := by simp [leastOf]

/-- the periods in their order -/
def periodsOf (count : Int) : List Int := (List.range count.toNat).map fun k : Nat => (k : Int)
theorem mem_periodsOf {count k : Int} : k ∈ periodsOf count ↔ 0 ≤ k ∧ k < count := by
  simp only [periodsOf, List.mem_map, List.mem_range]
  constructor
  · rintro ⟨n, h1, rfl⟩; omega
  · rintro ⟨h1, h2⟩; exact ⟨k.toNat, by omega, by omega⟩

theorem least_eq {used : Int → Int} {count p : Int} {ys : List (Int × Int)} (h : Cover used count 0 ys) : leastOf p (ys.map Prod.snd) = leastOf p ((periodsOf count).map used) := by
  have a1 := leastOf_le (ys.map Prod.snd) p
  have b1 := leastOf_le ((periodsOf count).map used) p
  refine Int.le_antisymm ?_ ?_
  · rcases leastOf_mem ((periodsOf count).map used) p with e | e
    · rw [e]; exact a1.1
    · obtain ⟨k, hk, e⟩ := List.mem_map.1 e
      obtain ⟨k1, k2⟩ := mem_periodsOf.1 hk
      obtain ⟨y, hy, _, e2⟩ := h.all k k1 k2
      rw [← e, e2]
      exact a1.2 _ (List.mem_map.2 ⟨y, hy, rfl⟩)
  · rcases leastOf_mem (ys.map Prod.snd) p with e | e
    · rw [e]; exact b1.1
    · obtain ⟨y, hy, e⟩ := List.mem_map.1 e
      obtain ⟨k1, k2, k3⟩ := h.each y hy
      rw [← e, k3]
      exact b1.2 _ (List.mem_map.2 ⟨y.1, mem_periodsOf.2 ⟨k1, k2⟩, rfl⟩)

/-- the first period that is short -/
def firstShort (d : Int) (ys : List (Int × Int)) : Int × Bool := match ys.find? (fun y => decide (y.2 < d)) with
  | some y => (y.1, true)
  | none => (0, false)
theorem firstShort_no {d : Int} {ys : List (Int × Int)} (h : ∀ y ∈ ys, ¬ y.2 < d) : firstShort d ys = (0, false) := by
  have : ys.find? (fun y => decide (y.2 < d)) = none := by
    rw [List.find?_eq_none]; intro y hy; simpa using h y hy
  simp [firstShort, this]
theorem firstShort_at {d : Int} {pre post : List (Int × Int)} {y : Int × Int} (h : ∀ z ∈ pre, ¬ z.2 < d) (hy : y.2 < d) : firstShort d (pre ++ y :: post) = (y.1, true) := by
  have : (pre ++ y :: post).find? (fun y => decide (y.2 < d)) = some y := by
    rw [List.find?_eq_some_iff_append]
    exact ⟨by simpa using hy, pre, post, rfl, fun z hz => by simpa using h z hz⟩
  simp [firstShort, this]
def allOf (used : Int → Int) (count : Int) : List (Int × Int) := (periodsOf count).map fun k => (k, used k)
theorem short_eq {used : Int → Int} {count d : Int} {ys : List (Int × Int)} (h : Cover used count 0 ys) : firstShort d ys = firstShort d (allOf used count) := by
  cases hf : ys.find? (fun y => decide (y.2 < d)) with
  | none =>
    rw [List.find?_eq_none] at hf
    rw [firstShort_no (fun y hy => by simpa using hf y hy), firstShort_no]
    intro y hy
    obtain ⟨k, hk, rfl⟩ := List.mem_map.1 hy
    obtain ⟨k1, k2⟩ := mem_periodsOf.1 hk
    obtain ⟨z, hz, _, e2⟩ := h.all k k1 k2
    have := hf z hz
    simp only [decide_eq_true_eq] at this
    simp only
    omega
  | some y =>
    rw [List.find?_eq_some_iff_append] at hf
    obtain ⟨hy, pre, post, e, hpre⟩ := hf
    simp only [decide_eq_true_eq] at hy
    have hym : y ∈ ys := by rw [e]; simp
    obtain ⟨k1, k2, k3⟩ := h.each y hym
    rw [e, firstShort_at (fun z hz => by simpa using hpre z hz) hy]
    have hs : allOf used count = ((List.range y.1.toNat).map fun k : Nat => ((k : Int), used k)) ++ (y.1, used y.1) :: (List.range (count.toNat - y.1.toNat - 1)).map fun k : Nat => (((k + (y.1.toNat + 1) : Nat) : Int), used ((k + (y.1.toNat + 1) : Nat) : Int)) := by
      have hc : count.toNat = (y.1.toNat + 1) + (count.toNat - y.1.toNat - 1) := by omega
      have hy1 : (y.1.toNat : Int) = y.1 := by omega
      rw [allOf, periodsOf, List.map_map, hc, List.range_add, List.map_append, List.range_succ, List.map_append, List.append_assoc]
      congr 1
      simp only [List.map_cons, List.map_nil, List.singleton_append, List.map_map, Function.comp_apply, hy1]
      congr 1
      rw [show y.1.toNat + 1 + (count.toNat - y.1.toNat - 1) - y.1.toNat - 1 = count.toNat - y.1.toNat - 1 by omega]
      refine List.map_congr_left (fun k _ => ?_)
      simp only [Function.comp_apply]
      rw [show y.1.toNat + 1 + k = k + (y.1.toNat + 1) by omega]
    rw [hs, firstShort_at _ (by simp only; rw [← k3]; exact hy)]
    intro z hz
    obtain ⟨k, hk, rfl⟩ := List.mem_map.1 hz
    rw [List.mem_range] at hk
    obtain ⟨v, hv, e1, e2⟩ := h.all k (by omega) (by omega)
    simp only
    rw [e2]
    -- v comes before y
    have hvp : v ∈ pre := by
      rw [e] at hv
      rcases List.mem_append.1 hv with hv | hv
      · exact hv
      · exfalso
        have hasc := h.asc
        rw [e] at hasc
        have hp := (List.pairwise_append.1 hasc).2.1
        rcases List.mem_cons.1 hv with rfl | hv
        · omega
        · have := (List.pairwise_cons.1 hp).1 v hv; omega
    simpa using hpre v hvp

theorem short_iff {used : Int → Int} {count d p : Int} (hp : d ≤ p) : (firstShort d (allOf used count)).2 = decide (leastOf p ((periodsOf count).map used) < d) := by
  have b1 := leastOf_le ((periodsOf count).map used) p
  cases hf : (allOf used count).find? (fun y => decide (y.2 < d)) with
  | none =>
    have e : (firstShort d (allOf used count)).2 = false := by simp [firstShort, hf]
    rw [e]
    rw [List.find?_eq_none] at hf
    symm
    rw [decide_eq_false_iff_not]
    rcases leastOf_mem ((periodsOf count).map used) p with e | e
    · rw [e]; omega
    · obtain ⟨k, hk, e⟩ := List.mem_map.1 e
      have := hf (k, used k) (List.mem_map.2 ⟨k, hk, rfl⟩)
      simp only [decide_eq_true_eq] at this
      omega
  | some y =>
    have e : (firstShort d (allOf used count)).2 = true := by simp [firstShort, hf]
    rw [e]
    symm
    rw [decide_eq_true_eq]
    have h1 := List.find?_some hf
    have h2 := List.mem_of_find?_eq_some hf
    simp only [decide_eq_true_eq] at h1
    obtain ⟨k, hk, rfl⟩ := List.mem_map.1 h2
    have := b1.2 (used k) (List.mem_map.2 ⟨k, hk, rfl⟩)
    simp only at h1
    omega
end Go.Proofs.Ytlccbejhamkdoaa
