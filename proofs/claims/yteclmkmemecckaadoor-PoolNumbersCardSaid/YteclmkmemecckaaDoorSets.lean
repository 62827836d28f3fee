/- Plain facts on sets, graphs and orders (part Sets). No program in sight. -/
namespace Wb
/-- A set of small numbers, bit by bit. -/
abbrev S := BitVec 64
def bit (i : Int) : S := if i < 0 ∨ 63 < i then 0#64 else BitVec.twoPow 64 i.toNat
def has (s : S) (i : Int) : Bool := !(s &&& bit i == 0#64)
def wth (s : S) (i : Int) : S := s ||| bit i
def less (s : S) (i : Int) : S := s &&& ~~~ (bit i)
def setOf (l : List Int) : S := l.foldl wth 0#64
def items (s : S) : List Int := ((List.range 64).filter (fun k => s.getLsbD k)).map (fun k : Nat => (k : Int))
def first (s : S) : Int := (items s).headD (-1)

theorem mem_bit (i : Int) (k : Nat) : (bit i).getLsbD k = (decide ((k : Int) = i) && decide (k < 64)) := by
  unfold bit
  split
  · rename_i h
    simp; omega
  · rename_i h
    rw [BitVec.getLsbD_twoPow]
    have : (i.toNat = k) ↔ ((k : Int) = i) := by omega
    by_cases h1 : (k : Int) = i
    · have h2 := this.2 h1
      simp [h1, h2]
    · have h2 : ¬ i.toNat = k := fun h => h1 (this.1 h)
      simp [h1, h2]

theorem mem_wth (s : S) (i : Int) (k : Nat) : (wth s i).getLsbD k = (s.getLsbD k || (decide ((k : Int) = i) && decide (k < 64))) := by
  unfold wth; rw [BitVec.getLsbD_or, mem_bit]
theorem mem_less (s : S) (i : Int) (k : Nat) : (less s i).getLsbD k = (s.getLsbD k && !decide ((k : Int) = i)) := by
  unfold less; rw [BitVec.getLsbD_and, BitVec.getLsbD_not, mem_bit]
  by_cases hk : k < 64
  · simp [hk]
  · have := BitVec.getLsbD_of_ge s k (by omega)
    simp [hk, this]
theorem has_eq (s : S) (i : Int) : has s i = (decide (0 ≤ i) && s.getLsbD i.toNat) := by
  unfold has
  rw [Bool.eq_iff_iff]
  simp only [Bool.not_eq_true', beq_eq_false_iff_ne, ne_eq, Bool.and_eq_true, decide_eq_true_eq]
  constructor
  · intro h
    by_cases h0 : 0 ≤ i
    · refine ⟨h0, ?_⟩
      cases hb : s.getLsbD i.toNat with
      | true => rfl
      | false =>
        exfalso; apply h
        apply BitVec.eq_of_getLsbD_eq
        intro k hk
        rw [BitVec.getLsbD_and, mem_bit]
        by_cases hki : (k : Int) = i
        · have : i.toNat = k := by omega
          rw [this] at hb; simp [hb]
        · simp [hki]
    · exfalso; apply h
      unfold bit; rw [if_pos (by omega)]; simp
  · rintro ⟨h0, h⟩ he
    have hlt : i.toNat < 64 := by
      rcases Nat.lt_or_ge i.toNat 64 with h1 | h1
      · exact h1
      · rw [BitVec.getLsbD_of_ge s _ h1] at h; simp at h
    have := congrArg (fun x : S => x.getLsbD i.toNat) he
    simp only [BitVec.getLsbD_and, mem_bit, h] at this
    have e : ((i.toNat : Nat) : Int) = i := by omega
    rw [e] at this
    simp [hlt] at this
theorem has_nat (s : S) (k : Nat) : has s (k : Int) = s.getLsbD k := by
  rw [has_eq]; simp
theorem mem_lt {s : S} {k : Nat} (h : s.getLsbD k = true) : k < 64 := by
  rcases Nat.lt_or_ge k 64 with h1 | h1
  · exact h1
  · rw [BitVec.getLsbD_of_ge s _ h1] at h; simp at h
theorem has_range {s : S} {i : Int} (h : has s i = true) : 0 ≤ i ∧ i < 64 := by
  rw [has_eq] at h
  simp only [Bool.and_eq_true, decide_eq_true_eq] at h
  have := mem_lt h.2
  omega
theorem mem_items (s : S) (i : Int) : i ∈ items s ↔ has s i = true := by
  unfold items
  rw [has_eq]
  simp only [List.mem_map, List.mem_filter, List.mem_range, Bool.and_eq_true, decide_eq_true_eq]
  constructor
  · rintro ⟨k, ⟨_, h⟩, rfl⟩
    exact ⟨by omega, by simpa using h⟩
  · rintro ⟨h0, h⟩
    exact ⟨i.toNat, ⟨mem_lt h, h⟩, by omega⟩
theorem set_ext {s t : S} (h : ∀ i : Int, has s i = has t i) : s = t := by
  apply BitVec.eq_of_getLsbD_eq
  intro k _
  have := h (k : Int)
  rwa [has_nat, has_nat] at this
theorem has_wth (s : S) (i j : Int) : has (wth s i) j = (has s j || (decide (j = i) && decide (0 ≤ i ∧ i < 64))) := by
  rw [has_eq, has_eq, mem_wth]
  by_cases h0 : 0 ≤ j
  · have e : ((j.toNat : Nat) : Int) = j := by omega
    rw [e]
    by_cases hji : j = i
    · subst hji
      have : (j.toNat < 64) ↔ j < 64 := by omega
      simp [h0, this]
    · simp [hji, h0]
  · simp only [h0, decide_false, Bool.false_and, Bool.false_or]
    by_cases e : j = i
    · subst e; simp; omega
    · simp [e]
theorem has_less (s : S) (i j : Int) : has (less s i) j = (has s j && !decide (j = i)) := by
  rw [has_eq, has_eq, mem_less]
  by_cases h0 : 0 ≤ j
  · have e : ((j.toNat : Nat) : Int) = j := by omega
    rw [e]; simp [h0]
  · simp [h0]
theorem has_or (s t : S) (j : Int) : has (s ||| t) j = (has s j || has t j) := by
  rw [has_eq, has_eq, has_eq, BitVec.getLsbD_or]
  cases decide (0 ≤ j) <;> simp
theorem has_and (s t : S) (j : Int) : has (s &&& t) j = (has s j && has t j) := by
  rw [has_eq, has_eq, has_eq, BitVec.getLsbD_and]
  cases decide (0 ≤ j) <;> simp
theorem has_andNot (s t : S) (j : Int) : has (s &&& ~~~t) j = (has s j && !has t j) := by
  rw [has_eq, has_eq, has_eq, BitVec.getLsbD_and, BitVec.getLsbD_not]
  cases h : s.getLsbD j.toNat with
  | false => simp
  | true => have := mem_lt h; cases h0 : decide (0 ≤ j) <;> simp [this]
theorem has_zero (j : Int) : has 0#64 j = false := by rw [has_eq]; simp
theorem items_zero : items 0#64 = [] := by unfold items; simp
theorem items_ne_nil {s : S} (h : s ≠ 0#64) : items s ≠ [] := by
  intro he
  apply h
  apply set_ext
  intro i
  rw [has_zero]
  cases hh : has s i with
  | false => rfl
  | true => rw [← mem_items, he] at hh; simp at hh
theorem first_mem {s : S} (h : s ≠ 0#64) : has s (first s) = true := by
  rw [← mem_items]
  unfold first
  have := items_ne_nil h
  cases hi : items s with
  | nil => exact absurd hi this
  | cons x l => simp
theorem first_zero : first 0#64 = -1 := by unfold first; rw [items_zero]; rfl
theorem items_sorted (s : S) : (items s).Pairwise (· < ·) := by
  unfold items
  rw [List.pairwise_map]
  refine List.Pairwise.imp ?_ ((List.pairwise_lt_range (n := 64)).filter _)
  intro a b h; omega
theorem first_le {s : S} {i : Int} (h : has s i = true) : first s ≤ i := by
  rw [← mem_items] at h
  have hs := items_sorted s
  unfold first
  cases hi : items s with
  | nil => rw [hi] at h; simp at h
  | cons x l =>
    rw [hi] at h hs
    rw [List.pairwise_cons] at hs
    simp only [List.headD_cons]
    rcases List.mem_cons.1 h with rfl | h
    · omega
    · have := hs.1 _ h; omega
/-- Two rising rows with the same members are one. -/
theorem rising_ext : ∀ {l r : List Int}, l.Pairwise (· < ·) → r.Pairwise (· < ·) → (∀ i, i ∈ l ↔ i ∈ r) → l = r := by
  intro l
  induction l with
  | nil =>
    intro r _ _ h
    cases r with
    | nil => rfl
    | cons y r => exact absurd ((h y).2 (by simp)) (by simp)
  | cons x l ih =>
    intro r hl hr h
    cases r with
    | nil => exact absurd ((h x).1 (by simp)) (by simp)
    | cons y r =>
      rw [List.pairwise_cons] at hl hr
      have hxy : x = y := by
        rcases List.mem_cons.1 ((h x).1 (by simp)) with h1 | h1
        · exact h1
        · rcases List.mem_cons.1 ((h y).2 (by simp)) with h2 | h2
          · exact h2.symm
          · have := hl.1 _ h2; have := hr.1 _ h1; omega
      subst hxy
      rw [ih hl.2 hr.2]
      intro i
      have := h i
      simp only [List.mem_cons] at this
      constructor
      · intro hi
        rcases this.1 (.inr hi) with h1 | h1
        · subst h1; have := hl.1 _ hi; omega
        · exact h1
      · intro hi
        rcases this.2 (.inr hi) with h1 | h1
        · subst h1; have := hr.1 _ hi; omega
        · exact h1
theorem items_cons {s : S} (h : s ≠ 0#64) : items s = first s :: items (less s (first s)) := by
  apply rising_ext (items_sorted s)
  · rw [List.pairwise_cons]
    refine ⟨fun a ha => ?_, items_sorted _⟩
    rw [mem_items, has_less] at ha
    simp only [Bool.and_eq_true, Bool.not_eq_true', decide_eq_false_iff_not] at ha
    have := first_le ha.1
    omega
  · intro i
    rw [List.mem_cons, mem_items, mem_items, has_less]
    simp only [Bool.and_eq_true, Bool.not_eq_true', decide_eq_false_iff_not]
    constructor
    · intro hi
      by_cases e : i = first s
      · exact .inl e
      · exact .inr ⟨hi, e⟩
    · rintro (rfl | h1)
      · exact first_mem h
      · exact h1.1
theorem less_ne {s : S} (h : s ≠ 0#64) : (items (less s (first s))).length < (items s).length := by
  rw [items_cons h]; simp
theorem items_length (s : S) : (items s).length ≤ 64 := by
  unfold items
  rw [List.length_map]
  have := List.length_filter_le (fun k => s.getLsbD k) (List.range 64)
  simpa using this
theorem has_setOf (l : List Int) (j : Int) : has (setOf l) j = (decide (j ∈ l) && decide (0 ≤ j ∧ j < 64)) := by
  have : ∀ (l : List Int) (s : S), has (l.foldl wth s) j = (has s j || (decide (j ∈ l) && decide (0 ≤ j ∧ j < 64))) := by
    intro l
    induction l with
    | nil => intro s; simp
    | cons x l ih =>
      intro s
      rw [List.foldl_cons, ih, has_wth]
      by_cases e : j = x
      · subst e
        cases has s j <;> cases decide (j ∈ l) <;> cases decide (0 ≤ j ∧ j < 64) <;> simp
      · simp [e]
  unfold setOf
  rw [this, has_zero, Bool.false_or]
end Wb
