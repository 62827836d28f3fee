/- Plain facts on sets, graphs and orders (part Topo2). No program in sight. -/
import Derived.Test.YteclmkmemecckaaDoorTopo
namespace Wb
/-! ### what an order is -/
theorem perm_of_sub {α : Type} [BEq α] [LawfulBEq α] : ∀ {l r : List α}, l.Nodup → (∀ x ∈ l, x ∈ r) → r.length ≤ l.length → l.Perm r := by
  intro l
  induction l with
  | nil => intro r _ _ h; have : r = [] := List.length_eq_zero_iff.1 (by simpa using h); rw [this]
  | cons x l ih =>
    intro r hn hs hl
    rw [List.nodup_cons] at hn
    have hx := hs x (by simp)
    have hp := List.perm_cons_erase hx
    have hlen := hp.length_eq
    rw [List.length_cons] at hlen hl
    refine List.Perm.trans (List.Perm.cons x (ih hn.2 (fun y hy => ?_) (by omega))) hp.symm
    have h1 := hs y (by simp [hy])
    have h2 := hp.mem_iff.1 h1
    rcases List.mem_cons.1 h2 with h3 | h3
    · exact absurd (h3 ▸ hy) hn.1
    · exact h3
theorem nodup_range (n : Nat) : ((List.range n).map (fun k : Nat => (k : Int))).Nodup := by
  rw [List.Nodup, List.pairwise_map]
  exact (List.pairwise_lt_range (n := n)).imp (fun h => by omega)
structure Right (o : O) : Prop where
  lo : ∀ i, i < 32 → 0 ≤ o i
  hi : ∀ i, i < 32 → o i < 32
  inj : ∀ i j, i < 32 → j < 32 → o i = o j → i = j
  onto : ∀ p : Int, 0 ≤ p → p < 32 → ∃ i, i < 32 ∧ o i = p
theorem right_iff (o : O) : right o = true ↔ Right o := by
  unfold right
  rw [beq_iff_eq]
  have hmem : ∀ (x : Int), x ∈ (List.range 32).map o ↔ ∃ i, i < 32 ∧ o i = x := by
    intro x; simp [List.mem_map]
  constructor
  · intro h
    have hon : ∀ p : Int, 0 ≤ p → p < 32 → ∃ i, i < 32 ∧ o i = p := by
      intro p h0 h1
      have : has (setOf ((List.range 32).map o)) p = true := by rw [h, has_nodes]; simp [h0, h1]
      rw [has_setOf] at this
      simp only [Bool.and_eq_true, decide_eq_true_eq] at this
      exact (hmem p).1 this.1
    have hp : ((List.range 32).map (fun k : Nat => (k : Int))).Perm ((List.range 32).map o) := by
      apply perm_of_sub (nodup_range 32)
      · intro x hx
        rw [List.mem_map] at hx
        obtain ⟨k, hk, rfl⟩ := hx
        rw [List.mem_range] at hk
        exact (hmem _).2 (hon _ (by omega) (by omega))
      · simp
    have hb : ∀ i, i < 32 → 0 ≤ o i ∧ o i < 32 := by
      intro i hi
      have := hp.mem_iff.2 ((hmem (o i)).2 ⟨i, hi, rfl⟩)
      rw [List.mem_map] at this
      obtain ⟨k, hk, he⟩ := this
      rw [List.mem_range] at hk
      omega
    have hnd : ((List.range 32).map o).Nodup := hp.nodup_iff.1 (nodup_range 32)
    refine ⟨fun i h => (hb i h).1, fun i h => (hb i h).2, fun i j hi hj e => ?_, hon⟩
    rw [List.Nodup, List.pairwise_map, List.pairwise_iff_getElem] at hnd
    rcases Nat.lt_trichotomy i j with h1 | h1 | h1
    · have := hnd i j (by simpa using hi) (by simpa using hj) h1
      simp at this; exact absurd e this
    · exact h1
    · have := hnd j i (by simpa using hj) (by simpa using hi) h1
      simp at this; exact absurd e.symm this
  · intro h
    apply set_ext
    intro p
    rw [has_setOf, has_nodes, Bool.eq_iff_iff]
    simp only [Bool.and_eq_true, decide_eq_true_eq]
    rw [hmem]
    constructor
    · rintro ⟨⟨i, hi, rfl⟩, _⟩
      exact ⟨h.lo i hi, h.hi i hi⟩
    · rintro ⟨h0, h1⟩
      exact ⟨h.onto p h0 h1, by omega⟩
theorem right_new : Right newO := ⟨fun i _ => by unfold newO; omega, fun i h => by unfold newO; omega, fun i j _ _ e => by unfold newO at e; omega, fun p h0 h1 => ⟨p.toNat, by omega, by unfold newO; omega⟩⟩
theorem sorted_iff (m : M) (o : O) : sorted m o = true ↔ Right o ∧ ∀ a b, Edge m a b → o a.toNat < o b.toNat := by
  unfold sorted
  rw [Bool.and_eq_true, right_iff, List.all_eq_true, and_comm]
  refine and_congr_right fun _ => ?_
  constructor
  · intro h a b e
    have h1 := h a.toNat (by simp; have := e.1; omega)
    rw [List.all_eq_true] at h1
    have e1 : ((a.toNat : Nat) : Int) = a := by have := e.1; omega
    have h2 := h1 b (by rw [mem_items, e1, outs_iff]; exact e)
    simpa using h2
  · intro h a _
    rw [List.all_eq_true]
    intro b hb
    rw [mem_items, outs_iff] at hb
    have := h _ _ hb
    simpa using this
theorem at_spec {o : O} (h : Right o) {p : Nat} (hp : p < 32) : atO o p < 32 ∧ o (atO o p) = p := by
  obtain ⟨i, hi, e⟩ := h.onto p (by omega) (by omega)
  unfold atO
  cases hf : (List.range 32).find? (fun i => o i == (p : Int)) with
  | none =>
    rw [List.find?_eq_none] at hf
    have := hf i (by simp [hi])
    simp [e] at this
  | some j =>
    have h1 := List.find?_some hf
    have h2 := List.mem_of_find?_eq_some hf
    simp only [Option.getD_some]
    exact ⟨by simpa using h2, by simpa using h1⟩
theorem at_of {o : O} (h : Right o) {i : Nat} (hi : i < 32) : atO o (o i).toNat = i := by
  have h0 := h.lo i hi
  have h1 := h.hi i hi
  have := at_spec h (p := (o i).toNat) (by omega)
  exact h.inj _ _ this.1 hi (by rw [this.2]; omega)
theorem mem_rowO {o : O} (h : Right o) (x : Int) : x ∈ rowO o ↔ 0 ≤ x ∧ x < 32 := by
  unfold rowO
  rw [List.mem_map]
  constructor
  · rintro ⟨p, hp, rfl⟩
    have := (at_spec h (List.mem_range.1 hp)).1
    omega
  · rintro ⟨h0, h1⟩
    have hi : x.toNat < 32 := by omega
    refine ⟨(o x.toNat).toNat, ?_, ?_⟩
    · have := h.hi _ hi; have := h.lo _ hi; rw [List.mem_range]; omega
    · rw [at_of h hi]; omega
theorem rowO_sorted {o : O} (h : Right o) : (rowO o).Pairwise (fun x y => o x.toNat < o y.toNat) := by
  unfold rowO
  rw [List.pairwise_map]
  refine List.Pairwise.imp_of_mem ?_ (List.pairwise_lt_range (n := 32))
  intro p q hp hq hpq
  have h1 := at_spec h (List.mem_range.1 hp)
  have h2 := at_spec h (List.mem_range.1 hq)
  simp only [Int.toNat_natCast]
  rw [h1.2, h2.2]
  omega
theorem byO_sorted {o : O} (h : Right o) (s : S) : (byO o s).Pairwise (fun x y => o x.toNat < o y.toNat) := (rowO_sorted h).filter _
theorem mem_byO {o : O} (h : Right o) (s : S) (x : Int) : x ∈ byO o s ↔ (0 ≤ x ∧ x < 32) ∧ has s x = true := by
  unfold byO; rw [List.mem_filter, mem_rowO h]

/-- Two rows that rise by one measure, with the same members, are one. -/
theorem rising_by {f : Int → Int} : ∀ {l r : List Int}, l.Pairwise (fun x y => f x < f y) → r.Pairwise (fun x y => f x < f y) → (∀ i, i ∈ l ↔ i ∈ r) → l = r := by
  intro l
  induction l with
  | nil =>
    intro r _ _ h
    cases r with
    | nil => rfl
    | cons y r => exact absurd ((h y).2 (by simp)) (by simp)
  | cons x l ih =>
    intro r hl hr h
    cases r with
    | nil => exact absurd ((h x).1 (by simp)) (by simp)
    | cons y r =>
      rw [List.pairwise_cons] at hl hr
      have hxy : x = y := by
        rcases List.mem_cons.1 ((h x).1 (by simp)) with h1 | h1
        · exact h1
        · rcases List.mem_cons.1 ((h y).2 (by simp)) with h2 | h2
          · exact h2.symm
          · have := hl.1 _ h2; have := hr.1 _ h1; omega
      subst hxy
      rw [ih hl.2 hr.2]
      intro i
      have := h i
      simp only [List.mem_cons] at this
      constructor
      · intro hi
        rcases this.1 (.inr hi) with h1 | h1
        · subst h1; have := hl.1 _ hi; omega
        · exact h1
      · intro hi
        rcases this.2 (.inr hi) with h1 | h1
        · subst h1; have := hr.1 _ hi; omega
        · exact h1

/-! ### what is written -/
theorem writeAt_other : ∀ (l p : List Int) (o : O) (k : Nat), (∀ x ∈ l, x.toNat ≠ k) → writeAt o l p k = o k := by
  intro l
  induction l with
  | nil => intro p o k _; cases p <;> rfl
  | cons x l ih =>
    intro p o k h
    cases p with
    | nil => rfl
    | cons q p =>
      rw [writeAt, ih p _ k (fun y hy => h y (by simp [hy])), upd_other _ _ (fun e => h x (by simp) e.symm)]
theorem writeAt_get : ∀ (l p : List Int) (o : O) (j : Nat) (hl : j < l.length) (hp : j < p.length), l.Nodup → (∀ x ∈ l, 0 ≤ x) → writeAt o l p (l[j]).toNat = p[j] := by
  intro l
  induction l with
  | nil => intro p o j hl; simp at hl
  | cons x l ih =>
    intro p o j hl hp hn h0
    rw [List.nodup_cons] at hn
    cases p with
    | nil => simp at hp
    | cons q p =>
      rw [writeAt]
      cases j with
      | zero =>
        simp only [List.getElem_cons_zero]
        rw [writeAt_other _ _ _ _ (fun y hy e => hn.1 ?_), upd_same]
        have h1 := h0 y (by simp [hy])
        have h2 := h0 x (by simp)
        have : y = x := by omega
        exact this ▸ hy
      | succ j =>
        simp only [List.getElem_cons_succ]
        exact ih p _ j (by simpa using hl) (by simpa using hp) hn.2 (fun y hy => h0 y (by simp [hy]))
/-- A part of a rising row stands nowhere ahead of the row's own beginning. -/
theorem sub_ge : ∀ {s l : List Int}, s.Sublist l → l.Pairwise (· < ·) → ∀ (j : Nat) (hs : j < s.length) (hl : j < l.length), l[j] ≤ s[j] := by
  intro s l h
  induction h with
  | slnil => intro _ j hs; simp at hs
  | @cons s l x h ih =>
    intro hp j hs hl
    rw [List.pairwise_cons] at hp
    have hle := h.length_le
    cases j with
    | zero =>
      simp only [List.getElem_cons_zero]
      have := hp.1 (s[0]) (h.subset (List.getElem_mem _)); omega
    | succ j =>
      simp only [List.getElem_cons_succ]
      have h1 := ih hp.2 (j + 1) hs (by omega)
      have h2 : l[j]'(by omega) < l[j + 1]'(by omega) := List.pairwise_iff_getElem.1 hp.2 j (j + 1) (by omega) (by omega) (by omega)
      omega
  | @cons_cons s l x h ih =>
    intro hp j hs hl
    rw [List.pairwise_cons] at hp
    cases j with
    | zero => simp
    | succ j => simp only [List.getElem_cons_succ]; exact ih hp.2 j (by simpa using hs) (by simpa using hl)
/-- Nor behind its end. -/
theorem sub_le : ∀ {s l : List Int}, s.Sublist l → l.Pairwise (· < ·) → ∀ (j : Nat) (hs : j < s.length) (hl : l.length - s.length + j < l.length), s[j] ≤ l[l.length - s.length + j] := by
  intro s l h
  induction h with
  | slnil => intro _ j hs; simp at hs
  | @cons s l x h ih =>
    intro hp j hs hl
    rw [List.pairwise_cons] at hp
    have hle := h.length_le
    have h1 := ih hp.2 j hs (by omega)
    have e : (x :: l).length - s.length + j = (l.length - s.length + j) + 1 := by rw [List.length_cons]; omega
    simp only [e, List.getElem_cons_succ]
    exact h1
  | @cons_cons s l x h ih =>
    intro hp j hs hl
    rw [List.pairwise_cons] at hp
    have hle := h.length_le
    cases j with
    | zero =>
      have hx : ∀ k (hk : k < (x :: l).length), x ≤ (x :: l)[k] := by
        intro k hk
        cases k with
        | zero => simp
        | succ k =>
          simp only [List.getElem_cons_succ]
          have := hp.1 (l[k]'(by simpa using hk)) (List.getElem_mem _); omega
      exact hx _ _
    | succ j =>
      have h1 := ih hp.2 j (by simpa using hs) (by simp at hs; omega)
      have e : (x :: l).length - (x :: s).length + (j + 1) = (l.length - s.length + j) + 1 := by simp only [List.length_cons]; omega
      simp only [e, List.getElem_cons_succ]
      exact h1
end Wb
