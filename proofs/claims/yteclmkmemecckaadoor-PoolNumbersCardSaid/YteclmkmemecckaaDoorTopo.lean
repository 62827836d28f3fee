/- Plain facts on sets, graphs and orders (part Topo). No program in sight. -/
import Derived.Test.YteclmkmemecckaaDoorMats
namespace Wb
abbrev O := Nat → Int
def newO : O := fun i => (i : Int)
def right (o : O) : Bool := setOf ((List.range 32).map o) == nodes
def sorted (m : M) (o : O) : Bool := ((List.range 32).all (fun a => (items (outs m (a : Int))).all (fun b => !decide (o a ≥ o b.toNat)))) && right o
def atO (o : O) (p : Nat) : Nat := ((List.range 32).find? (fun i => o i == (p : Int))).getD 0
def rowO (o : O) : List Int := (List.range 32).map (fun p => (atO o p : Int))
def row (o : O) : List Int := if !right o then [] else rowO o
def byO (o : O) (s : S) : List Int := (rowO o).filter (has s)

/-- What comes of a node, itself too, by nodes that may. -/
inductive Near (next : Int → S) (may : Int → Bool) (a : Int) : Int → Prop
  | here : Near next may a a
  | more {i k : Int} : Near next may a i → has (next i) k = true → may k = true → Near next may a k
def nearL (next : Int → S) (may : Int → Bool) : Nat → S → List Int → S
  | 0, had, _ => had
  | n + 1, had, st => match st.getLast? with
    | none => had
    | some i => nearL next may n (((items (next i &&& ~~~had)).filter may).foldl wth had) (st.dropLast ++ (items (next i &&& ~~~had)).filter may)
def near (a : Int) (next : Int → S) (may : Int → Bool) : S := nearL next may 200 (setOf [a]) [a]

def writeAt (o : O) : List Int → List Int → O
  | x :: xs, p :: ps => writeAt (upd o x.toNat p) xs ps
  | _, _ => o
def insertO (o : O) (fore hind : S) : O := writeAt o (byO o hind ++ byO o fore) ((byO o (fore ||| hind)).map (fun x => o x.toNat))
def foreOf (m : M) (o : O) (a b : Int) : S := near b (outs m) (fun i => decide (o i.toNat ≤ o a.toNat))
def hindOf (m : M) (o : O) (a b : Int) : S := near a (ins m) (fun i => decide (o i.toNat ≥ o b.toNat))
def insert (m : M) (o : O) (a b : Int) : M × O × Bool :=
  if !(put m a b).2 || !sorted m o then (m, o, false)
  else if o a.toNat < o b.toNat then ((put m a b).1, o, true)
  else if has (foreOf m o a b) a then (m, o, false)
  else ((put m a b).1, insertO o (foreOf m o a b) (hindOf m o a b), true)

/-! ### near -/
theorem has_foldl_wth (l : List Int) : ∀ (s : S) (j : Int), has (l.foldl wth s) j = (has s j || (decide (j ∈ l) && decide (0 ≤ j ∧ j < 64))) := by
  induction l with
  | nil => intro s; simp
  | cons x l ih =>
    intro s j
    rw [List.foldl_cons, ih, has_wth]
    by_cases e : j = x
    · subst e
      cases has s j <;> cases decide (j ∈ l) <;> cases decide (0 ≤ j ∧ j < 64) <;> simp
    · simp [e]
theorem cnt_foldl {l : List Int} : ∀ {s : S}, l.Nodup → (∀ i ∈ l, (0 ≤ i ∧ i < 64) ∧ has s i = false) → cnt s + l.length ≤ cnt (l.foldl wth s) := by
  induction l with
  | nil => intro s _ _; simp
  | cons x l ih =>
    intro s hn h
    rw [List.nodup_cons] at hn
    have h1 := cnt_wth (h x (by simp)).1 (h x (by simp)).2
    have h2 := ih (s := wth s x) hn.2 (fun i hi => ⟨(h i (by simp [hi])).1, by
      rw [has_wth, (h i (by simp [hi])).2]
      have : i ≠ x := fun e => hn.1 (e ▸ hi)
      simp [this]⟩)
    rw [List.foldl_cons, List.length_cons]
    omega
theorem rising_nodup {l : List Int} (h : l.Pairwise (· < ·)) : l.Nodup := List.Pairwise.imp (fun h => by omega) h
theorem nearL_spec (next : Int → S) (may : Int → Bool) (a : Int) : ∀ (n : Nat) (had : S) (st : List Int), (64 - cnt had) + st.length < n →
    (∀ k, has had k = true → Near next may a k) → (∀ k ∈ st, Near next may a k) → has had a = true →
    (∀ i k, has had i = true → has (next i) k = true → may k = true → has had k = true ∨ i ∈ st) →
    ∀ k, has (nearL next may n had st) k = true ↔ Near next may a k := by
  intro n
  induction n with
  | zero => intro had st h; omega
  | succ n ih =>
    intro had st hn h1 h2 h3 h4
    unfold nearL
    cases hl : st.getLast? with
    | none =>
      have hst : st = [] := List.getLast?_eq_none_iff.1 hl
      subst hst
      simp only
      intro k
      refine ⟨h1 k, fun hw => ?_⟩
      induction hw with
      | here => exact h3
      | more _ e m ih' => exact (h4 _ _ ih' e m).resolve_right (by simp)
    | some i =>
      simp only
      have hne : st ≠ [] := fun e => by subst e; simp at hl
      have hst : st.dropLast ++ [i] = st := by
        have := List.dropLast_concat_getLast hne
        rw [List.getLast?_eq_some_getLast hne] at hl
        injection hl with hl
        rw [hl] at this; exact this
      have hi : Near next may a i := h2 i (by rw [← hst]; simp)
      have hnew : ∀ k, k ∈ (items (next i &&& ~~~had)).filter may ↔ has (next i) k = true ∧ has had k = false ∧ may k = true := by
        intro k
        rw [List.mem_filter, mem_items, has_andNot]
        simp only [Bool.and_eq_true, Bool.not_eq_true', and_assoc]
      have hlen : st.length = st.dropLast.length + 1 := by
        have := congrArg List.length hst; simp at this ⊢; omega
      have hc := cnt_foldl (l := (items (next i &&& ~~~had)).filter may) (s := had) ((rising_nodup (items_sorted _)).filter _) (fun k hk => by
        have := (hnew k).1 hk
        exact ⟨has_range this.1, this.2.1⟩)
      have hle := cnt_le (((items (next i &&& ~~~had)).filter may).foldl wth had)
      have hhad : ∀ k, has (((items (next i &&& ~~~had)).filter may).foldl wth had) k = true ↔ has had k = true ∨ (has (next i) k = true ∧ has had k = false ∧ may k = true) := by
        intro k
        rw [has_foldl_wth, Bool.or_eq_true, Bool.and_eq_true, decide_eq_true_eq, decide_eq_true_eq, hnew]
        constructor
        · rintro (h | h)
          · exact .inl h
          · exact .inr h.1
        · rintro (h | h)
          · exact .inl h
          · exact .inr ⟨h, has_range h.1⟩
      apply ih
      · rw [List.length_append]; omega
      · intro k hk
        rcases (hhad k).1 hk with h | h
        · exact h1 k h
        · exact .more hi h.1 h.2.2
      · intro k hk
        rw [List.mem_append] at hk
        rcases hk with h | h
        · exact h2 k (by rw [← hst]; simp [h])
        · have := (hnew k).1 h
          exact .more hi this.1 this.2.2
      · exact (hhad a).2 (.inl h3)
      · intro j k hj e m
        by_cases hk : has had k = true
        · exact .inl ((hhad k).2 (.inl hk))
        · have hk : has had k = false := by simpa using hk
          by_cases hji : j = i
          · subst hji; exact .inl ((hhad k).2 (.inr ⟨e, hk, m⟩))
          · rcases (hhad j).1 hj with h | h
            · rcases h4 j k h e m with h5 | h5
              · rw [h5] at hk; simp at hk
              · rw [← hst] at h5
                simp only [List.mem_append, List.mem_singleton] at h5
                exact .inr (List.mem_append.2 (.inl (h5.resolve_right hji)))
            · exact .inr (List.mem_append.2 (.inr ((hnew j).2 h)))
theorem has_near {a : Int} (ha : 0 ≤ a ∧ a < 64) (next : Int → S) (may : Int → Bool) (k : Int) : has (near a next may) k = true ↔ Near next may a k := by
  have hs : ∀ k, has (setOf [a]) k = true ↔ k = a := by
    intro k; rw [has_setOf]; simp only [List.mem_singleton, Bool.and_eq_true, decide_eq_true_eq]
    exact ⟨fun h => h.1, fun h => ⟨h, h ▸ ha⟩⟩
  unfold near
  apply nearL_spec
  · simp; omega
  · intro k hk; rw [(hs k).1 hk]; exact .here
  · intro k hk; simp only [List.mem_singleton] at hk; rw [hk]; exact .here
  · exact (hs a).2 rfl
  · intro i k hi _ _; right; simp [(hs i).1 hi]
end Wb
