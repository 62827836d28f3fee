/- Plain facts on pools: what each call comes to. No program in sight. -/
import Derived.Test.YteclmkmemecckaaDoorTopo4
namespace Wb
/-- A pool of slots. -/
structure Pl where
  size : Int
  m : M
  o : O
  live : S
  over : S
  ids : O
  count : Int
def Pl.taken (p : Pl) : S := p.live ||| p.over
def capOf (n : Int) : Nat := (min (max n 0) 32).toNat
def below (n : Nat) : S := BitVec.ofNat 64 (2 ^ n - 1)
def Pl.slots (p : Pl) : S := below (capOf p.size)
def Pl.ahead (p : Pl) (a b : Int) : Pl := { p with m := (insert p.m p.o a b).1, o := (insert p.m p.o a b).2.1 }
def Pl.slot (p : Pl) : Int := first (p.slots &&& ~~~p.taken)
/-- All that are over stand ahead of it. -/
def Pl.behind (p : Pl) (i : Int) (l : List Int) : Pl := l.foldl (fun p k => p.ahead k i) p
def Pl.begins (p : Pl) (i : Int) : Pl := { p with live := wth p.live i, count := p.count + 1, ids := upd p.ids i.toNat (p.count + 1) }
def Pl.begin (p : Pl) : Pl × Int × Int :=
  if p.slot < 0 then (p, 0, 4) else ((p.behind p.slot (items p.over)).begins p.slot, p.slot, 0)
def Pl.edge (p : Pl) (a b : Int) : Pl × Int :=
  if a = b then (p, 2)
  else if !has p.taken a || !has p.taken b then (p, 3)
  else if (insert p.m p.o a b).2.2 then (p.ahead a b, 0) else (p, 5)
def Pl.end (p : Pl) (i : Int) : Pl × Int := if !has p.live i then (p, 3) else ({ p with live := less p.live i, over := wth p.over i }, 0)
/-- The first of those that are over, and behind nothing. -/
def Pl.better (p : Pl) (b : Int × Bool) (i : Int) : Int × Bool := if ins p.m i == 0#64 && decide (i < 32) && (!b.2 || decide (p.ids i.toNat < p.ids b.1.toNat)) then (i, true) else b
def Pl.best (p : Pl) (l : List Int) (b : Int × Bool) : Int × Bool := l.foldl p.better b
def Pl.source (p : Pl) : Int × Bool := p.best (items p.over) (0, false)
def Pl.gone (p : Pl) (i : Int) : Pl := { p with m := cut p.m i, over := less p.over i, ids := upd p.ids i.toNat 0 }
def Pl.collect (p : Pl) : Nat → List Int → Pl × List Int
  | 0, out => (p, out)
  | n + 1, out => if p.source.2 then (p.gone p.source.1).collect n (out ++ [p.ids p.source.1.toNat]) else (p, out)
def Pl.collects (p : Pl) : Pl × List Int := p.collect 65 []
def Pl.new (n : Int) : Pl := { size := n, m := fun _ => 0#64, o := newO, live := 0#64, over := 0#64, ids := fun _ => 0, count := 0 }
def Pl.none : Pl := { size := 0, m := fun _ => 0#64, o := fun _ => 0, live := 0#64, over := 0#64, ids := fun _ => 0, count := 0 }
theorem has_below {n : Nat} (hn : n ≤ 63) (i : Int) : has (below n) i = decide (0 ≤ i ∧ i < n) := by
  rw [has_eq]
  unfold below
  by_cases h : 0 ≤ i
  · rw [BitVec.getLsbD_ofNat, Nat.testBit_two_pow_sub_one]
    have e : i.toNat < n ↔ i < n := by omega
    by_cases hi : i < n
    · have h64 : i.toNat < 64 := by omega
      simp [h, e, hi, h64]
    · simp [h, e, hi]
  · simp [h]
theorem behind_snoc (p : Pl) (i : Int) (l : List Int) (k : Int) : p.behind i (l ++ [k]) = (p.behind i l).ahead k i := by unfold Pl.behind; rw [List.foldl_append]; rfl
theorem behind_keeps (p : Pl) (i : Int) (l : List Int) : (p.behind i l).live = p.live ∧ (p.behind i l).over = p.over ∧ (p.behind i l).count = p.count ∧ (p.behind i l).ids = p.ids ∧ (p.behind i l).size = p.size := by
  unfold Pl.behind
  induction l generalizing p with
  | nil => exact ⟨rfl, rfl, rfl, rfl, rfl⟩
  | cons k l ih => rw [List.foldl_cons]; exact ih (p.ahead k i)
theorem capOf_le (n : Int) : capOf n ≤ 32 := by unfold capOf; omega
theorem slot_range (p : Pl) (h : ¬ p.slot < 0) : 0 ≤ p.slot ∧ p.slot < capOf p.size := by
  unfold Pl.slot at h ⊢
  by_cases h0 : p.slots &&& ~~~p.taken = 0#64
  · rw [h0, first_zero] at h; omega
  · have h1 := first_mem h0
    rw [has_andNot, Bool.and_eq_true] at h1
    have h2 := h1.1
    unfold Pl.slots at h2
    rw [has_below (by have := capOf_le p.size; omega)] at h2
    rw [decide_eq_true_eq] at h2
    exact h2
theorem best_snoc (p : Pl) (l : List Int) (x : Int) (b : Int × Bool) : p.best (l ++ [x]) b = p.better (p.best l b) x := by unfold Pl.best; rw [List.foldl_append]; rfl
/-- What may be told as the best: one of the row, a node, to which nothing goes. -/
theorem best_mem (p : Pl) (l : List Int) (h : (p.best l (0, false)).2 = true) : (p.best l (0, false)).1 ∈ l ∧ (p.best l (0, false)).1 < 32 ∧ ins p.m (p.best l (0, false)).1 = 0#64 := by
  have : ∀ (l r : List Int) (b : Int × Bool), (b.2 = true → b.1 ∈ r ∧ b.1 < 32 ∧ ins p.m b.1 = 0#64) → ((l.foldl p.better b).2 = true → (l.foldl p.better b).1 ∈ r ++ l ∧ (l.foldl p.better b).1 < 32 ∧ ins p.m (l.foldl p.better b).1 = 0#64) := by
    intro l
    induction l with
    | nil => intro r b hb h; simpa using hb h
    | cons x l ih =>
      intro r b hb h
      rw [List.foldl_cons] at h ⊢
      have := ih (r ++ [x]) (p.better b x) (fun h2 => by
        unfold Pl.better at h2 ⊢
        split
        · rename_i hc
          simp only [Bool.and_eq_true, decide_eq_true_eq, beq_iff_eq] at hc
          exact ⟨by simp, hc.1.2, hc.1.1⟩
        · rename_i hc
          rw [if_neg hc] at h2
          exact ⟨List.mem_append_left _ (hb h2).1, (hb h2).2⟩) h
      rw [List.append_assoc] at this
      exact this
  exact this l [] (0, false) (fun h => by cases h) h
theorem source_mem (p : Pl) (h : p.source.2 = true) : has p.over p.source.1 = true ∧ 0 ≤ p.source.1 ∧ p.source.1 < 32 ∧ ins p.m p.source.1 = 0#64 := by
  have := best_mem p (items p.over) h
  have h1 := (mem_items p.over p.source.1).1 this.1
  exact ⟨h1, (has_range h1).1, this.2.1, this.2.2⟩
theorem gone_less (p : Pl) (h : p.source.2 = true) : cnt (p.gone p.source.1).over < cnt p.over := by
  obtain ⟨h1, _⟩ := source_mem p h
  refine cnt_lt (i := p.source.1) (fun i hi => ?_) h1 ?_
  · show has p.over i = true
    have : has (less p.over p.source.1) i = true := hi
    rw [has_less, Bool.and_eq_true] at this; exact this.1
  · show has (less p.over p.source.1) p.source.1 = false
    rw [has_less]; simp
end Wb
