/- Equality of arrays, edges that are read, two functions more: what the laws of the order need. -/
import Derived.Test.YteclmkmemecckaaDoorWrows
import Derived.ChangeKeysEq
namespace Wb
def eqM (m n : M) : Bool := (List.range 32).all fun i => m i == n i
def eqO (o p : O) : Bool := (List.range 32).all fun i => o i == p i
theorem eqM_refl (m : M) : eqM m m = true := by unfold eqM; rw [List.all_eq_true]; intro i _; exact beq_self_eq_true _
theorem eqO_refl (o : O) : eqO o o = true := by unfold eqO; rw [List.all_eq_true]; intro i _; exact beq_self_eq_true _
/-- Edges, one behind the other. -/
def stepE (p : M × O) (e : Int × Int) : M × O := ((insert p.1 p.2 e.1 e.2).1, (insert p.1 p.2 e.1 e.2).2.1)
def runE (l : List (Int × Int)) : M × O := l.foldl stepE (Z, newO)
theorem runE_snoc (l : List (Int × Int)) (e : Int × Int) : runE (l ++ [e]) = stepE (runE l) e := by unfold runE; rw [List.foldl_append]; rfl
theorem runE_sorted (l : List (Int × Int)) : sorted (runE l).1 (runE l).2 = true := by
  unfold runE
  have : ∀ (l : List (Int × Int)) (p : M × O), sorted p.1 p.2 = true → sorted (l.foldl stepE p).1 (l.foldl stepE p).2 = true := by
    intro l
    induction l with
    | nil => intro p h; exact h
    | cons e l ih => intro p h; exact ih _ (insert_sorted e.1 e.2 h)
  exact this l _ sorted_new
end Wb
namespace Go.Proofs.YteclmkmemecckaaDoor
open Go.RowKit Wb

/-! ### arrays that are one -/
theorem run_eqItems_arr {α : Type} (enc : α → Value) (e : TypeId) (d n : Nat) (f g : Nat → α) (same : α → α → Bool) (w : World)
    (hc : Tryd.prog.cellsOf e = 1) (hag : (isAgg e).run Tryd.prog w = .ok false w)
    (hs : ∀ x y, (Op.equalIn d e (enc x) (enc y)).run Tryd.prog w = .ok (same x y) w) :
    ∀ is : List Nat, (∀ i ∈ is, i < n) → (Op.eqItems d e (Tryd.prog.cellsOf e) (encA enc n f) (encA enc n g) is).run Tryd.prog w = .ok (is.all fun i => same (f i) (g i)) w := by
  have hp : ∀ (h : Nat → α) (i : Nat), i < n → (part e (encA enc n h) (i * Tryd.prog.cellsOf e)).run Tryd.prog w = .ok (enc (h i)) w := by
    intro h i hi
    rw [hc, Nat.mul_one]
    unfold part
    simp only [Sem.run_bind, hag, Result.andThen_ok, Bool.false_eq_true, if_false, encA_get enc n h i hi, Sem.run_pure]
  intro is
  induction is with
  | nil => intro _; simp [Op.eqItems]
  | cons i is ih =>
    intro h
    have hi := h i (by simp)
    simp only [Op.eqItems, Sem.run_bind, hp f i hi, hp g i hi, hs, Result.andThen_ok, List.all_cons]
    cases same (f i) (g i) with
    | false => simp
    | true => simpa using ih fun j hj => h j (by simp [hj])
theorem run_eq_arr {α : Type} (enc : α → Value) {t e : TypeId} {n : Nat} {i : TypeInfo} (f g : Nat → α) (same : α → α → Bool) (w : World)
    (hu : Tryd.prog.underlying t = some (.array n e)) (hi : Tryd.prog.info? e = some i) (hc : Tryd.prog.cellsOf e = 1) (hag : (isAgg e).run Tryd.prog w = .ok false w)
    (hs : ∀ x y, (Op.equalIn 9999 e (enc x) (enc y)).run Tryd.prog w = .ok (same x y) w) :
    (Op.equalIn 10000 t (.agg (encA enc n f)) (.agg (encA enc n g))).run Tryd.prog w = .ok ((List.range n).all fun i => same (f i) (g i)) w :=
  (run_equalIn_array w 9999 _ _ hu hi).trans (run_eqItems_arr enc e 9999 n f g same w hc hag hs _ fun _ hi => List.mem_range.1 hi)
theorem infoSet : ∃ i, Tryd.prog.info? 27 = some i := by
  cases h : Tryd.prog.info? 27 with
  | some i => exact ⟨i, rfl⟩
  | none => exact absurd h (by intro h; have : (Tryd.prog.info? 27).isSome = true := by kernel_rfl
                               rw [h] at this; cases this)
theorem infoInt : ∃ i, Tryd.prog.info? 3 = some i := by
  cases h : Tryd.prog.info? 3 with
  | some i => exact ⟨i, rfl⟩
  | none => exact absurd h (by intro h; have : (Tryd.prog.info? 3).isSome = true := by kernel_rfl
                               rw [h] at this; cases this)
@[go_sem] theorem run_equalIn_mat (m n : M) (w : World) : (Op.equalIn 10000 29 (.agg (encM m)) (.agg (encM n))).run Tryd.prog w = .ok (eqM m n) w := by
  obtain ⟨i, hi⟩ := infoSet
  refine run_eq_arr es m n (fun x y => x == y) w Tryd.underlying29 hi (by kernel_rfl) (by simp [isAgg, run_underlying Tryd.underlying27]) fun x y => ?_
  rw [← sv_beq]
  exact run_equalIn_int w 9998 _ _ _ _ _ Tryd.underlying27
@[go_sem] theorem run_equalIn_order (o p : O) (w : World) : (Op.equalIn 10000 31 (.agg (encO o)) (.agg (encO p))).run Tryd.prog w = .ok (eqO o p) w := by
  obtain ⟨i, hi⟩ := infoInt
  exact run_eq_arr ei o p (fun x y => x == y) w Tryd.underlying31 hi (by kernel_rfl) (by simp [isAgg, run_underlying Tryd.underlying3]) fun x y =>
    run_equalIn_int w 9998 _ _ _ _ _ Tryd.underlying3

/-! ### what is written above a bound -/
@[go_sem] theorem setRow_size (w : World) (g : Nat) (cs : Array Value) : (w.setRow g cs).heap.size = w.heap.size := by simp [World.setRow]

/-- A row of edges, as it is read. -/
def Edges (w : World) (A : Option Addr) (l : List (Int × Int)) : Prop :=
  ∀ k a b, l[k]? = some (a, b) → ∃ ad, A = some ad ∧ ad.block < w.heap.size ∧ w.cell? (ad.add (k * 2)) = some (.int .i64 a) ∧ w.cell? ⟨(ad.add (k * 2)).block, (ad.add (k * 2)).off + 1, none⟩ = some (.int .i64 b)
theorem add_block (a : Addr) (n : Nat) : (a.add n).block = a.block := by unfold Addr.add; split <;> rfl
theorem add_add' (a : Addr) (i j : Nat) : (a.add i).add j = a.add (i + j) := by
  unfold Addr.add
  by_cases hi : i = 0 <;> by_cases hj : j = 0 <;> simp [hi, hj, Nat.add_assoc]
theorem Edges.below {w w' : World} {A : Option Addr} {l : List (Int × Int)} (h : Edges w A l) (hb : Below w.heap.size w w') : Edges w' A l := by
  intro k a b hk
  obtain ⟨ad, e, hB, h1, h2⟩ := h k a b hk
  refine ⟨ad, e, Nat.lt_of_lt_of_le hB hb.size, ?_, ?_⟩
  · rw [hb.cell (p := ad.add (k * 2)) (by rw [add_block]; exact hB)]; exact h1
  · rw [hb.cell (p := ⟨(ad.add (k * 2)).block, (ad.add (k * 2)).off + 1, none⟩) (by show (ad.add (k * 2)).block < _; rw [add_block]; exact hB)]; exact h2
/-- What is read of an edge stays as long as only what is new is written. -/
theorem Edges.upon {w w' : World} {B : Nat} {A : Option Addr} {l : List (Int × Int)} (h : Edges w A l) (hB : w.heap.size ≤ B) (hb : Below B w w') : Edges w' A l := h.below (hb.mono hB)
/-- The state of a loop of Inserts: two blocks hold graph and order; nothing elder is touched. -/
structure Held (w0 w : World) (g5 g6 : Nat) (p : M × O) : Prop where
  r5 : row? w g5 = some (encM p.1)
  r6 : row? w g6 = some (encO p.2)
  ne : g5 ≠ g6
  l5 : w0.heap.size ≤ g5
  l6 : w0.heap.size ≤ g6
  below : Below w0.heap.size w0 w
theorem Held.stored {w0 w : World} {g5 g6 : Nat} {p : M × O} (h : Held w0 w g5 g6 p) (q : M × O) : Held w0 ((w.setRow g5 (encM q.1)).setRow g6 (encO q.2)) g5 g6 q :=
  ⟨by rw [row?_setRow_other _ _ _ h.ne]; exact row?_setRow_same _ _ _ h.r5,
   row?_setRow_same _ (encO p.2) _ (by rw [row?_setRow_other _ _ _ h.ne.symm]; exact h.r6),
   h.ne, h.l5, h.l6, below_setRow (below_setRow h.below h.l5 _) h.l6 _⟩
theorem Held.next {w0 w w' : World} {g5 g6 : Nat} {p : M × O} (h : Held w0 w g5 g6 p) (hb : Below w.heap.size w w') : Held w0 w' g5 g6 p :=
  ⟨(row?_below hb (row?_lt h.r5)).trans h.r5, (row?_below hb (row?_lt h.r6)).trans h.r6, h.ne, h.l5, h.l6, h.below.trans (hb.mono h.below.size)⟩
end Go.Proofs.YteclmkmemecckaaDoor
