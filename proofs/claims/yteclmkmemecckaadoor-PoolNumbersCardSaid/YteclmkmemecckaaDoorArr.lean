/- Arrays as functions of their places; blocks that hold them; whole loads and stores. -/
import Derived.Test.YteclmkmemecckaaDoorVal
namespace Go.Proofs.YteclmkmemecckaaDoor
open Go.RowKit Wb

/-- n cells, one a place. -/
def encA {α : Type} (enc : α → Value) (n : Nat) (f : Nat → α) : Array Value := ((List.range n).map (fun i => enc (f i))).toArray
theorem encA_size {α : Type} (enc : α → Value) (n : Nat) (f : Nat → α) : (encA enc n f).size = n := by simp [encA]
theorem encA_get {α : Type} (enc : α → Value) (n : Nat) (f : Nat → α) (i : Nat) (h : i < n) : (encA enc n f)[i]? = some (enc (f i)) := by
  simp [encA, h]
theorem encA_set {α : Type} (enc : α → Value) (n : Nat) (f : Nat → α) (i : Nat) (v : α) : (encA enc n f).setIfInBounds i (enc v) = encA enc n (upd f i v) := by
  apply Array.ext_getElem?
  intro k
  rw [Array.getElem?_setIfInBounds]
  by_cases hk : k < n
  · rw [encA_get _ _ _ _ hk, encA_get _ _ _ _ hk, encA_size]
    by_cases e : i = k
    · subst e; simp [hk, upd_same]
    · simp [e, upd_other _ _ (Ne.symm e)]
  · have h1 : ∀ g : Nat → α, (encA enc n g)[k]? = none := fun g => Array.getElem?_eq_none (by rw [encA_size]; omega)
    rw [h1, h1, encA_size]
    by_cases e : i = k
    · subst e; simp [hk]
    · simp [e]
theorem encA_ext {α : Type} (enc : α → Value) (n : Nat) (f g : Nat → α) (h : ∀ i, i < n → f i = g i) : encA enc n f = encA enc n g := by
  apply Array.ext_getElem?
  intro k
  by_cases hk : k < n
  · rw [encA_get _ _ _ _ hk, encA_get _ _ _ _ hk, h k hk]
  · rw [Array.getElem?_eq_none (by rw [encA_size]; omega), Array.getElem?_eq_none (by rw [encA_size]; omega)]
theorem encA_all {α : Type} (enc : α → Value) (n : Nat) (f : Nat → α) (h : ∀ x, (enc x).oneCell' = true) : (encA enc n f).all (·.oneCell') = true := by
  rw [Array.all_eq_true_iff_forall_mem]
  intro v hv
  simp only [encA, List.mem_toArray, List.mem_map] at hv
  obtain ⟨k, _, rfl⟩ := hv
  exact h _

def es (s : S) : Value := .int .u64 (sv s)
def ei (n : Int) : Value := .int .i64 n
def encM (m : M) : Array Value := encA es 32 m
def encO (o : O) : Array Value := encA ei 32 o
theorem encM_size (m : M) : (encM m).size = 32 := encA_size _ _ _
theorem encO_size (o : O) : (encO o).size = 32 := encA_size _ _ _
@[go_sem] theorem encM_get (m : M) (i : Nat) (h : i < 32) : (encM m)[i]? = some (.int .u64 (sv (m i))) := encA_get es 32 m i h
@[go_sem] theorem encO_get (o : O) (i : Nat) (h : i < 32) : (encO o)[i]? = some (.int .i64 (o i)) := encA_get ei 32 o i h
@[go_sem] theorem encM_getElem (m : M) (i : Nat) (h : i < (encM m).size) : (encM m)[i] = .int .u64 (sv (m i)) := by
  have h1 := encM_get m i (by rw [encM_size] at h; exact h)
  rw [Array.getElem?_eq_getElem h] at h1; exact Option.some.inj h1
@[go_sem] theorem encO_getElem (o : O) (i : Nat) (h : i < (encO o).size) : (encO o)[i] = .int .i64 (o i) := by
  have h1 := encO_get o i (by rw [encO_size] at h; exact h)
  rw [Array.getElem?_eq_getElem h] at h1; exact Option.some.inj h1
@[go_sem] theorem encM_set (m : M) (i : Nat) (s : S) : (encM m).setIfInBounds i (.int .u64 (sv s)) = encM (upd m i s) := encA_set es 32 m i s
@[go_sem] theorem encO_set (o : O) (i : Nat) (n : Int) : (encO o).setIfInBounds i (.int .i64 n) = encO (upd o i n) := encA_set ei 32 o i n
theorem encM_all (m : M) : (encM m).all (·.oneCell') = true := encA_all _ _ _ fun _ => rfl
theorem encO_all (o : O) : (encO o).all (·.oneCell') = true := encA_all _ _ _ fun _ => rfl
theorem encM_zero : encM (fun _ => 0#64) = #[.int .u64 0, .int .u64 0, .int .u64 0, .int .u64 0, .int .u64 0, .int .u64 0, .int .u64 0, .int .u64 0, .int .u64 0, .int .u64 0, .int .u64 0, .int .u64 0, .int .u64 0, .int .u64 0, .int .u64 0, .int .u64 0, .int .u64 0, .int .u64 0, .int .u64 0, .int .u64 0, .int .u64 0, .int .u64 0, .int .u64 0, .int .u64 0, .int .u64 0, .int .u64 0, .int .u64 0, .int .u64 0, .int .u64 0, .int .u64 0, .int .u64 0, .int .u64 0] := rfl
theorem encO_zero : encO (fun _ => 0) = #[.int .i64 0, .int .i64 0, .int .i64 0, .int .i64 0, .int .i64 0, .int .i64 0, .int .i64 0, .int .i64 0, .int .i64 0, .int .i64 0, .int .i64 0, .int .i64 0, .int .i64 0, .int .i64 0, .int .i64 0, .int .i64 0, .int .i64 0, .int .i64 0, .int .i64 0, .int .i64 0, .int .i64 0, .int .i64 0, .int .i64 0, .int .i64 0, .int .i64 0, .int .i64 0, .int .i64 0, .int .i64 0, .int .i64 0, .int .i64 0, .int .i64 0, .int .i64 0] := rfl

/-! ### blocks, in the walk's own spelling -/
section
variable {w : World}
@[go_sem] theorem heap_alloc_at' (o : Obj) (n : Nat) (hn : n = w.heap.size) : (w.alloc o).heap[n]? = some o := by subst hn; exact heap_alloc_new w o
@[go_sem] theorem heap_alloc_past' (o : Obj) (n : Nat) (hn : n < w.heap.size) : (w.alloc o).heap[n]? = w.heap[n]? := by rw [World.alloc]; simp only []; rw [Array.getElem?_push, if_neg (by omega)]
@[go_sem] theorem heap_drew' (n : Nat) : w.drew.heap[n]? = w.heap[n]? := rfl
@[go_sem] theorem setRow_alloc_at (c cs : Array Value) (t : TypeId) (n : Nat) (hn : n = w.heap.size) : (w.alloc (.cells c t)).setRow n cs = w.alloc (.cells cs t) := by
  subst hn
  unfold World.setRow World.alloc
  congr 1
  apply Array.ext_getElem?
  intro k
  simp only [Array.getElem?_modify, Array.getElem?_push]
  by_cases hk : k = w.heap.size
  · subst hk; simp
  · simp [hk, Ne.symm hk]
@[go_sem] theorem setRow_alloc_past (o : Obj) (cs : Array Value) (n : Nat) (hn : n < w.heap.size) : (w.alloc o).setRow n cs = (w.setRow n cs).alloc o := by
  unfold World.setRow World.alloc
  congr 1
  apply Array.ext_getElem?
  intro k
  simp only [Array.getElem?_modify, Array.getElem?_push, Array.size_modify]
  by_cases hk : k = n
  · subst hk; simp [Nat.ne_of_lt hn]
  · by_cases hk2 : k = w.heap.size
    · subst hk2; simp [Nat.ne_of_lt hn]
    · simp [hk2, Ne.symm hk]
@[go_sem] theorem setRow_drew (cs : Array Value) (n : Nat) : w.drew.setRow n cs = (w.setRow n cs).drew := rfl
end

/-! ### what a block holds -/
/-- The cells of a block that may be written. -/
def row? (w : World) (g : Nat) : Option (Array Value) := match w.heap[g]? with | some (.cells c _ (0, 0)) => some c | _ => none
theorem row?_some {w : World} {g : Nat} {c : Array Value} (h : row? w g = some c) : ∃ t, w.heap[g]? = some (.cells c t (0, 0)) := by
  unfold row? at h
  split at h
  · rename_i c' t hw; injection h with h; subst h; exact ⟨t, hw⟩
  · cases h
theorem row?_of {w : World} {g : Nat} {c : Array Value} {t : TypeId} (h : w.heap[g]? = some (.cells c t (0, 0))) : row? w g = some c := by simp [row?, h]
theorem row?_heap {w w' : World} {g : Nat} (h : w'.heap[g]? = w.heap[g]?) : row? w' g = row? w g := by unfold row?; rw [h]
theorem row?_lt {w : World} {g : Nat} {c : Array Value} (h : row? w g = some c) : g < w.heap.size := by
  obtain ⟨t, ht⟩ := row?_some h; exact (Array.getElem?_eq_some_iff.1 ht).1
section
variable {w : World}
@[go_sem] theorem row?_alloc_at (c : Array Value) (t : TypeId) (n : Nat) (hn : n = w.heap.size) : row? (w.alloc (.cells c t)) n = some c := row?_of (heap_alloc_at' _ n hn)
@[go_sem] theorem row?_alloc_past (o : Obj) (n : Nat) (hn : n < w.heap.size) : row? (w.alloc o) n = row? w n := row?_heap (heap_alloc_past' o n hn)
@[go_sem] theorem row?_drew (n : Nat) : row? w.drew n = row? w n := rfl
theorem row?_setRow_same (cs c : Array Value) (n : Nat) (h : row? w n = some c) : row? (w.setRow n cs) n = some cs := by
  obtain ⟨t, ht⟩ := row?_some h
  exact row?_of (setRow_heap w n c cs t (0, 0) ht)
theorem row?_setRow_other (cs : Array Value) (n k : Nat) (h : k ≠ n) : row? (w.setRow n cs) k = row? w k := row?_heap (setRow_other w n k cs h)
theorem row?_cell {g : Nat} {c : Array Value} (h : row? w g = some c) (i : Nat) : w.cell? ⟨g, i, none⟩ = c[i]? := by
  obtain ⟨t, ht⟩ := row?_some h; exact cell_of_row w g i c t (0, 0) ht
theorem row?_free {g : Nat} {c : Array Value} (h : row? w g = some c) (i : Nat) : w.frozen? ⟨g, i, none⟩ = false := by
  obtain ⟨t, ht⟩ := row?_some h; exact frozen_of_row w g i c t ht
end
theorem row?_below {w w' : World} {B g : Nat} (hb : Below B w w') (hg : g < B) : row? w' g = row? w g := row?_heap (hb.block g hg)

/-- n cells from an address on. -/
def seg (w : World) (v : Value) (n : Nat) : Option (Array Value) :=
  match v with
  | .pointer (some ⟨g, off, none⟩) => (row? w g).bind fun c => if off + n ≤ c.size then some (c.extract off (off + n)) else none
  | _ => none
@[go_sem] theorem seg_at (w : World) (g off n : Nat) : seg w (.pointer (some ⟨g, off, none⟩)) n = (row? w g).bind fun c => if off + n ≤ c.size then some (c.extract off (off + n)) else none := rfl
def splice (c : Array Value) (off : Nat) (vs : Array Value) : Array Value := c.extract 0 off ++ vs ++ c.extract (off + vs.size) c.size
/-- The world with n cells written. -/
def putSeg (w : World) (v : Value) (vs : Array Value) : World :=
  match v with
  | .pointer (some ⟨g, off, none⟩) => w.setRow g (splice ((row? w g).getD #[]) off vs)
  | _ => w
@[go_sem] theorem putSeg_at (w : World) (g off : Nat) (vs : Array Value) : putSeg w (.pointer (some ⟨g, off, none⟩)) vs = w.setRow g (splice ((row? w g).getD #[]) off vs) := rfl
attribute [go_sem] encM_size encO_size
theorem extract_all (c : Array Value) (n : Nat) (h : c.size = n) : c.extract 0 n = c := by subst h; exact Array.extract_size
theorem splice_all (c vs : Array Value) (h : c.size = vs.size) : splice c 0 vs = vs := by
  unfold splice
  rw [Nat.zero_add, ← h, Array.extract_empty_of_stop_le_start (by omega), Array.extract_empty_of_stop_le_start (by omega)]
  simp
@[go_sem] theorem extract_encM (m : M) : (encM m).extract 0 32 = encM m := extract_all _ _ (encM_size m)
@[go_sem] theorem extract_encO (o : O) : (encO o).extract 0 32 = encO o := extract_all _ _ (encO_size o)
@[go_sem] theorem splice_encM (m m' : M) : splice (encM m) 0 (encM m') = encM m' := splice_all _ _ (by rw [encM_size, encM_size])
@[go_sem] theorem splice_encO (o o' : O) : splice (encO o) 0 (encO o') = encO o' := splice_all _ _ (by rw [encO_size, encO_size])

/-- An array's type, as the program has it. -/
structure ArrT (ty n : Nat) : Prop where
  und : (∃ k e, Tryd.prog.underlying ty = some (.array k e)) ∨ (∃ fs, Tryd.prog.underlying ty = some (.struct fs))
  size : (Tryd.prog.info? ty).map (·.size) = some n
theorem arrMat : ArrT 29 32 := ⟨.inl ⟨_, _, Tryd.underlying29⟩, by kernel_rfl⟩
theorem arrOrder : ArrT 31 32 := ⟨.inl ⟨_, _, Tryd.underlying31⟩, by kernel_rfl⟩


theorem addr_add (g off j : Nat) : (⟨g, off, none⟩ : Addr).add j = ⟨g, off + j, none⟩ := by
  unfold Addr.add; split
  · rename_i h; subst h; simp
  · rfl
theorem run_loadVar_seg {ty n : Nat} (T : ArrT ty n) (w : World) (g off : Nat) (c : Array Value) (hg : row? w g = some c) (hn : off + n ≤ c.size) :
    (loadVar ty ⟨g, off, none⟩).run Tryd.prog w = .ok (.agg (c.extract off (off + n))) w := by
  have hlen : (c.extract off (off + n)).toList.length = n := by simp; omega
  have hl : (loadCells ⟨g, off, none⟩ (c.extract off (off + n)).toList.length).run Tryd.prog w = .ok (c.extract off (off + n)).toList.toArray w :=
    run_loadCells_list (P := Tryd.prog) w ⟨g, off, none⟩ _ (fun j v hv => by
      rw [addr_add, row?_cell hg]
      have hj : j < n := by
        rw [List.getElem?_eq_some_iff] at hv; obtain ⟨h1, _⟩ := hv; rw [hlen] at h1; exact h1
      rw [Array.getElem?_toList, Array.getElem?_extract, if_pos (by omega)] at hv
      exact hv)
  rw [hlen, Array.toArray_toList] at hl
  have hagg : (isAgg ty).run Tryd.prog w = .ok true w := by
    unfold isAgg
    rcases T.und with ⟨k, e, h1⟩ | ⟨fs, h1⟩
    · rw [Sem.run_bind, run_underlying h1 w]; simp
    · rw [Sem.run_bind, run_underlying h1 w]; simp
  cases hq : Tryd.prog.info? ty with
  | none => have := T.size; rw [hq] at this; cases this
  | some i =>
    have hs : i.size = n := by have := T.size; rw [hq] at this; simpa using this
    simp [loadVar, Sem.run_bind, hagg, sizeOf, typeInfo, hq, hs, hl]
theorem run_storeVar_seg {ty n : Nat} (T : ArrT ty n) (w : World) (g off : Nat) (c vs : Array Value) (hg : row? w g = some c) (hn : off + n ≤ c.size) (hv : vs.size = n) (h1 : vs.all (·.oneCell') = true) :
    (storeVar ty ⟨g, off, none⟩ (.agg vs)).run Tryd.prog w = .ok () (w.setRow g (splice c off vs)) := by
  obtain ⟨t, ht⟩ := row?_some hg
  have := run_storeCells_at (P := Tryd.prog) g off t vs.toList 0 c w ht (by simp; omega) (fun v hv => (Array.all_eq_true_iff_forall_mem.1 h1) v (by simpa using hv))
  have e : (c.toList.take (off + 0) ++ vs.toList ++ c.toList.drop (off + 0 + vs.toList.length)).toArray = splice c off vs := by
    unfold splice
    apply Array.toList_inj.1
    simp only [Array.toList_append, Array.toList_extract, List.extract_eq_take_drop, Nat.add_zero, Nat.sub_zero, List.drop_zero, Array.length_toList]
    congr 1
    rw [List.take_of_length_le (by simp)]
  rw [e] at this
  cases hq : Tryd.prog.info? ty with
  | none => have := T.size; rw [hq] at this; cases this
  | some i =>
    have hs : n = i.size := by have := T.size; rw [hq] at this; simpa using this.symm
    simp [storeVar, sizeOf, typeInfo, hq, Value.cells, hv, ← hs, this]
section
variable {ops : Array Oper} {rest : List Oper} {a : Act} {w : World} {Q : Exit → Act → World → Prop} {d : Option Tmp} {t0 : TypeId} {ps : String} {af : Array Edge}
theorem wpList_load_arr {ty n : Nat} (T : ArrT ty n) {x : Operand} (h1 : (seg w (a.eval x) n).isSome = true)
    (h : wpList Tryd.prog ops Q rest (a.put d (.agg ((seg w (a.eval x) n).getD #[]))) w) : wpList Tryd.prog ops Q ({ dst := d, op := .load ty x, type := t0, pos := ps, after := af, guard := none } :: rest) a w := by
  refine wpList_plain rfl fun K hK => ?_
  unfold seg at h1 h
  split at h1
  · rename_i g off he
    cases hr : row? w g with
    | none => rw [hr] at h1; simp at h1
    | some c =>
      by_cases hc : off + n ≤ c.size
      · simp only [he, hr, Option.bind_some, hc, if_true, Option.getD_some] at h
        unfold Oper.wp execOp
        simp only [he, Instr.loadAt, Instr.sureAddr, Sem.run_bind, Sem.run_pure, Result.andThen_ok, run_loadVar_seg T w g off c hr hc]
        exact hK _ _ h
      · rw [hr] at h1; simp [hc] at h1
  · simp at h1
theorem wpList_load_arr_g {ty n : Nat} (T : ArrT ty n) {x : Operand} {gb : Nat × Bool} (hw : Region.wanted { dst := d, op := .load ty x, type := t0, pos := ps, after := af, guard := some gb } (yielded ops a.tmps) = true) (h1 : (seg w (a.eval x) n).isSome = true)
    (h : wpList Tryd.prog ops Q rest (a.put d (.agg ((seg w (a.eval x) n).getD #[]))) w) : wpList Tryd.prog ops Q ({ dst := d, op := .load ty x, type := t0, pos := ps, after := af, guard := some gb } :: rest) a w := by
  refine wpList_step fun K hK => ?_
  rw [if_pos hw]
  unfold seg at h1 h
  split at h1
  · rename_i g off he
    cases hr : row? w g with
    | none => rw [hr] at h1; simp at h1
    | some c =>
      by_cases hc : off + n ≤ c.size
      · simp only [he, hr, Option.bind_some, hc, if_true, Option.getD_some] at h
        unfold Oper.wp execOp
        simp only [he, Instr.loadAt, Instr.sureAddr, Sem.run_bind, Sem.run_pure, Result.andThen_ok, run_loadVar_seg T w g off c hr hc]
        exact hK _ _ h
      · rw [hr] at h1; simp [hc] at h1
  · simp at h1
theorem wpList_store_arr {ty n : Nat} (T : ArrT ty n) {x y : Operand} {vs : Array Value} (hy : a.eval y = .agg vs) (h1 : (seg w (a.eval x) n).isSome = true) (hv : vs.size = n) (h2 : vs.all (·.oneCell') = true)
    (h : wpList Tryd.prog ops Q rest (a.put d undef) (putSeg w (a.eval x) vs)) : wpList Tryd.prog ops Q ({ dst := d, op := .store ty x y, type := t0, pos := ps, after := af, guard := none } :: rest) a w := by
  refine wpList_plain rfl fun K hK => ?_
  unfold seg at h1
  split at h1
  · rename_i g off he
    cases hr : row? w g with
    | none => rw [hr] at h1; simp at h1
    | some c =>
      by_cases hc : off + n ≤ c.size
      · simp only [he, putSeg, hr, Option.getD_some] at h
        unfold Oper.wp execOp
        simp only [he, hy, Instr.storeAt, Instr.sureAddr, Sem.run_bind, Sem.run_pure, Result.andThen_ok, run_storeVar_seg T w g off c vs hr hc hv h2]
        exact hK _ _ h
      · rw [hr] at h1; simp [hc] at h1
  · simp at h1
end
theorem wpList_alloc_val {ty : Nat} {z : Value} (hz : (Tryd.prog.info? ty).map (·.zero) = some (some z)) {ops : Array Oper} {rest : List Oper} {a : Act} {w : World} {Q : Exit → Act → World → Prop} {d : Option Tmp} {t0 : TypeId} {ps : String} {af : Array Edge}
    (h : wpList Tryd.prog ops Q rest (a.put d (.pointer (some ⟨w.heap.size, 0, none⟩))) (w.alloc (.cells z.cells ty))) : wpList Tryd.prog ops Q ({ dst := d, op := .alloc ty, type := t0, pos := ps, after := af, guard := none } :: rest) a w := by
  refine wpList_plain rfl fun K hK => ?_
  cases hq : Tryd.prog.info? ty with
  | none => rw [hq] at hz; cases hz
  | some i =>
    have hz' : i.zero = some z := by rw [hq] at hz; simpa using hz
    unfold Oper.wp execOp
    simp [Instr.alloc, zeroValue, typeInfo, hq, hz', newVar, newRow]
    exact hK _ _ h
theorem zeroMat : (Tryd.prog.info? 29).map (·.zero) = some (some (.agg (encM fun _ => 0#64))) := by rw [encM_zero]; kernel_rfl
theorem zeroOrder : (Tryd.prog.info? 31).map (·.zero) = some (some (.agg (encO fun _ => 0))) := by rw [encO_zero]; kernel_rfl

theorem below1 (w : World) (A : Obj) : Below w.heap.size w (w.alloc A) := (Below.refl _ _).alloc (Nat.le_refl _) A
theorem below2 (w : World) (A B : Obj) : Below w.heap.size w ((w.alloc A).alloc B) := (below1 w A).alloc (by simp) B
theorem below3 (w : World) (A B C : Obj) : Below w.heap.size w (((w.alloc A).alloc B).alloc C) := (below2 w A B).alloc (by simp; omega) C
theorem below4 (w : World) (A B C D : Obj) : Below w.heap.size w ((((w.alloc A).alloc B).alloc C).alloc D) := (below3 w A B C).alloc (by simp; omega) D

/-! ### what a body hands back -/
theorem run_load_seg {ty n : Nat} (T : ArrT ty n) (w : World) (g : Nat) (cs : Array Value) (hs : seg w (.pointer (some ⟨g, 0, none⟩)) n = some cs) :
    (loadVar ty ⟨g, 0, none⟩).run Tryd.prog w = .ok (.agg cs) w := by
  rw [seg_at] at hs
  cases hr : row? w g with
  | none => rw [hr] at hs; simp at hs
  | some c =>
    rw [hr, Option.bind_some] at hs
    split at hs
    · rename_i hc
      have hs' : c.extract 0 (0 + n) = cs := Option.some.inj hs
      subst hs'
      exact run_loadVar_seg T w g 0 c hr hc
    · cases hs
theorem res_c {fn : Func} {p : Tmp} {ty n : Nat} (T : ArrT ty n) (h : fn.results = #[.cell p ty]) (tmps : Array Value) (w : World) {g : Nat} {cs : Array Value}
    (hp : tmps.getD p undef = .pointer (some ⟨g, 0, none⟩)) (hg : seg w (.pointer (some ⟨g, 0, none⟩)) n = some cs) : (results fn tmps).run Tryd.prog w = .ok (.agg cs) w := by
  have hl := run_load_seg T w g cs hg
  have hp' : tmps[p]?.getD undef = .pointer (some ⟨g, 0, none⟩) := by simpa using hp
  simp [results, h, hp', asAddr, hl]
theorem res_ct {fn : Func} {p u : Tmp} {ty n : Nat} (T : ArrT ty n) (h : fn.results = #[.cell p ty, .tmp u]) (tmps : Array Value) (w : World) {g : Nat} {cs : Array Value} {v : Value}
    (hp : tmps.getD p undef = .pointer (some ⟨g, 0, none⟩)) (hv : tmps.getD u undef = v) (hg : seg w (.pointer (some ⟨g, 0, none⟩)) n = some cs) : (results fn tmps).run Tryd.prog w = .ok (.tuple #[.agg cs, v]) w := by
  have hl := run_load_seg T w g cs hg
  have hp' : tmps[p]?.getD undef = .pointer (some ⟨g, 0, none⟩) := by simpa using hp
  have hv' : tmps[u]?.getD undef = v := by simpa using hv
  simp [results, h, hp', hv', asAddr, hl]
theorem res_ctt {fn : Func} {p u u2 : Tmp} {ty n : Nat} (T : ArrT ty n) (h : fn.results = #[.cell p ty, .tmp u, .tmp u2]) (tmps : Array Value) (w : World) {g : Nat} {cs : Array Value} {v v2 : Value}
    (hp : tmps.getD p undef = .pointer (some ⟨g, 0, none⟩)) (hv : tmps.getD u undef = v) (hv2 : tmps.getD u2 undef = v2) (hg : seg w (.pointer (some ⟨g, 0, none⟩)) n = some cs) :
    (results fn tmps).run Tryd.prog w = .ok (.tuple #[.agg cs, v, v2]) w := by
  have hl := run_load_seg T w g cs hg
  have hp' : tmps[p]?.getD undef = .pointer (some ⟨g, 0, none⟩) := by simpa using hp
  have hv' : tmps[u]?.getD undef = v := by simpa using hv
  have hv2' : tmps[u2]?.getD undef = v2 := by simpa using hv2
  simp [results, h, hp', hv', hv2', asAddr, hl]
theorem res_cct {fn : Func} {p p2 u : Tmp} {ty ty2 n n2 : Nat} (T : ArrT ty n) (T2 : ArrT ty2 n2) (h : fn.results = #[.cell p ty, .cell p2 ty2, .tmp u]) (tmps : Array Value) (w : World) {g g2 : Nat} {cs cs2 : Array Value} {v : Value}
    (hp : tmps.getD p undef = .pointer (some ⟨g, 0, none⟩)) (hp2 : tmps.getD p2 undef = .pointer (some ⟨g2, 0, none⟩)) (hv : tmps.getD u undef = v) (hg : seg w (.pointer (some ⟨g, 0, none⟩)) n = some cs)
    (hg2 : seg w (.pointer (some ⟨g2, 0, none⟩)) n2 = some cs2) :
    (results fn tmps).run Tryd.prog w = .ok (.tuple #[.agg cs, .agg cs2, v]) w := by
  have hl := run_load_seg T w g cs hg
  have hl2 := run_load_seg T2 w g2 cs2 hg2
  have hp' : tmps[p]?.getD undef = .pointer (some ⟨g, 0, none⟩) := by simpa using hp
  have hp2' : tmps[p2]?.getD undef = .pointer (some ⟨g2, 0, none⟩) := by simpa using hp2
  have hv' : tmps[u]?.getD undef = v := by simpa using hv
  simp [results, h, hp', hp2', hv', asAddr, hl, hl2]
end Go.Proofs.YteclmkmemecckaaDoor
