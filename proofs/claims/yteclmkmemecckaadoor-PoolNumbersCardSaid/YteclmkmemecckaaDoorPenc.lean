/- How a pool stands in memory: a hundred cells. -/
import Derived.Test.YteclmkmemecckaaDoorPool
import Derived.Test.YteclmkmemecckaaDoorInv
import Derived.Test.YteclmkmemecckaaDoorEdge
namespace Go.Proofs.YteclmkmemecckaaDoor
open Go.RowKit Wb

def cellP (p : Pl) (k : Nat) : Value :=
  if k = 0 then ei p.size else if k < 33 then es (p.m (k - 1)) else if k < 65 then ei (p.o (k - 33)) else if k = 65 then es p.live else if k = 66 then es p.over else if k < 99 then ei (p.ids (k - 67)) else ei p.count
def encP (p : Pl) : Array Value := encA (cellP p) 100 id
theorem encP_size (p : Pl) : (encP p).size = 100 := encA_size _ _ _
theorem encP_at (p : Pl) {k : Nat} (h : k < 100) : (encP p)[k]? = some (cellP p k) := encA_get _ _ _ _ h
theorem cellP_one (p : Pl) (k : Nat) : (cellP p k).oneCell' = true := by unfold cellP; (repeat' split) <;> rfl
theorem cellP_congr {p q : Pl} (k : Nat) (h0 : k = 0 → q.size = p.size) (hm : 1 ≤ k → k < 33 → q.m (k - 1) = p.m (k - 1)) (ho : 33 ≤ k → k < 65 → q.o (k - 33) = p.o (k - 33)) (hl : k = 65 → q.live = p.live) (hv : k = 66 → q.over = p.over)
    (hi : 67 ≤ k → k < 99 → q.ids (k - 67) = p.ids (k - 67)) (hc : 99 ≤ k → q.count = p.count) : cellP q k = cellP p k := by
  unfold cellP
  by_cases a0 : k = 0
  · rw [if_pos a0, if_pos a0, h0 a0]
  rw [if_neg a0, if_neg a0]
  by_cases a1 : k < 33
  · rw [if_pos a1, if_pos a1, hm (by omega) a1]
  rw [if_neg a1, if_neg a1]
  by_cases a2 : k < 65
  · rw [if_pos a2, if_pos a2, ho (by omega) a2]
  rw [if_neg a2, if_neg a2]
  by_cases a3 : k = 65
  · rw [if_pos a3, if_pos a3, hl a3]
  rw [if_neg a3, if_neg a3]
  by_cases a4 : k = 66
  · rw [if_pos a4, if_pos a4, hv a4]
  rw [if_neg a4, if_neg a4]
  by_cases a5 : k < 99
  · rw [if_pos a5, if_pos a5, hi (by omega) a5]
  rw [if_neg a5, if_neg a5, hc (by omega)]
theorem cellP_mat (p : Pl) {k : Nat} (h : k < 32) : cellP p (1 + k) = es (p.m k) := by
  unfold cellP; rw [if_neg (by omega), if_pos (by omega), show 1 + k - 1 = k by omega]
theorem cellP_order (p : Pl) {k : Nat} (h : k < 32) : cellP p (33 + k) = ei (p.o k) := by
  unfold cellP; rw [if_neg (by omega), if_neg (by omega), if_pos (by omega), show 33 + k - 33 = k by omega]
theorem cellP_ids (p : Pl) {k : Nat} (h : k < 32) : cellP p (67 + k) = ei (p.ids k) := by
  unfold cellP
  rw [if_neg (by omega), if_neg (by omega), if_neg (by omega), if_neg (by omega), if_neg (by omega), if_pos (by omega), show 67 + k - 67 = k by omega]
theorem encP_all (p : Pl) : (encP p).all (·.oneCell') = true := encA_all _ _ _ fun k => cellP_one p k
theorem encP_ext {p : Pl} {c : Array Value} (hs : c.size = 100) (h : ∀ k, k < 100 → c[k]? = some (cellP p k)) : c = encP p := by
  apply Array.ext_getElem?
  intro k
  by_cases hk : k < 100
  · rw [h k hk, encP_at p hk]
  · rw [Array.getElem?_eq_none (by omega), Array.getElem?_eq_none (by rw [encP_size]; omega)]
attribute [go_sem] encP_size
@[go_sem] theorem encP_get_size (p : Pl) : (encP p)[0]? = some (.int .i64 p.size) := encP_at p (by decide)
@[go_sem] theorem encP_get_live (p : Pl) : (encP p)[65]? = some (.int .u64 (sv p.live)) := encP_at p (by decide)
@[go_sem] theorem encP_get_over (p : Pl) : (encP p)[66]? = some (.int .u64 (sv p.over)) := encP_at p (by decide)
@[go_sem] theorem encP_get_count (p : Pl) : (encP p)[99]? = some (.int .i64 p.count) := encP_at p (by decide)
@[go_sem] theorem encP_get_ids (p : Pl) (i : Nat) (h : i < 32) : (encP p)[67 + i]? = some (.int .i64 (p.ids i)) := by rw [encP_at p (by omega), cellP_ids p h]; rfl
@[go_sem] theorem encP_ge_size (p : Pl) (h : 0 < (encP p).size) : (encP p)[0] = .int .i64 p.size := by
  have := encP_get_size p; rw [Array.getElem?_eq_getElem h] at this; exact Option.some.inj this
@[go_sem] theorem encP_ge_live (p : Pl) (h : 65 < (encP p).size) : (encP p)[65] = .int .u64 (sv p.live) := by
  have := encP_get_live p; rw [Array.getElem?_eq_getElem h] at this; exact Option.some.inj this
@[go_sem] theorem encP_ge_over (p : Pl) (h : 66 < (encP p).size) : (encP p)[66] = .int .u64 (sv p.over) := by
  have := encP_get_over p; rw [Array.getElem?_eq_getElem h] at this; exact Option.some.inj this
@[go_sem] theorem encP_ge_count (p : Pl) (h : 99 < (encP p).size) : (encP p)[99] = .int .i64 p.count := by
  have := encP_get_count p; rw [Array.getElem?_eq_getElem h] at this; exact Option.some.inj this
@[go_sem] theorem encP_ge_ids (p : Pl) (i : Nat) (hi : i < 32) (h : 67 + i < (encP p).size) : (encP p)[67 + i] = .int .i64 (p.ids i) := by
  have := encP_get_ids p i hi; rw [Array.getElem?_eq_getElem h] at this; exact Option.some.inj this
theorem encP_set {p q : Pl} {i : Nat} {v : Value} (hi : i < 100) (hv : cellP q i = v) (h : ∀ k, k < 100 → k ≠ i → cellP q k = cellP p k) : (encP p).setIfInBounds i v = encP q := by
  refine encP_ext (by simp [encP_size]) fun k hk => ?_
  by_cases e : i = k
  · subst e
    rw [Array.getElem?_setIfInBounds_self_of_lt (by rw [encP_size]; exact hi), hv]
  · rw [Array.getElem?_setIfInBounds_ne e, encP_at p hk, h k hk (Ne.symm e)]
@[go_sem] theorem encP_set_live (p : Pl) (s : S) : (encP p).setIfInBounds 65 (.int .u64 (sv s)) = encP { p with live := s } :=
  encP_set (by decide) rfl fun k _ hne => cellP_congr k (fun _ => rfl) (fun _ _ => rfl) (fun _ _ => rfl) (fun h => absurd h hne) (fun _ => rfl) (fun _ _ => rfl) (fun _ => rfl)
@[go_sem] theorem encP_set_over (p : Pl) (s : S) : (encP p).setIfInBounds 66 (.int .u64 (sv s)) = encP { p with over := s } :=
  encP_set (by decide) rfl fun k _ hne => cellP_congr k (fun _ => rfl) (fun _ _ => rfl) (fun _ _ => rfl) (fun _ => rfl) (fun h => absurd h hne) (fun _ _ => rfl) (fun _ => rfl)
@[go_sem] theorem encP_set_count (p : Pl) (n : Int) : (encP p).setIfInBounds 99 (.int .i64 n) = encP { p with count := n } :=
  encP_set (by decide) rfl fun k hk hne => cellP_congr k (fun _ => rfl) (fun _ _ => rfl) (fun _ _ => rfl) (fun _ => rfl) (fun _ => rfl) (fun _ _ => rfl) (fun h => by omega)
@[go_sem] theorem encP_set_ids (p : Pl) (i : Nat) (n : Int) (h : i < 32) : (encP p).setIfInBounds (67 + i) (.int .i64 n) = encP { p with ids := upd p.ids i n } := by
  refine encP_set (by omega) ?_ fun k hk hne => cellP_congr k (fun _ => rfl) (fun _ _ => rfl) (fun _ _ => rfl) (fun _ => rfl) (fun _ => rfl) (fun h1 _ => ?_) (fun _ => rfl)
  · rw [cellP_ids _ h]
    show ei (upd p.ids i n i) = _
    rw [upd_same]; rfl
  · show upd p.ids i n (k - 67) = _
    exact upd_other _ _ (by omega)
theorem encP_extract_mat (p : Pl) : (encP p).extract 1 (1 + 32) = encM p.m := by
  apply Array.ext_getElem?
  intro k
  rw [Array.getElem?_extract]
  by_cases hk : k < 32
  · rw [if_pos (by rw [encP_size]; omega), encP_at p (by omega), encM_get _ _ hk, cellP_mat p hk]; rfl
  · rw [if_neg (by rw [encP_size]; omega), Array.getElem?_eq_none (by rw [encM_size]; omega)]
theorem encP_extract_order (p : Pl) : (encP p).extract 33 (33 + 32) = encO p.o := by
  apply Array.ext_getElem?
  intro k
  rw [Array.getElem?_extract]
  by_cases hk : k < 32
  · rw [if_pos (by rw [encP_size]; omega), encP_at p (by omega), encO_get _ _ hk, cellP_order p hk]; rfl
  · rw [if_neg (by rw [encP_size]; omega), Array.getElem?_eq_none (by rw [encO_size]; omega)]
theorem encP_extract_ids (p : Pl) : (encP p).extract 67 (67 + 32) = encO p.ids := by
  apply Array.ext_getElem?
  intro k
  rw [Array.getElem?_extract]
  by_cases hk : k < 32
  · rw [if_pos (by rw [encP_size]; omega), encP_get_ids p k hk, encO_get _ _ hk]
  · rw [if_neg (by rw [encP_size]; omega), Array.getElem?_eq_none (by rw [encO_size]; omega)]
@[go_sem] theorem encP_extract_mat' (p : Pl) : (encP p).extract 1 33 = encM p.m := encP_extract_mat p
@[go_sem] theorem encP_extract_order' (p : Pl) : (encP p).extract 33 65 = encO p.o := encP_extract_order p
@[go_sem] theorem encP_extract_ids' (p : Pl) : (encP p).extract 67 99 = encO p.ids := encP_extract_ids p
@[go_sem] theorem encP_extract (p : Pl) : (encP p).extract 0 100 = encP p := extract_all _ _ (encP_size p)
theorem splice_get {c vs : Array Value} {off k : Nat} (h : off + vs.size ≤ c.size) : (splice c off vs)[k]? = if k < off then c[k]? else if k < off + vs.size then vs[k - off]? else c[k]? := by
  unfold splice
  have hl : (c.extract 0 off).size = off := by simp; omega
  have hl2 : (c.extract 0 off ++ vs).size = off + vs.size := by rw [Array.size_append, hl]
  by_cases h1 : k < off
  · rw [Array.getElem?_append_left (by rw [hl2]; omega), Array.getElem?_append_left (by rw [hl]; exact h1), Array.getElem?_extract, if_pos (by omega), if_pos h1, Nat.zero_add]
  · rw [if_neg h1]
    by_cases h2 : k < off + vs.size
    · rw [Array.getElem?_append_left (by rw [hl2]; exact h2), Array.getElem?_append_right (by rw [hl]; omega), hl, if_pos h2]
    · rw [Array.getElem?_append_right (by rw [hl2]; omega), hl2, if_neg h2, Array.getElem?_extract]
      by_cases h3 : k < c.size
      · rw [if_pos (by omega)]; congr 1; omega
      · rw [if_neg (by omega), Array.getElem?_eq_none (by omega)]
theorem splice_size {c vs : Array Value} {off : Nat} (h : off + vs.size ≤ c.size) : (splice c off vs).size = c.size := by
  unfold splice; simp; omega
@[go_sem] theorem splice_encP_mat (p : Pl) (m : M) : splice (encP p) 1 (encM m) = encP { p with m := m } := by
  refine encP_ext (by rw [splice_size (by rw [encP_size, encM_size]; omega), encP_size]) fun k hk => ?_
  rw [splice_get (by rw [encP_size, encM_size]; omega), encM_size, encP_at p hk]
  by_cases h2 : 1 ≤ k ∧ k < 33
  · obtain ⟨j, rfl⟩ : ∃ j, k = 1 + j := ⟨k - 1, by omega⟩
    rw [if_neg (by omega), if_pos (by omega), encM_get _ _ (by omega), cellP_mat _ (by omega), show 1 + j - 1 = j by omega]; rfl
  · have e := cellP_congr (p := p) (q := { p with m := m }) k (fun _ => rfl) (fun h h' => absurd ⟨h, h'⟩ h2) (fun _ _ => rfl) (fun _ => rfl) (fun _ => rfl) (fun _ _ => rfl) (fun _ => rfl)
    rw [e]
    by_cases h1 : k < 1
    · rw [if_pos h1]
    · rw [if_neg h1, if_neg (by omega)]
@[go_sem] theorem splice_encP_order (p : Pl) (o : O) : splice (encP p) 33 (encO o) = encP { p with o := o } := by
  refine encP_ext (by rw [splice_size (by rw [encP_size, encO_size]; omega), encP_size]) fun k hk => ?_
  rw [splice_get (by rw [encP_size, encO_size]; omega), encO_size, encP_at p hk]
  by_cases h2 : 33 ≤ k ∧ k < 65
  · obtain ⟨j, rfl⟩ : ∃ j, k = 33 + j := ⟨k - 33, by omega⟩
    rw [if_neg (by omega), if_pos (by omega), encO_get _ _ (by omega), cellP_order _ (by omega), show 33 + j - 33 = j by omega]; rfl
  · have e := cellP_congr (p := p) (q := { p with o := o }) k (fun _ => rfl) (fun _ _ => rfl) (fun h h' => absurd ⟨h, h'⟩ h2) (fun _ => rfl) (fun _ => rfl) (fun _ _ => rfl) (fun _ => rfl)
    rw [e]
    by_cases h1 : k < 33
    · rw [if_pos h1]
    · rw [if_neg h1, if_neg (by omega)]
@[go_sem] theorem splice_encP (p q : Pl) : splice (encP p) 0 (encP q) = encP q := splice_all _ _ (by rw [encP_size, encP_size])
theorem arrPool : ArrT 54 100 := ⟨.inr ⟨_, Tryd.underlying54⟩, by kernel_rfl⟩
theorem arrRPool : ArrT 58 100 := ⟨.inr ⟨_, Tryd.underlying58⟩, by kernel_rfl⟩
set_option maxRecDepth 10000 in
theorem zeroPool : (Tryd.prog.info? 54).map (·.zero) = some (some (.agg (encP Pl.none))) := by kernel_rfl
set_option maxRecDepth 10000 in
theorem zeroRPool : (Tryd.prog.info? 58).map (·.zero) = some (some (.agg (encP Pl.none))) := by kernel_rfl
/-! ### one cell written, as a row -/
theorem run_storeVar_one {ty : Nat} (hs : (Tryd.prog.info? ty).map (·.size) = some 1) (w : World) (g off : Nat) (c : Array Value) (v : Value) (hg : row? w g = some c) (hn : off < c.size) (hv : v.cells = #[v]) (h1 : v.oneCell' = true) :
    (storeVar ty ⟨g, off, none⟩ v).run Tryd.prog w = .ok () (w.setRow g (c.setIfInBounds off v)) := by
  obtain ⟨t, ht⟩ := row?_some hg
  have := run_storeCells_at (P := Tryd.prog) g off t [v] 0 c w ht (by simp; omega) (fun x hx => by simp at hx; subst hx; exact h1)
  have e : (c.toList.take (off + 0) ++ [v] ++ c.toList.drop (off + 0 + [v].length)).toArray = c.setIfInBounds off v := by
    apply Array.toList_inj.1
    rw [Array.toList_setIfInBounds, List.set_eq_take_append_cons_drop, if_pos (by simpa using hn)]
    simp
  rw [e] at this
  cases hq : Tryd.prog.info? ty with
  | none => rw [hq] at hs; cases hs
  | some i =>
    have hs' : i.size = 1 := by rw [hq] at hs; simpa using hs
    simp [storeVar, sizeOf, typeInfo, hq, hv, hs', this]
theorem oneSet : (Tryd.prog.info? 27).map (·.size) = some 1 := by kernel_rfl
theorem oneU64 : (Tryd.prog.info? 26).map (·.size) = some 1 := by kernel_rfl
theorem oneInt : (Tryd.prog.info? 3).map (·.size) = some 1 := by kernel_rfl
section
variable {ops : Array Oper} {rest : List Oper} {a : Act} {w : World} {Q : Exit → Act → World → Prop} {d : Option Tmp} {t0 : TypeId} {ps : String} {af : Array Edge}
theorem wpList_store_one {ty g off : Nat} {c : Array Value} {v : Value} (hs : (Tryd.prog.info? ty).map (·.size) = some 1) {x y : Operand} (hg : row? w g = some c) (hx : a.eval x = .pointer (some ⟨g, off, none⟩)) (hy : a.eval y = v) (hn : off < c.size) (hv : v.cells = #[v]) (h1 : v.oneCell' = true)
    (h : wpList Tryd.prog ops Q rest (a.put d undef) (w.setRow g (c.setIfInBounds off v))) : wpList Tryd.prog ops Q ({ dst := d, op := .store ty x y, type := t0, pos := ps, after := af, guard := none } :: rest) a w := by
  refine wpList_plain rfl fun K hK => ?_
  have hl := run_storeVar_one hs w g off c v hg hn hv h1
  unfold Oper.wp execOp
  simp only [hx, hy, Instr.storeAt, Instr.sureAddr, Sem.run_bind, Sem.run_pure, Result.andThen_ok, hl]
  exact hK _ _ h
variable {K : Act → World → Prop} {i : Nat}
theorem wpOp_store_one {ty g off : Nat} {c : Array Value} {v : Value} (hs : (Tryd.prog.info? ty).map (·.size) = some 1) {x y : Operand} (ho : ops[i]? = some { dst := d, op := .store ty x y, type := t0, pos := ps, after := af, guard := none })
    (hx : a.eval x = .pointer (some ⟨g, off, none⟩)) (hy : a.eval y = v) (hg : row? w g = some c) (hn : off < c.size) (hv : v.cells = #[v]) (h1 : v.oneCell' = true)
    (h : K (a.put d undef) (w.setRow g (c.setIfInBounds off v))) : wpOp Tryd.prog ops Q i K a w := by
  refine wpOp_step ho fun K' hK => ?_
  rw [if_pos (show Region.wanted _ _ = true by simp [Region.wanted])]
  have hl := run_storeVar_one hs w g off c v hg hn hv h1
  unfold Oper.wp execOp
  simp only [hx, hy, Instr.storeAt, Instr.sureAddr, Sem.run_bind, Sem.run_pure, Result.andThen_ok, hl]
  exact hK _ _ h
end
section
variable {w : World}
@[go_sem] theorem row?_setRow_self (cs : Array Value) (n : Nat) (h : (row? w n).isSome = true) : row? (w.setRow n cs) n = some cs := by
  cases hr : row? w n with
  | none => rw [hr] at h; cases h
  | some c => exact row?_setRow_same _ _ _ hr
@[go_sem] theorem row?_setRow_ne (cs : Array Value) (n k : Nat) (h : k ≠ n) : row? (w.setRow n cs) k = row? w k := row?_setRow_other cs n k h
@[go_sem] theorem setRow_setRow (a b : Array Value) (n : Nat) : (w.setRow n a).setRow n b = w.setRow n b := by
  unfold World.setRow
  congr 1
  apply Array.ext_getElem?
  intro k
  simp only [Array.getElem?_modify]
  split
  · cases w.heap[k]? with
    | none => rfl
    | some o => cases o <;> rfl
  · rfl
@[go_sem] theorem cell?_setRow_self (cs : Array Value) (n i : Nat) (h : (row? w n).isSome = true) : (w.setRow n cs).cell? ⟨n, i, none⟩ = cs[i]? := row?_cell (row?_setRow_self cs n h) i
end
section
variable {w : World} {g i : Nat}
/-- One cell of a row that is known whole: read, not frozen, written. -/
@[go_sem] theorem cell?_of_row? (h : (row? w g).isSome = true) : w.cell? ⟨g, i, none⟩ = ((row? w g).getD #[])[i]? := by
  cases hr : row? w g with
  | none => rw [hr] at h; cases h
  | some c => exact row?_cell hr i
@[go_sem] theorem frozen?_of_row? (h : (row? w g).isSome = true) : w.frozen? ⟨g, i, none⟩ = false := by
  cases hr : row? w g with
  | none => rw [hr] at h; cases h
  | some c => exact row?_free hr i
@[go_sem] theorem setCell_of_row? {v : Value} (h : (row? w g).isSome = true) : w.setCell ⟨g, i, none⟩ v = w.setRow g (((row? w g).getD #[]).setIfInBounds i v) := by
  cases hr : row? w g with
  | none => rw [hr] at h; cases h
  | some c =>
    obtain ⟨t, ht⟩ := row?_some hr
    unfold World.setRow World.setCell
    congr 1
    apply Array.ext_getElem?
    intro k
    simp only [Array.getElem?_modify]
    by_cases hk : g = k
    · subst hk
      simp only [if_true, ht, Option.map_some, Option.getD_some]
      rfl
    · simp only [hk, if_false]
end
/-- The cells of a pool that are read one by one. -/
theorem pool_cells {w : World} {g : Nat} {p : Pl} (h : row? w g = some (encP p)) : w.cell? ⟨g, 0, none⟩ = some (.int .i64 p.size) ∧ w.cell? ⟨g, 65, none⟩ = some (.int .u64 (sv p.live)) ∧ w.cell? ⟨g, 66, none⟩ = some (.int .u64 (sv p.over)) ∧ w.cell? ⟨g, 99, none⟩ = some (.int .i64 p.count) :=
  ⟨(row?_cell h 0).trans (encP_get_size p), (row?_cell h 65).trans (encP_get_live p), (row?_cell h 66).trans (encP_get_over p), (row?_cell h 99).trans (encP_get_count p)⟩
theorem pool_ids {w : World} {g : Nat} {p : Pl} (h : row? w g = some (encP p)) (i : Nat) (hi : i < 32) : w.cell? ⟨g, 67 + i, none⟩ = some (.int .i64 (p.ids i)) := (row?_cell h _).trans (encP_get_ids p i hi)
end Go.Proofs.YteclmkmemecckaaDoor
