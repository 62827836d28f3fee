/- The walks of package topo: New, Right, Sorted. -/
import Derived.Test.YteclmkmemecckaaDoorExt
import Derived.Test.YteclmkmemecckaaDoorWmat
import Derived.Deep.CutRange
namespace Go.Proofs.YteclmkmemecckaaDoor
open Go.RowKit Wb

def newTo (k : Nat) : O := fun i => if i < k then (i : Int) else 0
theorem newTo_step (k : Nat) : upd (newTo k) k (k : Int) = newTo (k + 1) := by
  funext i
  unfold upd newTo
  by_cases h : i = k
  · subst h; simp
  · have : i < k + 1 ↔ i < k := by omega
    simp [h, this]
theorem newTo_all : encO (newTo 32) = encO newO := encA_ext _ _ _ _ fun i hi => by simp [newTo, newO, hi]
set_option maxHeartbeats 1000000 in
theorem new_any (w : World) :
    Calls Tryd.prog 15 #[] w fun e w' => e = .returned (.agg (encO newO)) ∧ Below w.heap.size w w' := by
  go_enter Tryd.func15, Tryd.ntmps15
  go_wp2_with (first | (with_reducible refine wpList_alloc_val zeroOrder ?_))
  go_loopw [2] (fun i wr => ∃ k : Nat, k ≤ 32 ∧ i = .int .i64 k ∧ wr = w.alloc (.cells (encO (newTo k)) 31)) (fun i _ => 32 - (intOf i).toNat)
  case atStart => exact ⟨0, Nat.zero_le _, rfl, rfl⟩
  case round =>
    obtain ⟨k, hk, rfl, rfl⟩ := hrel
    by_cases hlt : k < 32
    · have hs := Lib.hid (newTo_step k)
      go_wp2
      go_roundw
      case rel => exact ⟨k + 1, by omega, by go_num, by rw [← hs.out]⟩
      case measure => simp [intOf]; omega
    · have hk32 : k = 32 := by omega
      subst hk32
      have hs : Hid (encO (newTo 32) = encO newO) := newTo_all
      generalize newTo 32 = o at *
      go_wp2_with (first | ((with_reducible refine wpList_load_arr arrOrder ?_ ?_); go_simp; go_simp) | ((with_reducible refine wpList_store_arr arrOrder (vs := encO o) ?_ ?_ (encO_size _) (encO_all _) ?_); exact rfl; go_simp; go_simp))
      exact bodyPost_ret (res_c arrOrder (cs := encO o) rfl _ _ rfl (by go_simp)) rfl ⟨by rw [hs.out], below1 _ _⟩

theorem cells_of_row {w : World} {g : Nat} {o : O} (h : row? w g = some (encO o)) : ∀ j x, ((List.range 32).map o)[j]? = some x → w.cell? ⟨g, 0 + j, none⟩ = some (.int .i64 x) := by
  intro j x hx
  rw [row?_cell h, Nat.zero_add]
  rw [List.getElem?_map, Option.map_eq_some_iff] at hx
  obtain ⟨i, hi, rfl⟩ := hx
  rw [List.getElem?_eq_some_iff] at hi
  obtain ⟨h1, h2⟩ := hi
  simp at h1 h2
  subst h2
  exact encO_get o j h1
set_option maxHeartbeats 1000000 in
theorem right_any (o : O) (w : World) :
    Calls Tryd.prog 18 #[.agg (encO o)] w fun e w' => e = .returned (.bool (right o)) ∧ Below w.heap.size w w' := by
  have hc := Lib.hid (cells_of_row (w := w.alloc (.cells (encO o) 31)) (g := w.heap.size) (o := o) (row?_alloc_at _ _ _ rfl))
  go_enter Tryd.func18, Tryd.ntmps18
  go_wp2_with (first | (go_at_call 19; refine (of_any _ _ _ _ ((List.range 32).map o) _ (by simp) (by omega) hc.out).mono ?_; rintro e w' ⟨rfl, rfl⟩))
  go_ret
  exact ⟨rfl, below1 _ _⟩

def sortedTo (m : M) (o : O) (k : Nat) : Bool := (List.range k).all (fun a => (items (outs m (a : Int))).all (fun b => !decide (o a ≥ o b.toNat)))
theorem sortedTo_step (m : M) (o : O) (k : Nat) : sortedTo m o (k + 1) = (sortedTo m o k && (items (outs m (k : Int))).all (fun b => !decide (o k ≥ o b.toNat))) := by
  unfold sortedTo; rw [List.range_succ, List.all_append]; simp
theorem sorted_to (m : M) (o : O) : sorted m o = (sortedTo m o 32 && right o) := rfl
theorem sortedTo_false {m : M} {o : O} {k : Nat} (hk : k < 32) (h : (items (outs m (k : Int))).all (fun b => !decide (o k ≥ o b.toNat)) = false) : sorted m o = false := by
  rw [sorted_to]
  have : sortedTo m o 32 = false := by
    unfold sortedTo
    rw [List.all_eq_false]
    exact ⟨k, by simp [hk], by rw [h]; simp⟩
  rw [this]; rfl
theorem take_all_step {α : Type} (p : α → Bool) {l : List α} {j : Nat} {x : α} (hx : l[j]? = some x) (h : (l.take j).all p = true) : (l.take (j + 1)).all p = p x := by
  rw [take_snoc hx, List.all_append, h]; simp
theorem all_false_of {α : Type} (p : α → Bool) {l : List α} {j : Nat} {x : α} (hx : l[j]? = some x) (h : p x = false) : l.all p = false := by
  rw [List.all_eq_false]; exact ⟨x, List.mem_of_getElem? hx, by simp [h]⟩
set_option maxHeartbeats 4000000 in
set_option maxRecDepth 100000 in
theorem sorted_any (m : M) (o : O) (w : World) (hT : Tab w) :
    Calls Tryd.prog 22 #[.agg (encM m), .agg (encO o)] w fun e w' => e = .returned (.bool (sorted m o)) ∧ Below w.heap.size w w' := by
  have hT0 : Hid (Tab w) := hT
  clear hT
  go_enter Tryd.func22, Tryd.ntmps22
  go_wp2
  go_loopw [8] (fun i wr => ∃ (k : Nat) (r : Array Obj × Nat), k ≤ 32 ∧ i = .int .i64 k ∧ wr = ext ((w.alloc (.cells (encM m) 29)).alloc (.cells (encO o) 31)) r ∧ sortedTo m o k = true) (fun i _ => 32 - (intOf i).toNat)
  case atStart => exact ⟨0, _, Nat.zero_le _, rfl, self_is_ext _, rfl⟩
  case round =>
    obtain ⟨k, r, hk, rfl, rfl, hall⟩ := hrel
    have hAll := Lib.hid hall
    clear hall
    have hTr : Hid (Tab (ext ((w.alloc (.cells (encM m) 29)).alloc (.cells (encO o) 31)) r)) := Tab.ext ((hT0.out.alloc _).alloc _) r
    by_cases hlt : k < 32
    · go_wp2_with (first | (go_at_call 33; refine (outs_any _ _ _).mono ?_; rintro e w1 ⟨rfl, hb1⟩) | (go_at_call 32; refine (items_any _ _ (hTr.out.next hb1)).mono ?_; rintro e w2 ⟨v, rfl, hown, hb2⟩; have hlen := hown.len) | ((with_reducible refine wpList_load_arr arrMat ?_ ?_); go_simp; go_simp))
      have hsz1 := hb1.size
      have hsz2 := hb2.size
      simp only [ext_size, World.size_alloc] at hsz1 hsz2
      have hOr : row? w2 (w.heap.size + 1) = some (encO o) := by
        rw [row?_below hb2 (by omega), row?_below hb1 (by simp; omega)]; go_simp
      have hs2 : w.heap.size + 1 < w2.heap.size := by omega
      have hbw : Below w.heap.size w w2 := ((below2 w _ _).trans ((ext_below _ r).mono (by simp; omega))).trans ((hb1.mono (by simp; omega)).trans (hb2.mono (by omega)))
      have hOk := row?_cell hOr k
      rw [encO_get o k hlt] at hOk
      have hOR : Hid (row? w2 (w.heap.size + 1) = some (encO o)) := hOr
      have hBW : Hid (Below w.heap.size w w2) := hbw
      have hNodes : Hid (∀ x ∈ items (outs m (k : Int)), 0 ≤ x ∧ x < 32) := by
        intro x hx; rw [mem_items, outs_iff] at hx; exact hx.2.1
      have hB12 : Hid (∃ r', w2 = ext ((w.alloc (.cells (encM m) 29)).alloc (.cells (encO o) 31)) r') := by
        obtain ⟨r1, rfl⟩ := hb1.ext
        obtain ⟨r2, rfl⟩ := hb2.ext
        exact ⟨_, by rw [ext_ext, ext_ext]⟩
      clear hOr hbw hb1 hb2 hsz1 hsz2 hTr
      have hl64 := items_length (outs m (k : Int))
      generalize hL : items (outs m (k : Int)) = l at *
      have HL := Lib.hid hL
      clear hL
      have hOwn := Lib.hid hown
      clear hown
      go_loopw [16] (fun j wr => ∃ (q : Nat) (r : Array Obj × Nat), q ≤ l.length ∧ j = .int .i64 q ∧ wr = ext w2 r ∧ (l.take q).all (fun b => !decide (o k ≥ o b.toNat)) = true) (fun j _ => l.length - (intOf j).toNat)
      case atStart => exact ⟨0, _, Nat.zero_le _, rfl, self_is_ext _, by simp⟩
      case round =>
        obtain ⟨q, r', hq, rfl, rfl, hall'⟩ := hrel
        have hAll' := Lib.hid hall'
        clear hall'
        by_cases hql : q < l.length
        · obtain ⟨x, hx⟩ := at_lt hql
          have hx32 := hNodes.out x (List.mem_of_getElem? hx)
          obtain ⟨b, rfl⟩ : ∃ b : Nat, x = (b : Int) := ⟨x.toNat, by omega⟩
          have hb32 : b < 32 := by omega
          have hOb := row?_cell hOR.out b
          rw [encO_get o b hb32] at hOb
          rcases hOwn.out.open with ⟨_, hnil⟩ | ⟨g, cap, rfl, _, hg2, _, _, hcell⟩
          · exfalso; rw [hnil] at hql; simp at hql
          · have hcx := hcell q _ hx
            clear hlen hcell
            have hX := Lib.hid hx
            clear hx hx32
            by_cases hge : o k ≥ o b
            · have hfin : Hid (sorted m o = false) := by
                show _ = _
                refine sortedTo_false (k := k) (by omega) ?_
                rw [HL.out]
                exact all_false_of _ hX.out (by simp [hge])
              go_wp2
              go_quiet (fail)
              go_wp2
              go_ret
              exact ⟨by rw [hfin.out]; rfl, (hBW.out.trans ((ext_below w2 r').mono (by omega))).trans (by rw [drewN_is_ext]; exact (ext_below _ _).mono (by simp; omega))⟩
            · have hs : Hid ((l.take (q + 1)).all (fun b => !decide (o k ≥ o b.toNat)) = true) := by
                show _ = _
                rw [take_all_step _ hX.out hAll'.out]; simp only [Int.toNat_natCast]; simpa using hge
              have hge' : ¬ o b ≤ o k := hge
              clear hge
              go_wp2
              go_quiet (fail)
              go_wp2
              go_roundw
              case rel => exact ⟨q + 1, _, by omega, by go_num, by rw [drewN_is_ext, ext_ext], hs.out⟩
              case measure => simp [intOf]; omega
        · have hql' : q = l.length := by omega
          have hs : Hid (sortedTo m o (k + 1) = true) := by
            show _ = _
            rw [sortedTo_step, hAll.out, HL.out, ← List.take_length (l := l), ← hql', hAll'.out]; rfl
          clear hOwn hOk
          go_wp2
          obtain ⟨r2, hr2⟩ := hB12.out
          go_roundw
          case rel => exact ⟨k + 1, _, by omega, by go_num, by rw [hr2, ext_ext], hs.out⟩
          case measure => simp [intOf]; omega
    · have hk32 : k = 32 := by omega
      subst hk32
      have hfin : Hid (sorted m o = right o) := by show _ = _; rw [sorted_to, hAll.out]; rfl
      go_wp2_with (first | (go_at_call 18; refine (right_any _ _).mono ?_; rintro e w1 ⟨rfl, hb1⟩) | ((with_reducible refine wpList_load_arr arrOrder ?_ ?_); go_simp; go_simp))
      go_ret
      exact ⟨by rw [hfin.out]; rfl, ((below2 w _ _).trans ((ext_below _ r).mono (by simp; omega))).trans (hb1.mono (by simp; omega))⟩
/-! ### Row -/
def rowTo (o : O) : Nat → O
  | 0 => fun _ => 0
  | k + 1 => upd (rowTo o k) (o k).toNat (k : Int)
theorem rowTo_at {o : O} (h : Right o) : ∀ (k : Nat), k ≤ 32 → ∀ p, p < 32 → rowTo o k p = if atO o p < k then (atO o p : Int) else 0 := by
  intro k
  induction k with
  | zero => intro _ p _; simp [rowTo]
  | succ k ih =>
    intro hk p hp
    have ha := at_spec h hp
    rw [rowTo]
    by_cases e : p = (o k).toNat
    · have : atO o p = k := by rw [e]; exact at_of h (by omega)
      rw [← e, upd_same, this]; simp
    · rw [upd_other _ _ e, ih (by omega) p hp]
      have : atO o p ≠ k := fun e2 => e (by rw [← e2, ha.2]; simp)
      have h2 : atO o p < k + 1 ↔ atO o p < k := by omega
      simp [h2]
theorem rowTo_row {o : O} (h : Right o) : (List.range 32).map (rowTo o 32) = rowO o := by
  unfold rowO
  apply List.map_congr_left
  intro p hp
  have hp' := List.mem_range.1 hp
  rw [rowTo_at h 32 (by omega) p hp', if_pos (at_spec h hp').1]
theorem encO_toList (o : O) : (encO o).toList = ((List.range 32).map o).map (Value.int .i64) := by
  simp [encO, encA, ei, Function.comp_def]
theorem own_encO {w : World} {B g : Nat} {o : O} {t : Nat} (ht : t = 3) (hB : B ≤ g) (h : w.heap[g]? = some (.cells (encO o) t (0, 0))) : Own w B (.slice (some ⟨g, 0, none⟩) 32 32) ((List.range 32).map o) := by
  subst ht
  refine ⟨by simp, .inr ⟨g, 32, encO o, by simp, hB, h, by simp, by unfold maxLen; omega, encO_size o, ?_⟩⟩
  rw [encO_toList, List.take_of_length_le (by simp)]
theorem run_index_order (o : O) (k : Nat) (hk : k < 32) (w : World) : (Instr.index 31 (.agg (encO o)) (.int .i64 (k : Int))).run Tryd.prog w = .ok (.int .i64 (o k)) w := by
  have h1 : (0 : Int) ≤ (k : Int) ∧ (k : Int) < 32 := by omega
  simp [Instr.index, asIntOf, part, run_underlying Tryd.underlying31, h1, hk, go_sem]
theorem run_make32 (w : World) : (Instr.makeSlice 37 (.int .i64 32) (.int .i64 32)).run Tryd.prog w = .ok (.slice (some ⟨w.heap.size, 0, none⟩) 32 32) (w.alloc (.cells (encO (fun _ => 0)) 3)) := by
  rw [encO_zero]; kernel_rfl
set_option maxHeartbeats 1000000 in
set_option maxRecDepth 100000 in
theorem row_any (o : O) (w : World) :
    Calls Tryd.prog 17 #[.agg (encO o)] w fun e w' => ∃ v, e = .returned v ∧ Own w' w.heap.size v (row o) ∧ Below w.heap.size w w' := by
  cases hr : right o with
  | false =>
    have hfin : Hid (row o = []) := by show _ = _; unfold row; rw [hr]; rfl
    go_enter Tryd.func17, Tryd.ntmps17
    go_wp2_with (first | (go_at_call 18; refine (right_any _ _).mono ?_; rintro e w1 ⟨rfl, hb1⟩) | ((with_reducible refine wpList_load_arr arrOrder ?_ ?_); go_simp; go_simp))
    go_ret
    exact ⟨_, rfl, by rw [hfin.out]; exact Own.nil _ _, (below1 w _).trans (hb1.mono (by simp))⟩
  | true =>
    have hR := (right_iff o).1 hr
    have hfin : Hid (row o = (List.range 32).map (rowTo o 32)) := by show _ = _; rw [rowTo_row hR]; unfold row; rw [hr]; rfl
    have hR' := Lib.hid hR
    clear hR
    go_enter Tryd.func17, Tryd.ntmps17
    go_wp2_with (first | (go_at_call 18; refine (right_any _ _).mono ?_; rintro e w1 ⟨rfl, hb1⟩; obtain ⟨r1, rfl⟩ := hb1.ext; have hmk := run_make32) | ((with_reducible refine wpList_load_arr arrOrder ?_ ?_); go_simp; go_simp))
    clear hb1 hmk
    go_loopw [11] (fun i wr => ∃ k : Nat, k ≤ 32 ∧ i = .int .i64 k ∧ wr = (ext (w.alloc (.cells (encO o) 31)) r1).alloc (.cells (encO (rowTo o k)) 3)) (fun i _ => 32 - (intOf i).toNat)
    case atStart => exact ⟨0, Nat.zero_le _, rfl, rfl⟩
    case round =>
      obtain ⟨k, hk, rfl, rfl⟩ := hrel
      by_cases hlt : k < 32
      · have hix := run_index_order o k hlt
        have h0 := hR'.out.lo k hlt
        have h1 := hR'.out.hi k hlt
        obtain ⟨p, hp⟩ : ∃ p : Nat, o k = (p : Int) := ⟨(o k).toNat, by omega⟩
        have hs : Hid (encO (upd (rowTo o k) p (k : Int)) = encO (rowTo o (k + 1))) := by show _ = _; rw [rowTo, hp]; simp
        rw [hp] at hix h0 h1
        have hp32 : p < 32 := by omega
        clear hp h0 h1
        go_wp2
        go_roundw
        case rel => exact ⟨k + 1, by omega, by go_num, by rw [hs.out]⟩
        case measure => simp [intOf]; omega
      · have hk32 : k = 32 := by omega
        subst hk32
        go_wp2
        go_ret
        refine ⟨_, rfl, ?_, ?_⟩
        · rw [hfin.out]; exact own_encO rfl (by omega) (heap_alloc_at' _ _ (by simp))
        · exact ((below1 w _).trans ((ext_below _ r1).mono (by simp))).alloc (by simp; omega) _

end Go.Proofs.YteclmkmemecckaaDoor
