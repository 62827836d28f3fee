/- The walk of an order's 'sorted': the library's sort by its contract. -/
import Derived.Test.YteclmkmemecckaaDoorWnear
import Derived.Test.YteclmkmemecckaaDoorShelf
namespace Go.Proofs.YteclmkmemecckaaDoor
open Go.RowKit Wb Go.Sort Go.Lib

set_option maxHeartbeats 1000000 in
theorem sorted1_any (g : Nat) (o : O) (a b : Nat) (ha : a < 32) (hb : b < 32) (w : World) (h : row? w g = some (encO o)) :
    Calls Tryd.prog 75 #[.int .i64 (a : Int), .int .i64 (b : Int), .pointer (some ⟨g, 0, none⟩)] w fun e w' => e = .returned (.int .i64 (Lib.compareInt (o a) (o b))) ∧ ∃ n, w' = w.drewN n := by
  have hca := row?_cell h a
  have hcb := row?_cell h b
  rw [encO_get o a ha] at hca
  rw [encO_get o b hb] at hcb
  clear h
  go_enter Tryd.func75, Tryd.ntmps75
  go_wp2
  go_quiet ((go_at_call 76; exact Calls.quiet_of_same (Tryd.cmp_Compare_int _ _ _)))
  go_wp2
  go_ret
  exact ⟨rfl, _, rfl⟩

abbrev Fe (x : Fin 32) : Value := .int .i64 (x.val : Int)
def toFin (x : Int) : Fin 32 := ⟨x.toNat % 32, Nat.mod_lt _ (by decide)⟩
theorem toFin_val {x : Int} (h : 0 ≤ x ∧ x < 32) : ((toFin x).val : Int) = x := by
  unfold toFin; simp only; omega
theorem one_Fe : OneCell Fe := fun _ => rfl
def cfO (o : O) (x y : Fin 32) : Int := Lib.compareInt (o x.val) (o y.val)
theorem ltO (o : O) (x y : Fin 32) : ltOf (cfO o) x y = decide (o x.val < o y.val) := by
  unfold ltOf cfO Lib.compareInt
  by_cases h : o x.val < o y.val
  · simp [h]
  · by_cases h2 : o x.val > o y.val <;> simp [h, h2]
theorem swoO (o : O) : SWO (ltOf (cfO o)) := by
  refine ⟨fun x => ?_, fun x y z h1 h2 => ?_, fun x y z h1 h2 => ?_⟩
  · rw [ltO]; simp
  · rw [ltO] at *; simp at *; omega
  · rw [ltO] at *; simp at *; omega
theorem row?_sortWorld {w : World} {blk off m g : Nat} {d : Array (Fin 32)} {os : Array Obj} {c : Array Value} (hg : g ≠ blk) (h : row? w g = some c) : row? (sortWorld Fe w blk off m d os) g = some c := by
  have hlt := row?_lt h
  rw [← h]
  apply row?_heap
  unfold sortWorld
  rw [heap_grow_old _ _ (by simpa using hlt)]
  unfold putRow mapBlock
  simp only [Array.getElem?_modify, if_neg (Ne.symm hg), heap_ahead]
/-- The row that the sort leaves. -/
def sortedL (o : O) (l : List Int) : List Int := ((l.map toFin).toArray.toList.mergeSort fun x y => !(ltOf (cfO o)) y x).map fun x => (x.val : Int)
theorem sortedL_by {o : O} (h : Right o) {s : S} (hs : ∀ x, has s x = true → 0 ≤ x ∧ x < 32) : sortedL o (items s) = byO o s := by
  have hmem : ∀ x, x ∈ sortedL o (items s) ↔ x ∈ items s := by
    intro x
    unfold sortedL
    rw [List.mem_map]
    constructor
    · rintro ⟨y, hy, rfl⟩
      rw [List.mem_mergeSort] at hy
      simp only [List.mem_map] at hy
      obtain ⟨z, hz, rfl⟩ := hy
      rw [toFin_val (hs z ((mem_items s z).1 hz))]
      exact hz
    · intro hx
      refine ⟨toFin x, ?_, toFin_val (hs x ((mem_items s x).1 hx))⟩
      rw [List.mem_mergeSort]
      simp only [List.mem_map]
      exact ⟨x, hx, rfl⟩
  refine rising_by (f := fun x => o x.toNat) ?_ (byO_sorted h s) ?_
  · unfold sortedL
    rw [List.pairwise_map]
    have h1 := List.pairwise_mergeSort (le := fun x y => !(ltOf (cfO o)) y x) (by intro a b c; simp only [ltO]; simp; omega) (by intro a b; simp only [ltO]; simp; omega) ((items s).map toFin).toArray.toList
    have h2 : (((items s).map toFin).toArray.toList.mergeSort fun x y => !(ltOf (cfO o)) y x).Nodup := by
      refine (List.mergeSort_perm _ _).nodup_iff.2 ?_
      simp only
      rw [List.Nodup, List.pairwise_map]
      refine List.Pairwise.imp_of_mem ?_ (items_sorted s)
      intro a b ha hb hab e
      have := congrArg (fun x : Fin 32 => (x.val : Int)) e
      simp only [toFin_val (hs a ((mem_items s a).1 ha)), toFin_val (hs b ((mem_items s b).1 hb))] at this
      omega
    refine (h1.and h2).imp ?_
    rintro a b ⟨h3, h4⟩
    rw [ltO] at h3
    simp at h3
    simp only [Int.toNat_natCast]
    rcases Int.lt_or_eq_of_le h3 with h5 | h5
    · exact h5
    · exact absurd (Fin.ext (h.inj _ _ a.isLt b.isLt h5)) h4
  · intro x
    rw [hmem, mem_items, mem_byO h]
    exact ⟨fun hx => ⟨hs x hx, hx⟩, fun hx => hx.2⟩
theorem own_sortWorld {w : World} {B g cap m : Nat} {l : List Int} {d : Array (Fin 32)} {os : Array Obj} (h : Own w B (.slice (some ⟨g, 0, none⟩) l.length cap) l) (hd : d.size = l.length) :
    Own (sortWorld Fe w g 0 m d os) B (.slice (some ⟨g, 0, none⟩) l.length cap) (d.toList.map fun x => (x.val : Int)) := by
  have hlen : (d.toList.map fun x => (x.val : Int)).length = l.length := by simp [hd]
  unfold Own
  rw [hlen]
  refine ⟨by simp [hd], ?_⟩
  rcases h.2 with ⟨he, _⟩ | ⟨g', cap', cur, he, hB, hgg, hc, hm, hs, ht⟩
  · cases he
  · injection he with h1 h2 h3
    injection h1 with h1
    injection h1 with h1 _ _
    subst h1 h3
    have hlt := (Array.getElem?_eq_some_iff.1 hgg).1
    refine .inr ⟨g, cap, putCells Fe 0 d cur, rfl, hB, ?_, hc, hm, by simp [putCells, hs], ?_⟩
    · unfold sortWorld
      rw [heap_grow_old _ _ (by simpa using hlt)]
      unfold putRow mapBlock
      simp only [Array.getElem?_modify, if_true, heap_ahead, hgg, Option.map_some, onCells]
    · apply List.ext_getElem?
      intro k
      rw [List.getElem?_take]
      by_cases hk : k < l.length
      · have hk2 : k < d.size := by omega
        have hk3 : k < cur.size := by omega
        rw [if_pos (by omega)]
        simp [putCells, hk2, hk3]
      · rw [if_neg (by omega), List.getElem?_eq_none (by simp [hd]; omega)]
theorem holds_own {w : World} {B g cap : Nat} {l : List Int} (h : Own w B (.slice (some ⟨g, 0, none⟩) l.length cap) l) (hl : ∀ x ∈ l, 0 ≤ x ∧ x < 32) : Holds Fe w g 0 (l.map toFin).toArray := by
  intro j hj
  simp at hj
  rcases h.2 with ⟨he, _⟩ | ⟨g', cap', cur, he, hB, hgg, hc, hm, hs, ht⟩
  · cases he
  · injection he with h1 h2 h3
    injection h1 with h1
    injection h1 with h1 _ _
    subst h1
    refine ⟨?_, frozen_of_row w g _ cur _ hgg⟩
    rw [cell_of_row w g _ cur _ (0, 0) hgg, Nat.zero_add]
    have : (l.map (Value.int .i64))[j]? = some (.int .i64 l[j]) := by rw [List.getElem?_map, List.getElem?_eq_getElem hj]; rfl
    rw [← ht, List.getElem?_take, if_pos (by omega)] at this
    have e : Fe ((l.map toFin).toArray[j]!) = .int .i64 l[j] := by
      simp [hj, Fe, toFin_val (hl _ (List.getElem_mem hj))]
    rw [e]
    simpa using this
theorem cmpLays_o {w : World} {g blk n : Nat} {o : O} (hg : g ≠ blk) (h : row? w g = some (encO o)) : CmpLays1 Tryd.prog 75 #[.pointer (some ⟨g, 0, none⟩)] Fe (cfO o) blk 0 n w := by
  intro m os dk _ x y
  refine (sorted1_any g o x.val y.val x.isLt y.isLt _ (row?_sortWorld hg h)).mono ?_
  rintro e w' ⟨rfl, q, rfl⟩
  exact ⟨rfl, q, #[], by rw [grow_empty]⟩
theorem below_sortWorld {w : World} {B g m : Nat} {d : Array (Fin 32)} {os : Array Obj} (hB : B ≤ g) (hg : g < w.heap.size) : Below B w (sortWorld Fe w g 0 m d os) := by
  unfold sortWorld
  refine ⟨rfl, rfl, rfl, ?_, fun k hk => ?_⟩
  · have : (grow (putRow Fe (Sort.ahead w m) g 0 d) os).heap.size = (putRow Fe (Sort.ahead w m) g 0 d).heap.size + os.size := by simp [grow]
    rw [this, size_putRow, heap_ahead]; omega
  · rw [heap_grow_old _ _ (by simp; omega)]
    unfold putRow mapBlock
    have hne : g ≠ k := by omega
    simp only [Array.getElem?_modify, if_neg hne, heap_ahead]

set_option maxHeartbeats 2000000 in
theorem byO_any (o : O) (s : S) (w : World) (hT : Tab w) (hR : Right o) (hs : ∀ x, has s x = true → 0 ≤ x ∧ x < 32) :
    Calls Tryd.prog 47 #[.agg (encO o), .int .u64 (sv s)] w fun e w' => ∃ v, e = .returned v ∧ Own w' w.heap.size v (byO o s) ∧ Below w.heap.size w w' := by
  have hmf : ∀ (fn : Fn) (first cap : Array Value) (w : World), (Instr.makeFunc fn first cap).run Tryd.prog w = .ok (.func fn first cap) w := fun _ _ _ _ => rfl
  have hfin : Hid (sortedL o (items s) = byO o s) := sortedL_by hR hs
  have hR' := Lib.hid hR
  have hs' : Hid (∀ x ∈ items s, 0 ≤ x ∧ x < 32) := fun x hx => hs x ((mem_items s x).1 hx)
  have hT' : Hid (Tab (w.alloc (.cells (encO o) 31))) := hT.alloc _
  clear hR hs hT
  go_enter Tryd.func47, Tryd.ntmps47
  go_wp2_with (first | (go_at_call 32; refine (items_any _ _ hT'.out).mono ?_; rintro e w2 ⟨v, rfl, hown, hb2⟩))
  have hrow : row? w2 w.heap.size = some (encO o) := by rw [row?_below hb2 (by simp)]; go_simp
  rcases hown.open with ⟨rfl, hnil⟩ | ⟨g, cap, rfl, hg1, hg2, _, _, _⟩
  · refine (Tryd.slices_SortFunc_none (α := Fin 32) _ _ _ _).mono ?_
    rintro e w' ⟨rfl, hw⟩
    have hw' := hw.symm
    subst hw'
    have hfin2 : Hid (byO o s = []) := by show _ = _; rw [← hfin.out, hnil]; simp [sortedL]
    go_wp2
    go_ret
    exact ⟨_, rfl, by rw [hfin2.out]; exact Own.nil _ _, (below1 w _).trans (hb2.mono (by simp))⟩
  · have hne : w.heap.size ≠ g := by simp at hg1; omega
    have := Tryd.slices_SortFunc_total Fe one_Fe (cfO o) (swoO o) 75 #[.pointer (some ⟨w.heap.size, 0, none⟩)] g 0 cap ((items s).map toFin).toArray w2
      (callAny _ ⟨_, Tryd.func75, by kernel_rfl, by kernel_rfl⟩) (cmpLays_o hne hrow) (holds_own hown hs'.out) hg2 (by have := items_length s; simp; omega)
      (by intro x y h1 h2; rw [ltO] at h1 h2; simp at h1 h2; exact Fin.ext (hR'.out.inj _ _ x.isLt y.isLt (by omega)))
    have hsz : (((items s).map toFin).toArray.size) = (items s).length := by simp
    rw [hsz] at this
    refine this.mono ?_
    rintro e w' ⟨rfl, n, os, rfl⟩
    have hO : Own _ _ _ _ := own_sortWorld (m := n) (os := os) (d := (((items s).map toFin).toArray.toList.mergeSort fun x y => !(ltOf (cfO o)) y x).toArray) hown (by simp)
    have hO2 : Hid (Own (sortWorld Fe w2 g 0 n (((items s).map toFin).toArray.toList.mergeSort fun x y => !(ltOf (cfO o)) y x).toArray os) w.heap.size (.slice (some ⟨g, 0, none⟩) (items s).length cap) (byO o s)) := by
      rw [← hfin.out]; exact hO.base (by simp)
    have hB : Hid (Below w.heap.size w (sortWorld Fe w2 g 0 n (((items s).map toFin).toArray.toList.mergeSort fun x y => !(ltOf (cfO o)) y x).toArray os)) :=
      ((below1 w _).trans (hb2.mono (by simp))).trans (below_sortWorld (by simp at hg1; omega) hg2)
    generalize sortWorld Fe w2 g 0 n (((items s).map toFin).toArray.toList.mergeSort fun x y => !(ltOf (cfO o)) y x).toArray os = w3 at *
    clear this hO hown hrow
    go_wp2
    go_ret
    exact ⟨_, rfl, hO2.out, hB.out⟩
end Go.Proofs.YteclmkmemecckaaDoor
