/- The walk of the law TopoRows. -/
import Derived.Test.YteclmkmemecckaaDoorAlive
namespace Wb
theorem row_length {o : O} (h : right o = true) : (row o).length = 32 := by unfold row; rw [h]; simp [rowO]
theorem row_get {o : O} (h : right o = true) {k : Nat} {x : Int} (hx : (row o)[k]? = some x) : ∃ i : Nat, x = (i : Int) ∧ i < 32 ∧ o i = (k : Int) := by
  have hk : k < 32 := by have := (List.getElem?_eq_some_iff.1 hx).1; rw [row_length h] at this; exact this
  unfold row at hx
  rw [h] at hx
  simp only [Bool.not_true, Bool.false_eq_true, if_false, rowO, List.getElem?_map, List.getElem?_range hk, Option.map_some] at hx
  have ha := at_spec ((right_iff o).1 h) hk
  exact ⟨atO o k, (Option.some.inj hx).symm, ha.1, ha.2⟩
theorem row_set {o : O} (h : right o = true) : setOf (row o) = nodes := by
  apply set_ext
  intro i
  have e1 := has_setOf (row o) i
  have e2 := has_nodes i
  rw [e1, e2]
  have : i ∈ row o ↔ 0 ≤ i ∧ i < 32 := by
    unfold row; rw [h]; exact mem_rowO ((right_iff o).1 h) i
  by_cases h1 : 0 ≤ i ∧ i < 32
  · have h2 := this.2 h1
    have h3 : 0 ≤ i ∧ i < 64 := by omega
    simp [h2, h1, h3]
  · have h2 : ¬ i ∈ row o := fun h => h1 (this.1 h)
    simp [h2, h1]
end Wb
namespace Go.Proofs.YteclmkmemecckaaDoor
open Go.RowKit Wb
theorem arrROrder : ArrT 36 32 := ⟨.inl ⟨_, _, Tryd.underlying36⟩, by kernel_rfl⟩

set_option maxHeartbeats 4000000 in
theorem topoRows_any (o : O) (w : World) (hT : Tab w) : Calls Tryd.prog 4 #[.agg (encO o)] w fun e w' => e = .returned (.bool true) ∧ Below w.heap.size w w' := by
  have hT0 : Hid (Tab w) := hT
  clear hT
  have hT1 : Hid (Tab (w.alloc (.cells (encO o) 36))) := hT0.out.alloc _
  go_enter Tryd.func4, Tryd.ntmps4
  go_wp2_with fail
  refine (alive_any _ hT1.out).mono ?_
  rintro e w1 ⟨rfl, hb1⟩
  have hr1 : row? w1 w.heap.size = some (encO o) := by rw [row?_below hb1 (by simp)]; go_simp
  have hT2 : Hid (Tab w1) := hT1.out.next hb1
  have hB1 : Hid (Below w.heap.size w w1) := (below1 w _).trans (hb1.mono (by simp))
  have hg1 : w.heap.size < w1.heap.size := row?_lt hr1
  clear hb1 hT1
  go_wp2_with (first | ((with_reducible refine wpList_load_arr arrROrder ?_ ?_); go_simp; go_simp))
  refine (row_any o _).mono ?_
  rintro e w2 ⟨v, rfl, hown, hb2⟩
  have hr2 : row? w2 w.heap.size = some (encO o) := (row?_below hb2 hg1).trans hr1
  have hg2 : w.heap.size < w2.heap.size := row?_lt hr2
  have hB2 : Hid (Below w.heap.size w w2) := hB1.out.trans (hb2.mono hB1.out.size)
  clear hr1 hT2 hb2 hB1
  go_wp2_with (first | ((with_reducible refine wpList_load_arr arrROrder ?_ ?_); go_simp; go_simp))
  refine (right_any o _).mono ?_
  rintro e w3 ⟨rfl, hb3⟩
  have hr3 : row? w3 w.heap.size = some (encO o) := (row?_below hb3 hg2).trans hr2
  have hB3 : Hid (Below w.heap.size w w3) := hB2.out.trans (hb3.mono hB2.out.size)
  have hown3 := hown.next hb3
  clear hr2 hb3 hB2 hown
  have hlen := hown3.len
  cases hR : right o with
  | false =>
    have hnil : row o = [] := by unfold row; rw [hR]; rfl
    rw [hnil] at hlen
    clear hown3 hr3
    go_wp2
    go_ret
    exact ⟨rfl, hB3.out⟩
  | true =>
    have hl32 := row_length hR
    have hset := Lib.hid (row_set hR)
    have hget := Lib.hid (fun k x hx => row_get (k := k) (x := x) hR hx)
    rw [hl32] at hlen
    rcases hown3.open with ⟨_, hnil⟩ | ⟨g, cap, rfl, hgl, hgh, _, _, hcell⟩
    · exfalso; rw [hnil] at hl32; cases hl32
    have hcell' := Lib.hid hcell
    have hO := Lib.hid hr3
    rw [hl32] at hlen ⊢
    have hl32' := Lib.hid hl32
    clear hown3 hcell hR hl32 hr3
    go_wp2_with fail
    refine (of_any g 0 cap 32 (row o) _ hl32'.out (by omega) (fun j x hx => by rw [Nat.zero_add]; exact hcell'.out j x hx)).mono ?_
    rintro e w' ⟨rfl, rfl⟩
    rw [hset.out]
    go_wp2
    go_loop [21] (fun i => ∃ k : Nat, k ≤ 32 ∧ i = .int .i64 k) (fun i => 32 - (intOf i).toNat)
    case atStart => exact ⟨0, Nat.zero_le _, rfl⟩
    case round =>
      obtain ⟨k, hk, rfl⟩ := hrel
      by_cases hlt : k < 32
      · obtain ⟨x, hx⟩ := at_lt (l := row o) (k := k) (by rw [hl32'.out]; exact hlt)
        have hck := hcell'.out k x hx
        obtain ⟨i, rfl, hi, ho⟩ := hget.out k x hx
        have hoc := row?_cell hO.out i
        rw [encO_get o i hi, ho] at hoc
        clear hx ho
        go_wp2
        go_round
        case rel => exact ⟨k + 1, by omega, by go_num⟩
        case measure => simp [intOf]; omega
      · have hk32 : k = 32 := by omega
        subst hk32
        go_wp2
        go_ret
        exact ⟨rfl, hB3.out⟩
end Go.Proofs.YteclmkmemecckaaDoor
