/- The walk of topo.Insert: its function literals, slices.Concat at two rows. -/
import Derived.Test.YteclmkmemecckaaDoorWsort
import Derived.Test.YteclmkmemecckaaDoorGrow
import Derived.LoopN
namespace Go.Proofs.YteclmkmemecckaaDoor
open Go.RowKit Wb

set_option maxHeartbeats 1000000 in
theorem ins1_any (g : Nat) (m : M) (i : Int) (w : World) (h : row? w g = some (encM m)) :
    Calls Tryd.prog 43 #[.int .i64 i, .pointer (some ⟨g, 0, none⟩)] w fun e w' => e = .returned (.int .u64 (sv (outs m i))) ∧ Below w.heap.size w w' := by
  go_enter Tryd.func43, Tryd.ntmps43
  go_wp2_with (first | (go_at_call 33; refine (outs_any _ _ _).mono ?_; rintro e w1 ⟨rfl, hb1⟩) | ((with_reducible refine wpList_load_arr arrMat ?_ ?_); go_simp; go_simp))
  go_ret
  exact ⟨rfl, hb1⟩
set_option maxHeartbeats 1000000 in
theorem ins3_any (g : Nat) (m : M) (i : Int) (w : World) (h : row? w g = some (encM m)) :
    Calls Tryd.prog 45 #[.int .i64 i, .pointer (some ⟨g, 0, none⟩)] w fun e w' => e = .returned (.int .u64 (sv (ins m i))) ∧ Below w.heap.size w w' := by
  go_enter Tryd.func45, Tryd.ntmps45
  go_wp2_with (first | (go_at_call 36; refine (ins_any _ _ _).mono ?_; rintro e w1 ⟨rfl, hb1⟩) | ((with_reducible refine wpList_load_arr arrMat ?_ ?_); go_simp; go_simp))
  go_ret
  exact ⟨rfl, hb1⟩
set_option maxHeartbeats 1000000 in
theorem ins2_any (go ga : Nat) (o : O) (i a : Nat) (hi : i < 32) (ha : a < 32) (w : World) (h : row? w go = some (encO o)) (h2 : row? w ga = some #[.int .i64 (a : Int)]) :
    Calls Tryd.prog 44 #[.int .i64 (i : Int), .pointer (some ⟨go, 0, none⟩), .pointer (some ⟨ga, 0, none⟩)] w fun e w' => e = .returned (.bool (decide (o i ≤ o a))) ∧ Below w.heap.size w w' := by
  have hca := row?_cell h i
  have hcb := row?_cell h a
  have hcc := row?_cell h2 0
  rw [encO_get o i hi] at hca
  rw [encO_get o a ha] at hcb
  simp at hcc
  clear h h2
  go_enter Tryd.func44, Tryd.ntmps44
  go_wp2
  go_quiet (fail)
  go_wp2
  go_ret
  exact ⟨rfl, by rw [drewN_is_ext]; exact ext_below _ _⟩
set_option maxHeartbeats 1000000 in
theorem ins4_any (go gb : Nat) (o : O) (i b : Nat) (hi : i < 32) (hb : b < 32) (w : World) (h : row? w go = some (encO o)) (h2 : row? w gb = some #[.int .i64 (b : Int)]) :
    Calls Tryd.prog 46 #[.int .i64 (i : Int), .pointer (some ⟨go, 0, none⟩), .pointer (some ⟨gb, 0, none⟩)] w fun e w' => e = .returned (.bool (decide (o i ≥ o b))) ∧ Below w.heap.size w w' := by
  have hca := row?_cell h i
  have hcb := row?_cell h b
  have hcc := row?_cell h2 0
  rw [encO_get o i hi] at hca
  rw [encO_get o b hb] at hcb
  simp at hcc
  clear h h2
  go_enter Tryd.func46, Tryd.ntmps46
  go_wp2
  go_quiet (fail)
  go_wp2
  go_ret
  exact ⟨rfl, by rw [drewN_is_ext]; exact ext_below _ _⟩
/-- Blocks hold a graph, an order, a node. -/
def Holds3 (gm go ga : Nat) (m : M) (o : O) (a : Nat) (w : World) : Prop := row? w gm = some (encM m) ∧ row? w go = some (encO o) ∧ row? w ga = some #[.int .i64 (a : Int)]
theorem Holds3.next {gm go ga : Nat} {m : M} {o : O} {a : Nat} {w w' : World} (h : Holds3 gm go ga m o a w) (hb : Below w.heap.size w w') : Holds3 gm go ga m o a w' :=
  ⟨(row?_below hb (row?_lt h.1)).trans h.1, (row?_below hb (row?_lt h.2.1)).trans h.2.1, (row?_below hb (row?_lt h.2.2)).trans h.2.2⟩
theorem ins1_nexts (gm go ga : Nat) (m : M) (o : O) (a : Nat) : Nexts 43 #[.pointer (some ⟨gm, 0, none⟩)] (outs m) (Holds3 gm go ga m o a) :=
  ⟨fun i w h => ins1_any gm m i w h.1, fun _ _ h hb => h.next hb, callAny _ ⟨_, Tryd.func43, by kernel_rfl, by kernel_rfl⟩⟩
theorem ins3_nexts (gm go ga : Nat) (m : M) (o : O) (a : Nat) : Nexts 45 #[.pointer (some ⟨gm, 0, none⟩)] (ins m) (Holds3 gm go ga m o a) :=
  ⟨fun i w h => ins3_any gm m i w h.1, fun _ _ h hb => h.next hb, callAny _ ⟨_, Tryd.func45, by kernel_rfl, by kernel_rfl⟩⟩
theorem ins2_mays (gm go ga : Nat) (m : M) (o : O) (a : Nat) (ha : a < 32) : Mays 44 #[.pointer (some ⟨go, 0, none⟩), .pointer (some ⟨ga, 0, none⟩)] (fun i => decide (o i.toNat ≤ o (a : Int).toNat)) (Holds3 gm go ga m o a) :=
  ⟨fun i w h0 h1 h => by
    obtain ⟨k, rfl⟩ : ∃ k : Nat, i = (k : Int) := ⟨i.toNat, by omega⟩
    exact ins2_any go ga o k a (by omega) ha w h.2.1 h.2.2, callAny _ ⟨_, Tryd.func44, by kernel_rfl, by kernel_rfl⟩⟩
theorem ins4_mays (gm go ga : Nat) (m : M) (o : O) (b : Nat) (hb : b < 32) : Mays 46 #[.pointer (some ⟨go, 0, none⟩), .pointer (some ⟨ga, 0, none⟩)] (fun i => decide (o i.toNat ≥ o (b : Int).toNat)) (Holds3 gm go ga m o b) :=
  ⟨fun i w h0 h1 h => by
    obtain ⟨k, rfl⟩ : ∃ k : Nat, i = (k : Int) := ⟨i.toNat, by omega⟩
    exact ins4_any go ga o k b (by omega) hb w h.2.1 h.2.2, callAny _ ⟨_, Tryd.func46, by kernel_rfl, by kernel_rfl⟩⟩

/-! ### slices.Concat at two rows -/
theorem grow_nil (n : Nat) (hn : 0 < n) (hn2 : n ≤ 1000) (w : World) :
    Calls Tryd.prog 77 #[.slice none 0 0, .int .i64 (n : Int)] w fun e w' => ∃ v, e = .returned v ∧ Own w' w.heap.size v [] ∧ Below w.heap.size w w' := by
  obtain ⟨i0, hi, hz0, hz1, hz2⟩ := info_parts intInfo
  have := Any8.slices_Grow_grow Tryd.growI i0 (.int .i64 0) hi hz0 (by omega) none 0 0 n [] w (Nat.le_refl _) (by omega) (by rw [hz2]; omega) (by omega) (by simp) (fun _ => rfl) (by simp)
  refine this.mono ?_
  rintro e w' ⟨rfl, rfl⟩
  simp only [show Tryd.growI_ren.t 25 = 3 from rfl]
  have hcap := grownCap_ge w (0 + n) 0 3
  have hcap2 := grownCap_le_maxLen w (0 + n) 0 3 (by unfold maxLen; omega)
  refine ⟨_, rfl, ⟨by simp, .inr ⟨w.heap.size, _, _, rfl, Nat.le_refl _, heap_alloc_at' _ _ rfl, Nat.zero_le _, hcap2, ?_, by simp⟩⟩, (Below.refl _ _).drew.alloc (Nat.le_refl _) _⟩
  simp only [Array.size_append, size_zeroCells, List.size_toArray, List.length_nil, Value.cells]
  show 0 + (0 + n - 0) * 1 + (grownCap w (0 + n) 0 3 - (0 + n)) * 1 = _
  omega
set_option maxHeartbeats 2000000 in
set_option maxRecDepth 100000 in
theorem concat_any (gb : Nat) (v1 v2 : Value) (l1 l2 : List Int) (B1 B2 : Nat) (w : World) (hrow : row? w gb = some #[v1, v2]) (h1 : Own w B1 v1 l1) (h2 : Own w B2 v2 l2) (hl1 : l1.length ≤ 64) (hl2 : l2.length ≤ 64) (hpos : 0 < l1.length + l2.length) :
    Calls Tryd.prog 48 #[.slice (some ⟨gb, 0, none⟩) 2 2] w fun e w' => ∃ v, e = .returned v ∧ Own w' w.heap.size v (l1 ++ l2) ∧ Below w.heap.size w w' := by
  have hc0 := row?_cell hrow 0
  have hc1 := row?_cell hrow 1
  simp at hc0 hc1
  have hlen1 := h1.len
  have hlen2 := h2.len
  have hgb := row?_lt hrow
  have hR := Lib.hid hrow
  have H1 := Lib.hid h1
  have H2 := Lib.hid h2
  clear h1 h2 hrow
  go_enter Tryd.func48, Tryd.ntmps48
  go_wp2
  refine wp_loop_rounds 3 ?_
  rw [rounds_succ]
  go_wp2
  rw [rounds_succ]
  go_wp2
  rw [rounds_succ]
  have hg := grow_nil (l1.length + l2.length) hpos (by omega) w
  rw [Int.natCast_add] at hg
  have hG := Lib.hid hg
  clear hg
  go_wp2_with (go_at_call 77; refine hG.out.mono ?_; rintro e w3 ⟨v3, rfl, hown3, hb3⟩)
  have hsz3 := hb3.size
  have hc03 : w3.cell? ⟨gb, 0, none⟩ = some v1 := by rw [hb3.cell hgb]; exact hc0
  have hc13 : w3.cell? ⟨gb, 1, none⟩ = some v2 := by rw [hb3.cell hgb]; exact hc1
  have hO1 := Lib.hid (H1.out.next hb3)
  have hO2 := Lib.hid (H2.out.next hb3)
  have hlt1 : Hid (∀ k, v1.ownBlock = some k → k < w.heap.size) := fun k hk => (H1.out.lt k hk).2
  have hlt2 : Hid (∀ k, v2.ownBlock = some k → k < w.heap.size) := fun k hk => (H2.out.lt k hk).2
  clear hc0 hc1
  refine wp_loop_rounds 3 ?_
  rw [rounds_succ]
  go_wp2_with (at_builtin; refine wpList_append_own rfl _ _ rfl w.heap.size v3 [] rfl hown3 B1 v1 l1 rfl hO1.out (by simp; omega) (by omega) ?_; intro v4 w4 hown4 hg4 _)
  have hb4 : Below w.heap.size w w4 := hb3.grown hg4 (by omega) (fun k hk => (hown3.lt k hk).1)
  have hsz4 := hb4.size
  have hc14 : w4.cell? ⟨gb, 1, none⟩ = some v2 := by rw [hb4.cell hgb, ← hb3.cell hgb]; exact hc13
  have hO24 := Lib.hid (H2.out.below hb4 hlt2.out)
  clear hc03 hc13
  simp only [List.nil_append] at hown4
  rw [rounds_succ]
  go_wp2_with (at_builtin; refine wpList_append_own rfl _ _ rfl w.heap.size v4 l1 rfl hown4 B2 v2 l2 rfl hO24.out (by omega) (by omega) ?_; intro v5 w5 hown5 hg5 _)
  have hb5 : Below w.heap.size w w5 := hb4.grown hg5 (by omega) (fun k hk => (hown4.lt k hk).1)
  rw [rounds_succ]
  go_wp2
  go_ret
  exact ⟨_, rfl, hown5, hb5⟩
end Go.Proofs.YteclmkmemecckaaDoor
