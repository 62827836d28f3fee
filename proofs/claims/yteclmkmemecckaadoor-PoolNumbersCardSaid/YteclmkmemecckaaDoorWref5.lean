/- The walks of the reference of pools: Free; and all calls on the pool that no call made. -/
import Derived.Test.YteclmkmemecckaaDoorWref3b
import Derived.Test.YteclmkmemecckaaDoorWpool4
namespace Go.Proofs.YteclmkmemecckaaDoor
open Go.RowKit Wb

def freeB (p : Pl) (i : Int) : Bool := !has p.live i && !has p.over i
set_option maxHeartbeats 1000000 in
theorem freer_any (p : Pl) (i : Int) (w : World) :
    Calls Tryd.prog 61 #[.agg (encP p), .int .i64 i] w fun e w' => e = .returned (.bool (freeB p i)) ∧ Below w.heap.size w w' := by
  cases hl : has p.live i with
  | true =>
    have hf : Hid (freeB p i = false) := by show _ = _; unfold freeB; rw [hl]; rfl
    have hl' := Lib.hid hl
    clear hl
    go_enter Tryd.func61, Tryd.ntmps61
    go_wp2_with (first | (go_at_call 62; refine (hasr_any _ _ _).mono ?_; rintro e w' ⟨rfl, rfl⟩; rw [hl'.out]))
    go_ret
    exact ⟨by rw [hf.out]; rfl, below1 _ _⟩
  | false =>
    have hf : Hid (freeB p i = !has p.over i) := by show _ = _; unfold freeB; rw [hl]; rfl
    have hl' := Lib.hid hl
    clear hl
    go_enter Tryd.func61, Tryd.ntmps61
    go_wp2_with fail
    refine (hasr_any _ _ _).mono ?_
    rintro e w' ⟨rfl, rfl⟩
    rw [hl'.out]
    go_wp2_with (first | (go_at_call 62; refine (hasr_any _ _ _).mono ?_; rintro e w' ⟨rfl, rfl⟩))
    go_ret
    exact ⟨by rw [hf.out]; rfl, below1 _ _⟩
theorem freeB_none (i : Int) : freeB Pl.none i = true := by unfold freeB Pl.none; rw [has_zero]; rfl
theorem none_live (i : Int) : has Pl.none.live i = false := has_zero i
theorem none_over (i : Int) : has Pl.none.over i = false := has_zero i

set_option maxHeartbeats 4000000 in
set_option maxRecDepth 100000 in
theorem edger_none (x y : Int) (w : World) :
    Calls Tryd.prog 55 #[.agg (encP Pl.none), .int .i64 x, .int .i64 y] w fun e w' => ∃ n : Int, e = .returned (.tuple #[.agg (encP Pl.none), .int .i64 n]) ∧ Below w.heap.size w w' := by
  generalize hp : Pl.none = p
  have hz : (Tryd.prog.info? 58).map (·.zero) = some (some (.agg (encP p))) := by rw [← hp]; exact zeroRPool
  have hfr : Hid (∀ i, freeB p i = true) := by intro i; rw [← hp]; exact freeB_none i
  clear hp
  by_cases hxy : x = y
  · have hxy' : (x == y) = true := by simp [hxy]
    clear hxy
    go_enter Tryd.func55, Tryd.ntmps55
    go_wp2_with (first | (with_reducible refine wpList_alloc_val hz ?_) | ((with_reducible refine wpList_load_arr arrRPool ?_ ?_); go_simp; go_simp) | ((with_reducible refine wpList_store_arr arrRPool (vs := encP p) ?_ ?_ (encP_size _) (encP_all _) ?_); exact rfl; go_simp; go_simp))
    exact bodyPost_ret (res_ct arrRPool (cs := encP p) rfl _ _ rfl rfl (by go_simp)) rfl ⟨2, rfl, below2 w _ _⟩
  · have hxy' : (x == y) = false := by simp [hxy]
    clear hxy
    go_enter Tryd.func55, Tryd.ntmps55
    go_wp2_with (first | (with_reducible refine wpList_alloc_val hz ?_) | ((with_reducible refine wpList_load_arr arrRPool ?_ ?_); go_simp; go_simp))
    refine (freer_any p x _).mono ?_
    rintro e w1 ⟨rfl, hb1⟩
    rw [hfr.out]
    have hr1 : row? w1 w.heap.size = some (encP p) := by rw [row?_below hb1 (by simp; omega)]; go_simp
    have hr2 : row? w1 (w.heap.size + 1) = some (encP p) := by rw [row?_below hb1 (by simp)]; go_simp
    have hB1 : Hid (Below w.heap.size w w1) := (below2 w _ _).trans (hb1.mono (by simp; omega))
    have hl2 := row?_lt hr2
    clear hb1
    go_wp2_with (first | (with_reducible refine wpList_alloc_val hz ?_) | ((with_reducible refine wpList_load_arr arrRPool ?_ ?_); go_simp; go_simp) | ((with_reducible refine wpList_store_arr arrRPool (vs := encP p) ?_ ?_ (encP_size _) (encP_all _) ?_); exact rfl; go_simp; go_simp))
    exact bodyPost_ret (res_ct arrRPool (cs := encP p) rfl _ _ rfl rfl (by go_simp)) rfl ⟨3, rfl, below_setRow hB1.out (by omega) _⟩
set_option maxHeartbeats 4000000 in
set_option maxRecDepth 100000 in
theorem endr_none (x : Int) (w : World) :
    Calls Tryd.prog 56 #[.agg (encP Pl.none), .int .i64 x] w fun e w' => ∃ n : Int, e = .returned (.tuple #[.agg (encP Pl.none), .int .i64 n]) ∧ Below w.heap.size w w' := by
  generalize hp : Pl.none = p
  have hz : (Tryd.prog.info? 58).map (·.zero) = some (some (.agg (encP p))) := by rw [← hp]; exact zeroRPool
  have hfr : Hid (∀ i, has p.live i = false) := by intro i; rw [← hp]; exact none_live i
  clear hp
  go_enter Tryd.func56, Tryd.ntmps56
  go_wp2_with (first | (with_reducible refine wpList_alloc_val hz ?_) | ((with_reducible refine wpList_load_arr arrRPool ?_ ?_); go_simp; go_simp) | (go_at_call 62; refine (hasr_any _ _ _).mono ?_; rintro e w' ⟨rfl, rfl⟩; rw [hfr.out]) | ((with_reducible refine wpList_store_arr arrRPool (vs := encP p) ?_ ?_ (encP_size _) (encP_all _) ?_); exact rfl; go_simp; go_simp))
  exact bodyPost_ret (res_ct arrRPool (cs := encP p) rfl _ _ rfl rfl (by go_simp)) rfl ⟨3, rfl, below2 w _ _⟩
set_option maxHeartbeats 4000000 in
set_option maxRecDepth 100000 in
theorem beginr_none (w : World) :
    Calls Tryd.prog 59 #[.agg (encP Pl.none)] w fun e w' => ∃ a b : Int, e = .returned (.tuple #[.agg (encP Pl.none), .int .i64 a, .int .i64 b]) ∧ Below w.heap.size w w' := by
  generalize hp : Pl.none = p
  have hz : (Tryd.prog.info? 58).map (·.zero) = some (some (.agg (encP p))) := by rw [← hp]; exact zeroRPool
  have hsz : p.size = 0 := by rw [← hp]; rfl
  clear hp
  go_enter Tryd.func59, Tryd.ntmps59
  go_wp2_with (first | (with_reducible refine wpList_alloc_val hz ?_) | ((with_reducible refine wpList_load_arr arrRPool ?_ ?_); go_simp; go_simp))
  have hrA : row? ((w.alloc (Obj.cells (encP p) 58)).alloc (Obj.cells (encP p) 58)) w.heap.size = some (encP p) := by go_simp
  have hrB : row? ((w.alloc (Obj.cells (encP p) 58)).alloc (Obj.cells (encP p) 58)) (w.heap.size + 1) = some (encP p) := by go_simp
  have hB1 : Hid (Below w.heap.size w ((w.alloc (Obj.cells (encP p) 58)).alloc (Obj.cells (encP p) 58))) := below2 w _ _
  generalize ((w.alloc (Obj.cells (encP p) 58)).alloc (Obj.cells (encP p) 58)) = w1 at *
  have hl2 := row?_lt hrB
  go_loop [5] (fun i => i = .int .i64 0) (fun _ => 0)
  case atStart => rfl
  case round =>
    subst hrel
    go_wp2_with (first | ((with_reducible refine wpList_load_arr arrRPool ?_ ?_); go_simp; go_simp) | ((with_reducible refine wpList_store_arr arrRPool (vs := encP p) ?_ ?_ (encP_size _) (encP_all _) ?_); exact rfl; go_simp; go_simp))
    exact bodyPost_ret (res_ctt arrRPool (cs := encP p) rfl _ _ rfl rfl rfl (by go_simp)) rfl ⟨⟨0, 4, rfl⟩, below_setRow hB1.out (by omega) _⟩
set_option maxHeartbeats 4000000 in
set_option maxRecDepth 100000 in
theorem sourcer_none (w : World) :
    Calls Tryd.prog 82 #[.agg (encP Pl.none)] w fun e w' => e = .returned (.int .i64 (-1)) ∧ Below w.heap.size w w' := by
  generalize hp : Pl.none = p
  have hfr : Hid (∀ i, has p.over i = false) := by intro i; rw [← hp]; exact none_over i
  clear hp
  go_enter Tryd.func82, Tryd.ntmps82
  go_wp2_with (first | ((with_reducible refine wpList_load_arr arrRMat ?_ ?_); go_simp; go_simp))
  refine (turn_any p.m _).mono ?_
  rintro e w1 ⟨rfl, hb1⟩
  have hr1 : row? w1 w.heap.size = some (encP p) := by rw [row?_below hb1 (by simp)]; go_simp
  have hB1 : Hid (Below w.heap.size w w1) := (below1 w _).trans (hb1.mono (by simp))
  have hl1 := row?_lt hr1
  clear hb1
  generalize turned p.m = t
  go_wp2_with (first | (with_reducible refine wpList_alloc_val zeroRMat ?_) | ((with_reducible refine wpList_store_arr arrRMat (vs := encM t) ?_ ?_ (encM_size _) (encM_all _) ?_); exact rfl; go_simp; go_simp))
  obtain ⟨w2, hw2⟩ : ∃ w2, w2 = w1.alloc (Obj.cells (encM t) 44) := ⟨_, rfl⟩
  rw [← hw2]
  have hr2 : row? w2 w.heap.size = some (encP p) := by rw [hw2]; go_simp
  have hB2 : Hid (Below w.heap.size w w2) := by rw [hw2]; exact hB1.out.alloc (by omega) _
  have hl2 := row?_lt hr2
  have hR2 := Lib.hid hr2
  clear hw2 hr1 hB1 hr2
  go_loopw [3, 5] (fun bv i wr => ∃ (k : Nat) (r : Array Obj × Nat), k ≤ 32 ∧ i = .int .i64 k ∧ bv = .int .i64 (-1) ∧ wr = ext w2 r) (fun _ i _ => 32 - (intOf i).toNat)
  case atStart => exact ⟨0, _, Nat.zero_le _, rfl, rfl, self_is_ext _⟩
  case round =>
    obtain ⟨k, r, hk, rfl, rfl, rfl⟩ := hrel
    by_cases hlt : k < 32
    · have hrw : row? (ext w2 r) w.heap.size = some (encP p) := by rw [ext_row? _ _ _ hl2]; exact hR2.out
      have hback : Hid (∀ q : Grew, ∃ r2, ext (ext w2 r) (q.os, q.n) = ext w2 r2) := fun q => ⟨_, ext_ext _ _ _⟩
      obtain ⟨wk, hwk⟩ : ∃ wk, wk = ext w2 r := ⟨_, rfl⟩
      rw [← hwk] at hrw hback ⊢
      have hg1k := row?_lt hrw
      clear hwk
      have hHas : Hid (∀ w, Calls Tryd.prog 62 #[.int .u64 (sv p.over), .int .i64 (k : Int)] w fun e w' => e = .returned (.bool false) ∧ Below w.heap.size w w') := by
        intro w; have := (hasr_any p.over k w).mono (R' := fun e w' => e = .returned (.bool false) ∧ Below w.heap.size w w') (fun _ _ ⟨hw, he⟩ => ⟨by rw [he, hfr.out], hw ▸ Below.refl _ _⟩); exact this
      go_wp2
      refine wp_region_grew (by kernel_rfl) (by kernel_rfl) ?_
      iterate 3 (first | go_big_quiet_step (fail) | quiet_step (fail))
      quiet_step ((go_at_call 62; exact Calls.grew_of (hHas.out _)))
      iterate 21 (first | go_big_quiet_step (fail) | quiet_step (fail))
      refine wpQuiet_nil ?_
      rintro _ ⟨q, rfl⟩
      go_wp2
      obtain ⟨r2, hr2⟩ := hback.out q
      exact ⟨⟨k + 1, _, by omega, by go_num, rfl, hr2⟩, by simp [intOf]; omega⟩
    · go_wp2
      go_ret
      exact ⟨rfl, hB2.out.extd hB2.out.size r⟩
set_option maxHeartbeats 4000000 in
set_option maxRecDepth 100000 in
theorem collectr_none (w : World) :
    Calls Tryd.prog 57 #[.agg (encP Pl.none)] w fun e w' => e = .returned (.tuple #[.agg (encP Pl.none), .slice none 0 0]) ∧ Below w.heap.size w w' := by
  have hsrc : Hid (∀ w, Calls Tryd.prog 82 #[.agg (encP Pl.none)] w fun e w' => e = .returned (.int .i64 (-1)) ∧ Below w.heap.size w w') := fun w => sourcer_none w
  generalize hp : Pl.none = p at *
  have hz : (Tryd.prog.info? 58).map (·.zero) = some (some (.agg (encP p))) := by rw [← hp]; exact zeroRPool
  clear hp
  go_enter Tryd.func57, Tryd.ntmps57
  go_wp2_with (first | (with_reducible refine wpList_alloc_val hz ?_) | ((with_reducible refine wpList_load_arr arrRPool ?_ ?_); go_simp; go_simp))
  refine (hsrc.out _).mono ?_
  rintro e w1 ⟨rfl, hb1⟩
  have hr1 : row? w1 w.heap.size = some (encP p) := by rw [row?_below hb1 (by simp; omega)]; go_simp
  have hr2 : row? w1 (w.heap.size + 1) = some (encP p) := by rw [row?_below hb1 (by simp)]; go_simp
  have hB1 : Hid (Below w.heap.size w w1) := (below2 w _ _).trans (hb1.mono (by simp; omega))
  have hl2 := row?_lt hr2
  clear hb1
  go_wp2
  go_loop [4, 5] (fun v i => v = .slice none 0 0 ∧ i = .int .i64 (-1)) (fun _ _ => 0)
  case atStart => exact ⟨rfl, rfl⟩
  case round =>
    obtain ⟨rfl, rfl⟩ := hrel
    go_wp2_with (first | ((with_reducible refine wpList_load_arr arrRPool ?_ ?_); go_simp; go_simp) | ((with_reducible refine wpList_store_arr arrRPool (vs := encP p) ?_ ?_ (encP_size _) (encP_all _) ?_); exact rfl; go_simp; go_simp))
    exact bodyPost_ret (res_ct arrRPool (cs := encP p) rfl _ _ rfl rfl (by go_simp)) rfl ⟨rfl, below_setRow hB1.out (by omega) _⟩
end Go.Proofs.YteclmkmemecckaaDoor
