/- The walks of package pool's small functions. -/
import Derived.Test.YteclmkmemecckaaDoorPenc
import Derived.Test.YteclmkmemecckaaDoorWinsert3
namespace Go.Proofs.YteclmkmemecckaaDoor
open Go.RowKit Wb

set_option maxRecDepth 100000 in
theorem run_build_pool0 (w : World) : (Instr.build 54 #[]).run Tryd.prog w = .ok (.agg (encP Pl.none)) w := by kernel_rfl
set_option maxRecDepth 100000 in
theorem run_build_pool (n : Int) (o : O) (w : World) : (Instr.build 54 #[(0, .int .i64 n), (2, .agg (encO o))]).run Tryd.prog w = .ok (.agg (encP { Pl.none with size := n, o := o })) w := by kernel_rfl
section
variable {ops : Array Oper} {rest : List Oper} {a : Act} {w : World} {Q : Exit → Act → World → Prop} {d : Option Tmp} {t0 : TypeId} {ps : String} {af : Array Edge}
theorem wpList_run {o : Oper} {v : Value} {w' : World} (hg : o.guard = none) (hr : (execOp a.eval o).run Tryd.prog w = .ok (.value v) w') (h : wpList Tryd.prog ops Q rest (a.put o.dst v) w') : wpList Tryd.prog ops Q (o :: rest) a w := by
  refine wpList_plain hg fun K hK => ?_
  unfold Oper.wp
  rw [hr, Oper.upon_value]
  exact hK _ _ h
theorem wpList_build {ty : Nat} {parts : Array (Nat × Operand)} {v : Value} (hr : (Instr.build ty (parts.map fun (i, x) => (i, a.eval x))).run Tryd.prog w = .ok v w)
    (h : wpList Tryd.prog ops Q rest (a.put d v) w) : wpList Tryd.prog ops Q ({ dst := d, op := .build ty parts, type := t0, pos := ps, after := af, guard := none } :: rest) a w := by
  refine wpList_run rfl ?_ h
  simp [execOp, hr]
end
set_option maxHeartbeats 1000000 in
theorem taken_any (p : Pl) (w : World) :
    Calls Tryd.prog 70 #[.agg (encP p)] w fun e w' => e = .returned (.int .u64 (sv p.taken)) ∧ Below w.heap.size w w' := by
  go_enter Tryd.func70, Tryd.ntmps70
  go_wp2
  go_ret
  exact ⟨rfl, below1 _ _⟩
theorem slots_val (p : Pl) : IntKind.u64.wrap (IntKind.u64.wrap (2 ^ (min (max p.size 0) 32).toNat) - 1) = sv p.slots := by
  unfold Pl.slots capOf sv below
  generalize hn : (min (max p.size 0) 32).toNat = n
  have hn32 : n ≤ 32 := by omega
  have h1 : (2 ^ n : Nat) < 2 ^ 64 := Nat.pow_lt_pow_right (by omega) (by omega)
  have h2 : 0 < (2 ^ n : Nat) := Nat.pow_pos (by omega)
  rw [BitVec.toNat_ofNat, Nat.mod_eq_of_lt (by omega)]
  have e : (2 : Int) ^ n = ((2 ^ n : Nat) : Int) := by simp
  rw [e, IntKind.wrap_u64, IntKind.wrap_u64]
  generalize (2 ^ n : Nat) = q at h1 h2
  omega
set_option maxHeartbeats 1000000 in
theorem slots_any (p : Pl) (w : World) :
    Calls Tryd.prog 72 #[.agg (encP p)] w fun e w' => e = .returned (.int .u64 (sv p.slots)) ∧ Below w.heap.size w w' := by
  go_enter Tryd.func72, Tryd.ntmps72
  go_wp2
  go_ret
  exact ⟨ret_int (slots_val p), below1 _ _⟩
set_option maxHeartbeats 1000000 in
set_option maxRecDepth 100000 in
theorem poolnew_any (n : Int) (w : World) :
    Calls Tryd.prog 26 #[.int .i64 n] w fun e w' => e = .returned (.tuple #[.agg (encP (if 1 ≤ n ∧ n ≤ 32 then Pl.new n else Pl.none)), .bool (decide (1 ≤ n ∧ n ≤ 32))]) ∧ Below w.heap.size w w' := by
  by_cases h : 1 ≤ n ∧ n ≤ 32
  · have h1 := h.1
    have h2 := h.2
    rw [if_pos h, decide_eq_true h]
    clear h
    go_enter Tryd.func26, Tryd.ntmps26
    go_wp2_with (first | (with_reducible refine wpList_alloc_val zeroPool ?_))
    refine (new_any _).mono ?_
    rintro e w1 ⟨rfl, hb1⟩
    have hr : row? w1 w.heap.size = some (encP Pl.none) := by rw [row?_below hb1 (by simp)]; go_simp
    have hl := row?_lt hr
    have hB : Below w.heap.size w w1 := (below1 w _).trans (hb1.mono (by simp))
    go_wp2_with (first | ((with_reducible refine wpList_build (v := .agg (encP (Pl.new n))) ?_ ?_); (simp only [List.map_toArray, List.map_cons, List.map_nil]; exact run_build_pool n newO _)) | ((with_reducible refine wpList_store_arr arrPool (vs := encP (Pl.new n)) ?_ ?_ (encP_size _) (encP_all _) ?_); exact rfl; go_simp; go_simp))
    have hr' : row? (w1.setRow w.heap.size (encP (Pl.new n))) w.heap.size = some (encP (Pl.new n)) := row?_setRow_same _ _ _ hr
    exact bodyPost_ret (res_ct arrPool (cs := encP (Pl.new n)) rfl _ _ rfl rfl (by go_simp)) rfl ⟨rfl, below_setRow hB (Nat.le_refl _) _⟩
  · rw [if_neg h, decide_eq_false h]
    have hr' : row? ((w.alloc (Obj.cells (encP Pl.none) 54))) w.heap.size = some (encP Pl.none) := by go_simp
    by_cases h1 : n < 1
    · clear h
      go_enter Tryd.func26, Tryd.ntmps26
      go_wp2_with (first | (with_reducible refine wpList_alloc_val zeroPool ?_) | ((with_reducible refine wpList_build (v := .agg (encP Pl.none)) ?_ ?_); (simp only [List.map_toArray, List.map_nil]; exact run_build_pool0 _)) | ((with_reducible refine wpList_store_arr arrPool (vs := encP Pl.none) ?_ ?_ (encP_size _) (encP_all _) ?_); exact rfl; go_simp; go_simp))
      exact bodyPost_ret (res_ct arrPool (cs := encP Pl.none) rfl _ _ rfl rfl (by go_simp)) rfl ⟨rfl, below1 _ _⟩
    · have h2 : 32 < n := by omega
      clear h
      go_enter Tryd.func26, Tryd.ntmps26
      go_wp2_with (first | (with_reducible refine wpList_alloc_val zeroPool ?_) | ((with_reducible refine wpList_build (v := .agg (encP Pl.none)) ?_ ?_); (simp only [List.map_toArray, List.map_nil]; exact run_build_pool0 _)) | ((with_reducible refine wpList_store_arr arrPool (vs := encP Pl.none) ?_ ?_ (encP_size _) (encP_all _) ?_); exact rfl; go_simp; go_simp))
      exact bodyPost_ret (res_ct arrPool (cs := encP Pl.none) rfl _ _ rfl rfl (by go_simp)) rfl ⟨rfl, below1 _ _⟩

/-- Only block g, of those that were there, has turned. -/
theorem tab_grown {w w' : World} {g : Nat} (h : Tab w) (hg : w.grownBy w' (some g)) (hne0 : g ≠ 0) : Tab w' := fun j hj => by
  rw [World.cell?_of_block (a := ⟨0, j, none⟩) (hg.block _ h.pos (fun e => hne0 (Option.some.inj e).symm))]; exact h j hj
theorem grown_below {a w w' : World} {g : Nat} (h : a.grownBy w (some g)) (hb : Below w.heap.size w w') : a.grownBy w' (some g) :=
  ⟨hb.os.trans h.os, hb.tape.trans h.tape, hb.output.trans h.output, Nat.le_trans h.size hb.size, fun i hi hn => (hb.block i (Nat.lt_of_lt_of_le hi h.size)).trans (h.block i hi hn)⟩
theorem grown_setRow {a w : World} {g : Nat} (h : a.grownBy w (some g)) (cs : Array Value) : a.grownBy (w.setRow g cs) (some g) :=
  ⟨h.os, h.tape, h.output, by have := h.size; simpa [World.setRow] using this, fun i hi hn => (setRow_other w g i cs (fun e => hn (by rw [e]))).trans (h.block i hi hn)⟩
theorem grown_refl (w : World) (g : Nat) : w.grownBy w (some g) := ⟨rfl, rfl, rfl, Nat.le_refl _, fun _ _ _ => rfl⟩
theorem grown_drew {a w : World} {g : Nat} (h : a.grownBy w (some g)) : a.grownBy w.drew (some g) := ⟨h.os, h.tape, h.output, h.size, h.block⟩

set_option maxHeartbeats 4000000 in
set_option maxRecDepth 100000 in
theorem ahead_any (p : Pl) (x y : Int) (g : Nat) (w : World) (hT : Tab w) (hg : row? w g = some (encP p)) (hne0 : g ≠ 0) :
    Calls Tryd.prog 71 #[.pointer (some ⟨g, 0, none⟩), .int .i64 x, .int .i64 y] w fun e w' => e = .returned (.bool (insert p.m p.o x y).2.2) ∧ row? w' g = some (encP (p.ahead x y)) ∧ w.grownBy w' (some g) := by
  have hT0 := Lib.hid hT
  have hG := Lib.hid hg
  clear hT hg
  go_enter Tryd.func71, Tryd.ntmps71
  go_wp2
  refine wp_region_steps (St := Unit) [some 8, some 9, some 10, some 11, some 12, some 13, some 14, some 15, some 16, some 17, some 18, some 19, some 20, some 7, some 21, some 22, some 23, some 24, some 25, none, some 26, some 27, none, some 6] [[], [], [], [2], [3], [4], [], [6], [7], [8], [], [], [5, 9, 10, 11], [12], [13], [13], [13], [0, 0, 2, 3, 4, 5, 6, 7, 8, 9, 10, 11, 12, 13, 14], [17, 0, 2, 3, 4, 5, 6, 7, 8, 9, 10, 11, 12, 13, 14], [18, 14, 12, 0, 2, 3, 4, 5, 6, 7, 8, 9, 10, 11, 12, 13, 14], [1, 0, 1, 2, 3, 4, 5, 6, 7, 8, 9, 10, 11, 12, 13, 14, 15, 17, 18, 19], [20, 0, 1, 2, 3, 4, 5, 6, 7, 8, 9, 10, 11, 12, 13, 14, 15, 17, 18, 19], [21, 15, 19, 0, 1, 2, 3, 4, 5, 6, 7, 8, 9, 10, 11, 12, 13, 14, 15, 17, 18, 19], [16, 22, 0, 1, 2, 3, 4, 5, 6, 7, 8, 9, 10, 11, 12, 13, 14, 15, 16, 17, 18, 19, 20, 21, 22]]
    (fun s i => ([.pointer (some ⟨g, 0, none⟩), .pointer (some ⟨g, 0, none⟩), .pointer (some ⟨g, 0, none⟩), .pointer (some ⟨g, 0, none⟩), .pointer (some ⟨g, 1, none⟩), .agg (encM p.m), .pointer (some ⟨g, 0, none⟩), .pointer (some ⟨g, 0, none⟩), .pointer (some ⟨g, 33, none⟩), .agg (encO p.o), .int .i64 x, .int .i64 y, .tuple #[.agg (encM (insert p.m p.o x y).1), .agg (encO (insert p.m p.o x y).2.1), .bool (insert p.m p.o x y).2.2], .tuple #[.agg (encM (insert p.m p.o x y).1), .agg (encO (insert p.m p.o x y).2.1), .bool (insert p.m p.o x y).2.2], .agg (encM (insert p.m p.o x y).1), .agg (encO (insert p.m p.o x y).2.1), .bool (insert p.m p.o x y).2.2, .pointer (some ⟨g, 0, none⟩), .pointer (some ⟨g, 1, none⟩), undef, .pointer (some ⟨g, 0, none⟩), .pointer (some ⟨g, 33, none⟩), undef, .bool (insert p.m p.o x y).2.2] : List Value).getD i undef)
    (fun d _ w' => w.grownBy w' (some g) ∧ row? w' g = some (encP { p with m := if d 19 then (insert p.m p.o x y).1 else p.m, o := if d 22 then (insert p.m p.o x y).2.1 else p.o }))
    () rfl (by kernel_rfl) (by decide) (by simp) (by decide) ⟨grown_drew (grown_refl _ _), hG.out⟩ ?_ ?_
  · intro d s w' i hi hd hne hcl hC a hev hot hsz K hK
    obtain ⟨hgr, hr⟩ := hC
    have hd19 : d 12 = false → d 19 = false := fun h => by cases h5 : d 19 with | false => rfl | true => have := hcl 19 (by decide) h5 12 (by simp); rw [h] at this; cases this
    have hd22 : d 12 = false → d 22 = false := fun h => by cases h5 : d 22 with | false => rfl | true => have := hcl 22 (by decide) h5 12 (by simp); rw [h] at this; cases this
    have hd19b : ∀ k ∈ [5, 9], d k = false → d 19 = false := fun k hk h => by cases h5 : d 19 with | false => rfl | true => have := hcl 19 (by decide) h5 k (by simp at hk; rcases hk with rfl | rfl <;> simp); rw [h] at this; cases this
    have hd22b : ∀ k ∈ [5, 9], d k = false → d 22 = false := fun k hk h => by cases h5 : d 22 with | false => rfl | true => have := hcl 22 (by decide) h5 k (by simp at hk; rcases hk with rfl | rfl <;> simp); rw [h] at this; cases this
    have hC : (fun (d : Nat → Bool) (_ : Unit) (w' : World) => w.grownBy w' (some g) ∧ row? w' g = some (encP { p with m := if d 19 then (insert p.m p.o x y).1 else p.m, o := if d 22 then (insert p.m p.o x y).2.1 else p.o })) d () w' := ⟨hgr, hr⟩
    match i, hi with
    | 0, _ =>
      have e0 : a.eval (.tmp 0) = .pointer (some ⟨g, 0, none⟩) := hot 0 (by decide)
      exact wpOp_run rfl rfl (by simp only [List.getElem_toArray, List.getElem_cons_zero, execOp, e0]; try simp [go_sem]) (hK s w' (fun _ _ => rfl) hC)
    | 1, _ =>
      have e0 : a.eval (.tmp 0) = .pointer (some ⟨g, 0, none⟩) := hot 0 (by decide)
      exact wpOp_run rfl rfl (by simp only [List.getElem_toArray, List.getElem_cons_zero, List.getElem_cons_succ, execOp, e0]; try simp [go_sem]) (hK s w' (fun _ _ => rfl) hC)
    | 2, _ =>
      have e0 : a.eval (.tmp 0) = .pointer (some ⟨g, 0, none⟩) := hot 0 (by decide)
      exact wpOp_run rfl rfl (by simp only [List.getElem_toArray, List.getElem_cons_zero, List.getElem_cons_succ, execOp, e0]; try simp [go_sem]) (hK s w' (fun _ _ => rfl) hC)
    | 3, _ =>
      have e10 : a.eval (.tmp 10) = .pointer (some ⟨g, 0, none⟩) := hev 2 10 (hne 2 (by simp)) rfl
      exact wpOp_run rfl rfl (by simp only [List.getElem_toArray, List.getElem_cons_zero, List.getElem_cons_succ, execOp, e10]; try simp [go_sem]) (hK s w' (fun _ _ => rfl) hC)
    | 4, _ =>
      have e11 : a.eval (.tmp 11) = .pointer (some ⟨g, 0, none⟩) := hev 3 11 (hne 3 (by simp)) rfl
      exact wpOp_run rfl rfl (by simp only [List.getElem_toArray, List.getElem_cons_zero, List.getElem_cons_succ, execOp, e11]; try simp [go_sem]) (hK s w' (fun _ _ => rfl) hC)
    | 5, _ =>
      have e12 : a.eval (.tmp 12) = .pointer (some ⟨g, 1, none⟩) := hev 4 12 (hne 4 (by simp)) rfl
      rw [hd19b 5 (by simp) hd, hd22b 5 (by simp) hd] at hr
      exact wpOp_load_at arrMat rfl e12 hr (by rw [encP_size]; omega) (encP_extract_mat _) (hK s w' (fun _ _ => rfl) hC)
    | 6, _ =>
      have e0 : a.eval (.tmp 0) = .pointer (some ⟨g, 0, none⟩) := hot 0 (by decide)
      exact wpOp_run rfl rfl (by simp only [List.getElem_toArray, List.getElem_cons_zero, List.getElem_cons_succ, execOp, e0]; try simp [go_sem]) (hK s w' (fun _ _ => rfl) hC)
    | 7, _ =>
      have e14 : a.eval (.tmp 14) = .pointer (some ⟨g, 0, none⟩) := hev 6 14 (hne 6 (by simp)) rfl
      exact wpOp_run rfl rfl (by simp only [List.getElem_toArray, List.getElem_cons_zero, List.getElem_cons_succ, execOp, e14]; try simp [go_sem]) (hK s w' (fun _ _ => rfl) hC)
    | 8, _ =>
      have e15 : a.eval (.tmp 15) = .pointer (some ⟨g, 0, none⟩) := hev 7 15 (hne 7 (by simp)) rfl
      exact wpOp_run rfl rfl (by simp only [List.getElem_toArray, List.getElem_cons_zero, List.getElem_cons_succ, execOp, e15]; try simp [go_sem]) (hK s w' (fun _ _ => rfl) hC)
    | 9, _ =>
      have e16 : a.eval (.tmp 16) = .pointer (some ⟨g, 33, none⟩) := hev 8 16 (hne 8 (by simp)) rfl
      rw [hd19b 9 (by simp) hd, hd22b 9 (by simp) hd] at hr
      exact wpOp_load_at arrOrder rfl e16 hr (by rw [encP_size]; omega) (encP_extract_order _) (hK s w' (fun _ _ => rfl) hC)
    | 10, _ =>
      have e1 : a.eval (.tmp 1) = .int .i64 x := hot 1 (by decide)
      exact wpOp_run rfl rfl (by simp only [List.getElem_toArray, List.getElem_cons_zero, List.getElem_cons_succ, execOp, e1]; try simp [go_sem]) (hK s w' (fun _ _ => rfl) hC)
    | 11, _ =>
      have e2 : a.eval (.tmp 2) = .int .i64 y := hot 2 (by decide)
      exact wpOp_run rfl rfl (by simp only [List.getElem_toArray, List.getElem_cons_zero, List.getElem_cons_succ, execOp, e2]; try simp [go_sem]) (hK s w' (fun _ _ => rfl) hC)
    | 12, _ =>
      have e13 : a.eval (.tmp 13) = .agg (encM p.m) := hev 5 13 (hne 5 (by simp)) rfl
      have e17 : a.eval (.tmp 17) = .agg (encO p.o) := hev 9 17 (hne 9 (by simp)) rfl
      have e18 : a.eval (.tmp 18) = .int .i64 x := hev 10 18 (hne 10 (by simp)) rfl
      have e19 : a.eval (.tmp 19) = .int .i64 y := hev 11 19 (hne 11 (by simp)) rfl
      rw [hd19 hd, hd22 hd] at hr
      refine wpOp_call rfl ⟨_, Tryd.func16, by kernel_rfl, by kernel_rfl⟩ ?_
      simp only [List.map_toArray, List.map_cons, List.map_nil, e13, e17, e18, e19]
      refine (insert_any p.m p.o x y w' (tab_grown hT0.out hgr hne0)).mono ?_
      rintro e w2 ⟨rfl, hb2⟩
      exact ⟨_, rfl, hK s w2 (fun _ _ => rfl) ⟨grown_below hgr hb2, by
        show row? w2 g = some (encP { p with m := if d 19 then (insert p.m p.o x y).1 else p.m, o := if d 22 then (insert p.m p.o x y).2.1 else p.o })
        rw [hd19 hd, hd22 hd]; exact (row?_below hb2 (row?_lt hr)).trans hr⟩⟩
    | 13, _ =>
      have e20 : a.eval (.tmp 20) = .tuple #[.agg (encM (insert p.m p.o x y).1), .agg (encO (insert p.m p.o x y).2.1), .bool (insert p.m p.o x y).2.2] := hev 12 20 (hne 12 (by simp)) rfl
      exact wpOp_run rfl rfl (by simp only [List.getElem_toArray, List.getElem_cons_zero, List.getElem_cons_succ, execOp, e20]; try simp [go_sem]) (hK s w' (fun _ _ => rfl) hC)
    | 14, _ =>
      have e7 : a.eval (.tmp 7) = .tuple #[.agg (encM (insert p.m p.o x y).1), .agg (encO (insert p.m p.o x y).2.1), .bool (insert p.m p.o x y).2.2] := hev 13 7 (hne 13 (by simp)) rfl
      exact wpOp_run rfl rfl (by simp only [List.getElem_toArray, List.getElem_cons_zero, List.getElem_cons_succ, execOp, e7]; try simp [go_sem]) (hK s w' (fun _ _ => rfl) hC)
    | 15, _ =>
      have e7 : a.eval (.tmp 7) = .tuple #[.agg (encM (insert p.m p.o x y).1), .agg (encO (insert p.m p.o x y).2.1), .bool (insert p.m p.o x y).2.2] := hev 13 7 (hne 13 (by simp)) rfl
      exact wpOp_run rfl rfl (by simp only [List.getElem_toArray, List.getElem_cons_zero, List.getElem_cons_succ, execOp, e7]; try simp [go_sem]) (hK s w' (fun _ _ => rfl) hC)
    | 16, _ =>
      have e7 : a.eval (.tmp 7) = .tuple #[.agg (encM (insert p.m p.o x y).1), .agg (encO (insert p.m p.o x y).2.1), .bool (insert p.m p.o x y).2.2] := hev 13 7 (hne 13 (by simp)) rfl
      exact wpOp_run rfl rfl (by simp only [List.getElem_toArray, List.getElem_cons_zero, List.getElem_cons_succ, execOp, e7]; try simp [go_sem]) (hK s w' (fun _ _ => rfl) hC)
    | 17, _ =>
      have e8 : a.eval (.tmp 8) = .pointer (some ⟨g, 0, none⟩) := hev 0 8 (hne 0 (by simp)) rfl
      exact wpOp_run rfl rfl (by simp only [List.getElem_toArray, List.getElem_cons_zero, List.getElem_cons_succ, execOp, e8]; try simp [go_sem]) (hK s w' (fun _ _ => rfl) hC)
    | 18, _ =>
      have e24 : a.eval (.tmp 24) = .pointer (some ⟨g, 0, none⟩) := hev 17 24 (hne 17 (by simp)) rfl
      exact wpOp_run rfl rfl (by simp only [List.getElem_toArray, List.getElem_cons_zero, List.getElem_cons_succ, execOp, e24]; try simp [go_sem]) (hK s w' (fun _ _ => rfl) hC)
    | 19, _ =>
      have e21 : a.eval (.tmp 21) = .agg (encM (insert p.m p.o x y).1) := hev 14 21 (hne 14 (by simp)) rfl
      have e25 : a.eval (.tmp 25) = .pointer (some ⟨g, 1, none⟩) := hev 18 25 (hne 18 (by simp)) rfl
      exact wpOp_store_at arrMat rfl e25 e21 hr (by rw [encP_size]; omega) (encM_size _) (encM_all _) (splice_encP_mat _ _) (hK s _ (fun _ _ => rfl) ⟨grown_setRow hgr _, row?_setRow_same _ _ _ hr⟩)
    | 20, _ =>
      have e9 : a.eval (.tmp 9) = .pointer (some ⟨g, 0, none⟩) := hev 1 9 (hne 1 (by simp)) rfl
      exact wpOp_run rfl rfl (by simp only [List.getElem_toArray, List.getElem_cons_zero, List.getElem_cons_succ, execOp, e9]; try simp [go_sem]) (hK s w' (fun _ _ => rfl) hC)
    | 21, _ =>
      have e26 : a.eval (.tmp 26) = .pointer (some ⟨g, 0, none⟩) := hev 20 26 (hne 20 (by simp)) rfl
      exact wpOp_run rfl rfl (by simp only [List.getElem_toArray, List.getElem_cons_zero, List.getElem_cons_succ, execOp, e26]; try simp [go_sem]) (hK s w' (fun _ _ => rfl) hC)
    | 22, _ =>
      have e22 : a.eval (.tmp 22) = .agg (encO (insert p.m p.o x y).2.1) := hev 15 22 (hne 15 (by simp)) rfl
      have e27 : a.eval (.tmp 27) = .pointer (some ⟨g, 33, none⟩) := hev 21 27 (hne 21 (by simp)) rfl
      have h19 : d 19 = true := hne 19 (by simp)
      exact wpOp_store_at arrOrder rfl e27 e22 hr (by rw [encP_size]; omega) (encO_size _) (encO_all _) (splice_encP_order _ _) (hK s _ (fun _ _ => rfl) ⟨grown_setRow hgr _, row?_setRow_same _ _ _ hr⟩)
    | 23, _ =>
      have e23 : a.eval (.tmp 23) = .bool (insert p.m p.o x y).2.2 := hev 16 23 (hne 16 (by simp)) rfl
      exact wpOp_run rfl rfl (by simp only [List.getElem_toArray, List.getElem_cons_zero, List.getElem_cons_succ, execOp, e23]; try simp [go_sem]) (hK s w' (fun _ _ => rfl) hC)
    | n + 24, hi => exact absurd hi (by simp)
  · rintro d _ w2 hall ⟨hgr, hr⟩
    have h19 := hall 19 (by decide)
    have h22 := hall 22 (by decide)
    rw [h19, h22] at hr
    have hgr' := Lib.hid hgr
    have hr' := Lib.hid hr
    clear hgr hr hall h19 h22
    simp only [putL, List.getD_cons_zero, List.getD_cons_succ]
    go_simp
    go_wp2
    go_ret
    exact ⟨rfl, hr'.out, hgr'.out⟩
end Go.Proofs.YteclmkmemecckaaDoor
