/- The walk of does: an act on a pool, beside the same on the reference's empty pool. Written by wip/gendoes.py. -/
import Derived.Test.YteclmkmemecckaaDoorWref5
namespace Wb
/-- What an act leaves of a pool. -/
def Pl.act (p : Pl) (k a b : Int) : Pl :=
  if k % 6 = 2 ∨ k % 6 = 3 then (p.edge a b).1 else if k % 6 = 4 then (p.end a).1 else if k % 6 = 5 then p.collects.1 else p.begin.1
end Wb
namespace Go.Proofs.YteclmkmemecckaaDoor
open Go.RowKit Wb

/-- The blocks that does has made at its head. -/
structure DW (w0 w : World) (p z : Pl) (k a b : Int) : Prop where
  r3 : row? w w0.heap.size = some (encP p)
  r4 : row? w (w0.heap.size + 1) = some (encP z)
  r5 : row? w (w0.heap.size + 1 + 1) = some #[.int .u8 k, .int .i64 a, .int .i64 b]
  r6 : row? w (w0.heap.size + 1 + 1 + 1) = some (encP z)
  r7 : row? w (w0.heap.size + 1 + 1 + 1 + 1) = some (encP z)
  below : Below w0.heap.size w0 w
theorem DW.next {w0 w w' : World} {p z : Pl} {k a b : Int} (h : DW w0 w p z k a b) (hb : Below w.heap.size w w') : DW w0 w' p z k a b :=
  ⟨(row?_below hb (row?_lt h.r3)).trans h.r3, (row?_below hb (row?_lt h.r4)).trans h.r4, (row?_below hb (row?_lt h.r5)).trans h.r5, (row?_below hb (row?_lt h.r6)).trans h.r6, (row?_below hb (row?_lt h.r7)).trans h.r7, h.below.trans (hb.mono h.below.size)⟩
theorem yielded_bool {ops : Array Oper} {a : Act} {j t : Nat} {b : Bool} (h1 : (ops[j]?).bind (·.dst) = some t) (h : a.eval (.tmp t) = .bool b) : yielded ops a.tmps j = some b := by
  have he : a.eval (.tmp t) = (a.tmps[t]?).getD undef := by show a.tmps.getD t undef = _; simp [Array.getD_eq_getD_getElem?]
  unfold yielded
  rw [h1]
  simp only [Option.bind_some]
  rw [he] at h
  cases h2 : a.tmps[t]? with
  | none => rw [h2] at h; cases h
  | some v => rw [h2] at h; simp only [Option.getD_some] at h; rw [h]
set_option maxHeartbeats 8000000 in
theorem same_nil (n cap : Nat) (ad : Option Addr) (w : World) :
    Calls Tryd.prog 58 #[.slice ad n cap, .slice none 0 0] w fun e w' => e = .returned (.bool (n == 0)) ∧ Below w.heap.size w w' := by
  cases n with
  | zero =>
    go_enter Tryd.func58, Tryd.ntmps58
    go_wp2
    go_loopw [5] (fun i wr => i = .int .i64 0 ∧ wr = w) (fun i _ => 0)
    case atStart => exact ⟨rfl, rfl⟩
    case round =>
      obtain ⟨rfl, rfl⟩ := hrel
      go_wp2
      go_ret
      exact ⟨rfl, .refl _ _⟩
  | succ n =>
    have hn : ((n : Int) + 1 == 0) = false := by simp; omega
    go_enter Tryd.func58, Tryd.ntmps58
    go_wp2
    all_goals go_ret
    exact ⟨rfl, .refl _ _⟩

def DoesRet (q z : Pl) (w : World) (e : Ending) (w' : World) : Prop := ∃ c : Bool, e = .returned (.tuple #[.agg (encP q), .agg (encP z), .bool c]) ∧ Below w.heap.size w w'

set_option maxHeartbeats 8000000 in
set_option maxRecDepth 100000 in
theorem does_edge2 (p z : Pl) (hzp : (Tryd.prog.info? 54).map (·.zero) = some (some (.agg (encP z)))) (hzr : (Tryd.prog.info? 58).map (·.zero) = some (some (.agg (encP z)))) (hz0 : z = Pl.none) (k ai bi : Int) (hk : k % 6 = 2) (hk0 : 0 ≤ k) (hk1 : k < 256) (w : World) (hT : Tab w) :
    Calls Tryd.prog 29 #[.agg (encP p), .agg (encP z), .agg #[.int .u8 k, .int .i64 ai, .int .i64 bi]] w (DoesRet (p.edge ai bi).1 z w) := by
  have hT0 := Lib.hid hT
  have hZ := Lib.hid hz0
  clear hT hz0
  have e2 : (k % 6 == 2) = true := by rw [hk]; rfl
  go_enter Tryd.func29, Tryd.ntmps29
  go_wp2_with (first | (with_reducible refine wpList_alloc_val hzp ?_) | (with_reducible refine wpList_alloc_val hzr ?_) | ((with_reducible refine wpList_load_arr arrPool ?_ ?_); go_simp; go_simp))
  obtain ⟨w1, hW⟩ : ∃ w1, w1 = ((((w.alloc (Obj.cells (encP p) 54)).alloc (Obj.cells (encP z) 58)).alloc (Obj.cells #[.int .u8 k, .int .i64 ai, .int .i64 bi] 63)).alloc (Obj.cells (encP z) 54)).alloc (Obj.cells (encP z) 58) := ⟨_, rfl⟩
  rw [← hW]
  have hD : DW w w1 p z k ai bi := by
    rw [hW]
    exact ⟨by go_simp, by go_simp, by go_simp, by go_simp, by go_simp, (below4 w _ _ _ _).alloc (by simp; omega) _⟩
  have hT1 : Hid (Tab w1) := hT0.out.next hD.below
  clear hW
  refine (edge_any p ai bi _ hT1.out).mono ?_
  rintro e w2 ⟨rfl, hb2⟩
  have hD2 := hD.next hb2
  have hT2 : Hid (Tab w2) := hT0.out.next hD2.below
  clear hD hb2 hT1
  generalize hq : (p.edge ai bi).1 = q at *
  have hQ := Lib.hid hq
  clear hq
  have hl2 : w.heap.size + 1 + 1 + 1 + 1 < w2.heap.size := row?_lt hD2.r7
  have k4 : ∀ o, row? (w2.alloc o) (w.heap.size + 1) = some (encP z) := fun o => (row?_below (below1 w2 o) (row?_lt hD2.r4)).trans hD2.r4
  have k5 : ∀ o, row? (w2.alloc o) (w.heap.size + 1 + 1) = some #[.int .u8 k, .int .i64 ai, .int .i64 bi] := fun o => (row?_below (below1 w2 o) (row?_lt hD2.r5)).trans hD2.r5
  go_wp2_with (first | (with_reducible refine wpList_alloc_val hzp ?_) | (with_reducible refine wpList_alloc_val hzr ?_) | ((with_reducible refine wpList_load_arr arrRPool ?_ ?_); go_simp; go_simp) | ((with_reducible refine wpList_store_arr arrPool (vs := encP q) ?_ ?_ (encP_size _) (encP_all _) ?_); exact rfl; go_simp; go_simp))
  obtain ⟨w3, hW⟩ : ∃ w3, w3 = w2.alloc (Obj.cells (encP q) 54) := ⟨_, rfl⟩
  rw [← hW]
  have h9 : row? w3 w2.heap.size = some (encP q) := by rw [hW]; go_simp
  have hb3 : Below w2.heap.size w2 w3 := by rw [hW]; exact below1 w2 _
  have hD3 := hD2.next hb3
  have hT3 : Hid (Tab w3) := hT0.out.next hD3.below
  clear hW hb3 k4 k5 hD2 hT2
  obtain ⟨g9, hG9⟩ : ∃ g, g = w2.heap.size := ⟨_, rfl⟩
  rw [← hG9] at h9 hl2 ⊢
  clear hG9
  have her := Lib.hid (edger_none ai bi w3)
  rw [← hZ.out] at her
  refine her.out.mono ?_
  rintro e w4 ⟨nr, rfl, hb4⟩
  have h9' := (row?_below hb4 (row?_lt h9)).trans h9
  have hD4 := hD3.next hb4
  have hl9 := row?_lt h9'
  clear h9 hD3 hb4 hT3
  go_wp2_with (first | (with_reducible refine wpList_alloc_val hzp ?_) | (with_reducible refine wpList_alloc_val hzr ?_) | ((with_reducible refine wpList_load_arr arrRPool ?_ ?_); go_simp; go_simp) | ((with_reducible refine wpList_store_arr arrRPool (vs := encP z) ?_ ?_ (encP_size _) (encP_all _) ?_); exact rfl; go_simp; go_simp))
  obtain ⟨w5, hW⟩ : ∃ w5, w5 = w4.alloc (Obj.cells (encP z) 58) := ⟨_, rfl⟩
  rw [← hW]
  have hb5 : Below w4.heap.size w4 w5 := by rw [hW]; exact below1 w4 _
  have h11 : row? w5 w4.heap.size = some (encP z) := by rw [hW]; go_simp
  have hD5 := hD4.next hb5
  have h95 := (row?_below hb5 hl9).trans h9'
  clear hW hb5 h9' hD4
  obtain ⟨g11, hG11⟩ : ∃ g, g = w4.heap.size := ⟨_, rfl⟩
  rw [← hG11] at h11 hl9 ⊢
  clear hG11
  refine wp_region_steps (St := Unit) [some 51, some 52, some 53, some 54, some 55, none, none, some 8] [[], [], [], [], [2, 3], [0, 0], [1, 5, 0, 1, 5], [4, 6, 0, 1, 2, 3, 4, 5, 6]]
    (fun s i => ([.agg (encP q), .agg (encP z), .int .i64 (p.edge ai bi).2, .int .i64 nr, .bool ((p.edge ai bi).2 == nr), undef, undef, .bool ((p.edge ai bi).2 == nr)] : List Value).getD i undef)
    (fun d _ w' => Below w.heap.size w w' ∧ row? w' g9 = some (encP q) ∧ row? w' g11 = some (encP z) ∧ row? w' (w.heap.size + 1 + 1 + 1) = some (if d 5 then encP q else encP z) ∧ row? w' (w.heap.size + 1 + 1 + 1 + 1) = some (if d 6 then encP z else encP z))
    () rfl (by kernel_rfl) (by decide) (by simp) (by decide) ⟨hD5.below.drew, h95, h11, hD5.r6, hD5.r7⟩ ?_ ?_
  · intro d s w' i hi hd hne hcl hC a hev hot hsz K hK
    obtain ⟨hb, hr9, hr11, hr6, hr7⟩ := hC
    have hs6 : ∀ c : Bool, (if c = true then encP q else encP z).size = 100 := fun c => by cases c <;> exact encP_size _
    match i, hi with
    | 0, _ =>
      have e9 : a.eval (.tmp 9) = .pointer (some ⟨g9, 0, none⟩) := hot 9 (by decide)
      exact wpOp_load arrPool rfl e9 hr9 (encP_size _) (hK s w' (fun _ _ => rfl) ⟨hb, hr9, hr11, hr6, hr7⟩)
    | 1, _ =>
      have e11 : a.eval (.tmp 11) = .pointer (some ⟨g11, 0, none⟩) := hot 11 (by decide)
      exact wpOp_load arrRPool rfl e11 hr11 (encP_size _) (hK s w' (fun _ _ => rfl) ⟨hb, hr9, hr11, hr6, hr7⟩)
    | 2, _ =>
      have e10 : a.eval (.tmp 10) = .int .i64 (p.edge ai bi).2 := hot 10 (by decide)
      exact wpOp_run rfl rfl (by simp only [List.getElem_toArray, List.getElem_cons_zero, List.getElem_cons_succ, execOp, e10]; try simp [go_sem]) (hK s w' (fun _ _ => rfl) ⟨hb, hr9, hr11, hr6, hr7⟩)
    | 3, _ =>
      have e12 : a.eval (.tmp 12) = .int .i64 nr := hot 12 (by decide)
      exact wpOp_run rfl rfl (by simp only [List.getElem_toArray, List.getElem_cons_zero, List.getElem_cons_succ, execOp, e12]; try simp [go_sem]) (hK s w' (fun _ _ => rfl) ⟨hb, hr9, hr11, hr6, hr7⟩)
    | 4, _ =>
      have e53 : a.eval (.tmp 53) = .int .i64 (p.edge ai bi).2 := hev 2 53 (hne 2 (by simp)) rfl
      have e54 : a.eval (.tmp 54) = .int .i64 nr := hev 3 54 (hne 3 (by simp)) rfl
      exact wpOp_run rfl rfl (by simp only [List.getElem_toArray, List.getElem_cons_zero, List.getElem_cons_succ, execOp, e53, e54]; try simp [go_sem]) (hK s w' (fun _ _ => rfl) ⟨hb, hr9, hr11, hr6, hr7⟩)
    | 5, _ =>
      have e6 : a.eval (.tmp 6) = .pointer (some ⟨w.heap.size + 1 + 1 + 1, 0, none⟩) := hot 6 (by decide)
      have e51 : a.eval (.tmp 51) = .agg (encP q) := hev 0 51 (hne 0 (by simp)) rfl
      exact wpOp_store arrPool rfl e6 e51 hr6 (hs6 _) (encP_size _) (encP_all _) (hK s _ (fun _ _ => rfl) ⟨below_setRow hb (by omega) _, by rw [row?_setRow_other _ _ _ (by omega)]; exact hr9, by rw [row?_setRow_other _ _ _ (by omega)]; exact hr11, row?_setRow_same _ _ _ hr6, by rw [row?_setRow_other _ _ _ (by omega)]; exact hr7⟩)
    | 6, _ =>
      have e7 : a.eval (.tmp 7) = .pointer (some ⟨w.heap.size + 1 + 1 + 1 + 1, 0, none⟩) := hot 7 (by decide)
      have e52 : a.eval (.tmp 52) = .agg (encP z) := hev 1 52 (hne 1 (by simp)) rfl
      exact wpOp_store arrRPool rfl e7 e52 hr7 (by split <;> exact encP_size _) (encP_size _) (encP_all _) (hK s _ (fun _ _ => rfl) ⟨below_setRow hb (by omega) _, by rw [row?_setRow_other _ _ _ (by omega)]; exact hr9, by rw [row?_setRow_other _ _ _ (by omega)]; exact hr11, by rw [row?_setRow_other _ _ _ (by omega)]; exact hr6, row?_setRow_same _ _ _ hr7⟩)
    | 7, _ =>
      have e55 : a.eval (.tmp 55) = .bool ((p.edge ai bi).2 == nr) := hev 4 55 (hne 4 (by simp)) rfl
      exact wpOp_run rfl rfl (by simp only [List.getElem_toArray, List.getElem_cons_zero, List.getElem_cons_succ, execOp, e55]; try simp [go_sem]) (hK s w' (fun _ _ => rfl) ⟨hb, hr9, hr11, hr6, hr7⟩)
    | n + 8, hi => exact absurd hi (by simp)
  · rintro d _ w6 hall ⟨hb, hr9, hr11, hr6, hr7⟩
    rw [hall 5 (by decide)] at hr6
    rw [hall 6 (by decide)] at hr7
    simp only [if_true] at hr6 hr7
    have hB := Lib.hid hb
    have hl6 := row?_lt hr6
    have hl7 := row?_lt hr7
    clear hb hall hD5 h11 h95 hr9 hr11
    simp only [putL, List.getD_cons_zero, List.getD_cons_succ]
    go_simp
    go_wp2
    exact bodyPost_ret (res_cct arrPool arrRPool (cs := encP q) (cs2 := encP z) rfl _ _ rfl rfl rfl (by go_simp) (by go_simp)) rfl ⟨_, rfl, hB.out⟩

set_option maxHeartbeats 8000000 in
set_option maxRecDepth 100000 in
theorem does_edge3 (p z : Pl) (hzp : (Tryd.prog.info? 54).map (·.zero) = some (some (.agg (encP z)))) (hzr : (Tryd.prog.info? 58).map (·.zero) = some (some (.agg (encP z)))) (hz0 : z = Pl.none) (k ai bi : Int) (hk : k % 6 = 3) (hk0 : 0 ≤ k) (hk1 : k < 256) (w : World) (hT : Tab w) :
    Calls Tryd.prog 29 #[.agg (encP p), .agg (encP z), .agg #[.int .u8 k, .int .i64 ai, .int .i64 bi]] w (DoesRet (p.edge ai bi).1 z w) := by
  have hT0 := Lib.hid hT
  have hZ := Lib.hid hz0
  clear hT hz0
  have e2 : (k % 6 == 2) = false := by rw [hk]; rfl
  have e3 : (k % 6 == 3) = true := by rw [hk]; rfl
  go_enter Tryd.func29, Tryd.ntmps29
  go_wp2_with (first | (with_reducible refine wpList_alloc_val hzp ?_) | (with_reducible refine wpList_alloc_val hzr ?_) | ((with_reducible refine wpList_load_arr arrPool ?_ ?_); go_simp; go_simp))
  obtain ⟨w1, hW⟩ : ∃ w1, w1 = ((((w.alloc (Obj.cells (encP p) 54)).alloc (Obj.cells (encP z) 58)).alloc (Obj.cells #[.int .u8 k, .int .i64 ai, .int .i64 bi] 63)).alloc (Obj.cells (encP z) 54)).alloc (Obj.cells (encP z) 58) := ⟨_, rfl⟩
  rw [← hW]
  have hD : DW w w1 p z k ai bi := by
    rw [hW]
    exact ⟨by go_simp, by go_simp, by go_simp, by go_simp, by go_simp, (below4 w _ _ _ _).alloc (by simp; omega) _⟩
  have hT1 : Hid (Tab w1) := hT0.out.next hD.below
  clear hW
  refine (edge_any p ai bi _ hT1.out).mono ?_
  rintro e w2 ⟨rfl, hb2⟩
  have hD2 := hD.next hb2
  have hT2 : Hid (Tab w2) := hT0.out.next hD2.below
  clear hD hb2 hT1
  generalize hq : (p.edge ai bi).1 = q at *
  have hQ := Lib.hid hq
  clear hq
  have hl2 : w.heap.size + 1 + 1 + 1 + 1 < w2.heap.size := row?_lt hD2.r7
  have k4 : ∀ o, row? (w2.alloc o) (w.heap.size + 1) = some (encP z) := fun o => (row?_below (below1 w2 o) (row?_lt hD2.r4)).trans hD2.r4
  have k5 : ∀ o, row? (w2.alloc o) (w.heap.size + 1 + 1) = some #[.int .u8 k, .int .i64 ai, .int .i64 bi] := fun o => (row?_below (below1 w2 o) (row?_lt hD2.r5)).trans hD2.r5
  go_wp2_with (first | (with_reducible refine wpList_alloc_val hzp ?_) | (with_reducible refine wpList_alloc_val hzr ?_) | ((with_reducible refine wpList_load_arr arrRPool ?_ ?_); go_simp; go_simp) | ((with_reducible refine wpList_store_arr arrPool (vs := encP q) ?_ ?_ (encP_size _) (encP_all _) ?_); exact rfl; go_simp; go_simp))
  obtain ⟨w3, hW⟩ : ∃ w3, w3 = w2.alloc (Obj.cells (encP q) 54) := ⟨_, rfl⟩
  rw [← hW]
  have h9 : row? w3 w2.heap.size = some (encP q) := by rw [hW]; go_simp
  have hb3 : Below w2.heap.size w2 w3 := by rw [hW]; exact below1 w2 _
  have hD3 := hD2.next hb3
  have hT3 : Hid (Tab w3) := hT0.out.next hD3.below
  clear hW hb3 k4 k5 hD2 hT2
  obtain ⟨g9, hG9⟩ : ∃ g, g = w2.heap.size := ⟨_, rfl⟩
  rw [← hG9] at h9 hl2 ⊢
  clear hG9
  have her := Lib.hid (edger_none ai bi w3)
  rw [← hZ.out] at her
  refine her.out.mono ?_
  rintro e w4 ⟨nr, rfl, hb4⟩
  have h9' := (row?_below hb4 (row?_lt h9)).trans h9
  have hD4 := hD3.next hb4
  have hl9 := row?_lt h9'
  clear h9 hD3 hb4 hT3
  go_wp2_with (first | (with_reducible refine wpList_alloc_val hzp ?_) | (with_reducible refine wpList_alloc_val hzr ?_) | ((with_reducible refine wpList_load_arr arrRPool ?_ ?_); go_simp; go_simp) | ((with_reducible refine wpList_store_arr arrRPool (vs := encP z) ?_ ?_ (encP_size _) (encP_all _) ?_); exact rfl; go_simp; go_simp))
  obtain ⟨w5, hW⟩ : ∃ w5, w5 = w4.alloc (Obj.cells (encP z) 58) := ⟨_, rfl⟩
  rw [← hW]
  have hb5 : Below w4.heap.size w4 w5 := by rw [hW]; exact below1 w4 _
  have h11 : row? w5 w4.heap.size = some (encP z) := by rw [hW]; go_simp
  have hD5 := hD4.next hb5
  have h95 := (row?_below hb5 hl9).trans h9'
  clear hW hb5 h9' hD4
  obtain ⟨g11, hG11⟩ : ∃ g, g = w4.heap.size := ⟨_, rfl⟩
  rw [← hG11] at h11 hl9 ⊢
  clear hG11
  refine wp_region_steps (St := Unit) [some 51, some 52, some 53, some 54, some 55, none, none, some 8] [[], [], [], [], [2, 3], [0, 0], [1, 5, 0, 1, 5], [4, 6, 0, 1, 2, 3, 4, 5, 6]]
    (fun s i => ([.agg (encP q), .agg (encP z), .int .i64 (p.edge ai bi).2, .int .i64 nr, .bool ((p.edge ai bi).2 == nr), undef, undef, .bool ((p.edge ai bi).2 == nr)] : List Value).getD i undef)
    (fun d _ w' => Below w.heap.size w w' ∧ row? w' g9 = some (encP q) ∧ row? w' g11 = some (encP z) ∧ row? w' (w.heap.size + 1 + 1 + 1) = some (if d 5 then encP q else encP z) ∧ row? w' (w.heap.size + 1 + 1 + 1 + 1) = some (if d 6 then encP z else encP z))
    () rfl (by kernel_rfl) (by decide) (by simp) (by decide) ⟨hD5.below.drew, h95, h11, hD5.r6, hD5.r7⟩ ?_ ?_
  · intro d s w' i hi hd hne hcl hC a hev hot hsz K hK
    obtain ⟨hb, hr9, hr11, hr6, hr7⟩ := hC
    have hs6 : ∀ c : Bool, (if c = true then encP q else encP z).size = 100 := fun c => by cases c <;> exact encP_size _
    match i, hi with
    | 0, _ =>
      have e9 : a.eval (.tmp 9) = .pointer (some ⟨g9, 0, none⟩) := hot 9 (by decide)
      exact wpOp_load arrPool rfl e9 hr9 (encP_size _) (hK s w' (fun _ _ => rfl) ⟨hb, hr9, hr11, hr6, hr7⟩)
    | 1, _ =>
      have e11 : a.eval (.tmp 11) = .pointer (some ⟨g11, 0, none⟩) := hot 11 (by decide)
      exact wpOp_load arrRPool rfl e11 hr11 (encP_size _) (hK s w' (fun _ _ => rfl) ⟨hb, hr9, hr11, hr6, hr7⟩)
    | 2, _ =>
      have e10 : a.eval (.tmp 10) = .int .i64 (p.edge ai bi).2 := hot 10 (by decide)
      exact wpOp_run rfl rfl (by simp only [List.getElem_toArray, List.getElem_cons_zero, List.getElem_cons_succ, execOp, e10]; try simp [go_sem]) (hK s w' (fun _ _ => rfl) ⟨hb, hr9, hr11, hr6, hr7⟩)
    | 3, _ =>
      have e12 : a.eval (.tmp 12) = .int .i64 nr := hot 12 (by decide)
      exact wpOp_run rfl rfl (by simp only [List.getElem_toArray, List.getElem_cons_zero, List.getElem_cons_succ, execOp, e12]; try simp [go_sem]) (hK s w' (fun _ _ => rfl) ⟨hb, hr9, hr11, hr6, hr7⟩)
    | 4, _ =>
      have e53 : a.eval (.tmp 53) = .int .i64 (p.edge ai bi).2 := hev 2 53 (hne 2 (by simp)) rfl
      have e54 : a.eval (.tmp 54) = .int .i64 nr := hev 3 54 (hne 3 (by simp)) rfl
      exact wpOp_run rfl rfl (by simp only [List.getElem_toArray, List.getElem_cons_zero, List.getElem_cons_succ, execOp, e53, e54]; try simp [go_sem]) (hK s w' (fun _ _ => rfl) ⟨hb, hr9, hr11, hr6, hr7⟩)
    | 5, _ =>
      have e6 : a.eval (.tmp 6) = .pointer (some ⟨w.heap.size + 1 + 1 + 1, 0, none⟩) := hot 6 (by decide)
      have e51 : a.eval (.tmp 51) = .agg (encP q) := hev 0 51 (hne 0 (by simp)) rfl
      exact wpOp_store arrPool rfl e6 e51 hr6 (hs6 _) (encP_size _) (encP_all _) (hK s _ (fun _ _ => rfl) ⟨below_setRow hb (by omega) _, by rw [row?_setRow_other _ _ _ (by omega)]; exact hr9, by rw [row?_setRow_other _ _ _ (by omega)]; exact hr11, row?_setRow_same _ _ _ hr6, by rw [row?_setRow_other _ _ _ (by omega)]; exact hr7⟩)
    | 6, _ =>
      have e7 : a.eval (.tmp 7) = .pointer (some ⟨w.heap.size + 1 + 1 + 1 + 1, 0, none⟩) := hot 7 (by decide)
      have e52 : a.eval (.tmp 52) = .agg (encP z) := hev 1 52 (hne 1 (by simp)) rfl
      exact wpOp_store arrRPool rfl e7 e52 hr7 (by split <;> exact encP_size _) (encP_size _) (encP_all _) (hK s _ (fun _ _ => rfl) ⟨below_setRow hb (by omega) _, by rw [row?_setRow_other _ _ _ (by omega)]; exact hr9, by rw [row?_setRow_other _ _ _ (by omega)]; exact hr11, by rw [row?_setRow_other _ _ _ (by omega)]; exact hr6, row?_setRow_same _ _ _ hr7⟩)
    | 7, _ =>
      have e55 : a.eval (.tmp 55) = .bool ((p.edge ai bi).2 == nr) := hev 4 55 (hne 4 (by simp)) rfl
      exact wpOp_run rfl rfl (by simp only [List.getElem_toArray, List.getElem_cons_zero, List.getElem_cons_succ, execOp, e55]; try simp [go_sem]) (hK s w' (fun _ _ => rfl) ⟨hb, hr9, hr11, hr6, hr7⟩)
    | n + 8, hi => exact absurd hi (by simp)
  · rintro d _ w6 hall ⟨hb, hr9, hr11, hr6, hr7⟩
    rw [hall 5 (by decide)] at hr6
    rw [hall 6 (by decide)] at hr7
    simp only [if_true] at hr6 hr7
    have hB := Lib.hid hb
    have hl6 := row?_lt hr6
    have hl7 := row?_lt hr7
    clear hb hall hD5 h11 h95 hr9 hr11
    simp only [putL, List.getD_cons_zero, List.getD_cons_succ]
    go_simp
    go_wp2
    exact bodyPost_ret (res_cct arrPool arrRPool (cs := encP q) (cs2 := encP z) rfl _ _ rfl rfl rfl (by go_simp) (by go_simp)) rfl ⟨_, rfl, hB.out⟩

set_option maxHeartbeats 8000000 in
set_option maxRecDepth 100000 in
theorem does_end (p z : Pl) (hzp : (Tryd.prog.info? 54).map (·.zero) = some (some (.agg (encP z)))) (hzr : (Tryd.prog.info? 58).map (·.zero) = some (some (.agg (encP z)))) (hz0 : z = Pl.none) (k ai bi : Int) (hk : k % 6 = 4) (hk0 : 0 ≤ k) (hk1 : k < 256) (w : World) (hT : Tab w) :
    Calls Tryd.prog 29 #[.agg (encP p), .agg (encP z), .agg #[.int .u8 k, .int .i64 ai, .int .i64 bi]] w (DoesRet (p.end ai).1 z w) := by
  have hT0 := Lib.hid hT
  have hZ := Lib.hid hz0
  clear hT hz0
  have e2 : (k % 6 == 2) = false := by rw [hk]; rfl
  have e3 : (k % 6 == 3) = false := by rw [hk]; rfl
  have e4 : (k % 6 == 4) = true := by rw [hk]; rfl
  go_enter Tryd.func29, Tryd.ntmps29
  go_wp2_with (first | (with_reducible refine wpList_alloc_val hzp ?_) | (with_reducible refine wpList_alloc_val hzr ?_) | ((with_reducible refine wpList_load_arr arrPool ?_ ?_); go_simp; go_simp))
  obtain ⟨w1, hW⟩ : ∃ w1, w1 = ((((w.alloc (Obj.cells (encP p) 54)).alloc (Obj.cells (encP z) 58)).alloc (Obj.cells #[.int .u8 k, .int .i64 ai, .int .i64 bi] 63)).alloc (Obj.cells (encP z) 54)).alloc (Obj.cells (encP z) 58) := ⟨_, rfl⟩
  rw [← hW]
  have hD : DW w w1 p z k ai bi := by
    rw [hW]
    exact ⟨by go_simp, by go_simp, by go_simp, by go_simp, by go_simp, (below4 w _ _ _ _).alloc (by simp; omega) _⟩
  have hT1 : Hid (Tab w1) := hT0.out.next hD.below
  clear hW
  refine (end_any p ai _).mono ?_
  rintro e w2 ⟨rfl, hb2⟩
  have hD2 := hD.next hb2
  have hT2 : Hid (Tab w2) := hT0.out.next hD2.below
  clear hD hb2 hT1
  generalize hq : (p.end ai).1 = q at *
  have hQ := Lib.hid hq
  clear hq
  have hl2 : w.heap.size + 1 + 1 + 1 + 1 < w2.heap.size := row?_lt hD2.r7
  have k4 : ∀ o, row? (w2.alloc o) (w.heap.size + 1) = some (encP z) := fun o => (row?_below (below1 w2 o) (row?_lt hD2.r4)).trans hD2.r4
  have k5 : ∀ o, row? (w2.alloc o) (w.heap.size + 1 + 1) = some #[.int .u8 k, .int .i64 ai, .int .i64 bi] := fun o => (row?_below (below1 w2 o) (row?_lt hD2.r5)).trans hD2.r5
  go_wp2_with (first | (with_reducible refine wpList_alloc_val hzp ?_) | (with_reducible refine wpList_alloc_val hzr ?_) | ((with_reducible refine wpList_load_arr arrRPool ?_ ?_); go_simp; go_simp) | ((with_reducible refine wpList_store_arr arrPool (vs := encP q) ?_ ?_ (encP_size _) (encP_all _) ?_); exact rfl; go_simp; go_simp))
  obtain ⟨w3, hW⟩ : ∃ w3, w3 = w2.alloc (Obj.cells (encP q) 54) := ⟨_, rfl⟩
  rw [← hW]
  have h9 : row? w3 w2.heap.size = some (encP q) := by rw [hW]; go_simp
  have hb3 : Below w2.heap.size w2 w3 := by rw [hW]; exact below1 w2 _
  have hD3 := hD2.next hb3
  have hT3 : Hid (Tab w3) := hT0.out.next hD3.below
  clear hW hb3 k4 k5 hD2 hT2
  obtain ⟨g9, hG9⟩ : ∃ g, g = w2.heap.size := ⟨_, rfl⟩
  rw [← hG9] at h9 hl2 ⊢
  clear hG9
  have her := Lib.hid (endr_none ai w3)
  rw [← hZ.out] at her
  refine her.out.mono ?_
  rintro e w4 ⟨nr, rfl, hb4⟩
  have h9' := (row?_below hb4 (row?_lt h9)).trans h9
  have hD4 := hD3.next hb4
  have hl9 := row?_lt h9'
  clear h9 hD3 hb4 hT3
  go_wp2_with (first | (with_reducible refine wpList_alloc_val hzp ?_) | (with_reducible refine wpList_alloc_val hzr ?_) | ((with_reducible refine wpList_load_arr arrRPool ?_ ?_); go_simp; go_simp) | ((with_reducible refine wpList_store_arr arrRPool (vs := encP z) ?_ ?_ (encP_size _) (encP_all _) ?_); exact rfl; go_simp; go_simp))
  obtain ⟨w5, hW⟩ : ∃ w5, w5 = w4.alloc (Obj.cells (encP z) 58) := ⟨_, rfl⟩
  rw [← hW]
  have hb5 : Below w4.heap.size w4 w5 := by rw [hW]; exact below1 w4 _
  have h11 : row? w5 w4.heap.size = some (encP z) := by rw [hW]; go_simp
  have hD5 := hD4.next hb5
  have h95 := (row?_below hb5 hl9).trans h9'
  clear hW hb5 h9' hD4
  obtain ⟨g11, hG11⟩ : ∃ g, g = w4.heap.size := ⟨_, rfl⟩
  rw [← hG11] at h11 hl9 ⊢
  clear hG11
  refine wp_region_steps (St := Unit) [some 72, some 73, some 74, some 75, some 76, none, none, some 8] [[], [], [], [], [2, 3], [0, 0], [1, 5, 0, 1, 5], [4, 6, 0, 1, 2, 3, 4, 5, 6]]
    (fun s i => ([.agg (encP q), .agg (encP z), .int .i64 (p.end ai).2, .int .i64 nr, .bool ((p.end ai).2 == nr), undef, undef, .bool ((p.end ai).2 == nr)] : List Value).getD i undef)
    (fun d _ w' => Below w.heap.size w w' ∧ row? w' g9 = some (encP q) ∧ row? w' g11 = some (encP z) ∧ row? w' (w.heap.size + 1 + 1 + 1) = some (if d 5 then encP q else encP z) ∧ row? w' (w.heap.size + 1 + 1 + 1 + 1) = some (if d 6 then encP z else encP z))
    () rfl (by kernel_rfl) (by decide) (by simp) (by decide) ⟨hD5.below.drew, h95, h11, hD5.r6, hD5.r7⟩ ?_ ?_
  · intro d s w' i hi hd hne hcl hC a hev hot hsz K hK
    obtain ⟨hb, hr9, hr11, hr6, hr7⟩ := hC
    have hs6 : ∀ c : Bool, (if c = true then encP q else encP z).size = 100 := fun c => by cases c <;> exact encP_size _
    match i, hi with
    | 0, _ =>
      have e13 : a.eval (.tmp 13) = .pointer (some ⟨g9, 0, none⟩) := hot 13 (by decide)
      exact wpOp_load arrPool rfl e13 hr9 (encP_size _) (hK s w' (fun _ _ => rfl) ⟨hb, hr9, hr11, hr6, hr7⟩)
    | 1, _ =>
      have e15 : a.eval (.tmp 15) = .pointer (some ⟨g11, 0, none⟩) := hot 15 (by decide)
      exact wpOp_load arrRPool rfl e15 hr11 (encP_size _) (hK s w' (fun _ _ => rfl) ⟨hb, hr9, hr11, hr6, hr7⟩)
    | 2, _ =>
      have e14 : a.eval (.tmp 14) = .int .i64 (p.end ai).2 := hot 14 (by decide)
      exact wpOp_run rfl rfl (by simp only [List.getElem_toArray, List.getElem_cons_zero, List.getElem_cons_succ, execOp, e14]; try simp [go_sem]) (hK s w' (fun _ _ => rfl) ⟨hb, hr9, hr11, hr6, hr7⟩)
    | 3, _ =>
      have e16 : a.eval (.tmp 16) = .int .i64 nr := hot 16 (by decide)
      exact wpOp_run rfl rfl (by simp only [List.getElem_toArray, List.getElem_cons_zero, List.getElem_cons_succ, execOp, e16]; try simp [go_sem]) (hK s w' (fun _ _ => rfl) ⟨hb, hr9, hr11, hr6, hr7⟩)
    | 4, _ =>
      have e74 : a.eval (.tmp 74) = .int .i64 (p.end ai).2 := hev 2 74 (hne 2 (by simp)) rfl
      have e75 : a.eval (.tmp 75) = .int .i64 nr := hev 3 75 (hne 3 (by simp)) rfl
      exact wpOp_run rfl rfl (by simp only [List.getElem_toArray, List.getElem_cons_zero, List.getElem_cons_succ, execOp, e74, e75]; try simp [go_sem]) (hK s w' (fun _ _ => rfl) ⟨hb, hr9, hr11, hr6, hr7⟩)
    | 5, _ =>
      have e6 : a.eval (.tmp 6) = .pointer (some ⟨w.heap.size + 1 + 1 + 1, 0, none⟩) := hot 6 (by decide)
      have e72 : a.eval (.tmp 72) = .agg (encP q) := hev 0 72 (hne 0 (by simp)) rfl
      exact wpOp_store arrPool rfl e6 e72 hr6 (hs6 _) (encP_size _) (encP_all _) (hK s _ (fun _ _ => rfl) ⟨below_setRow hb (by omega) _, by rw [row?_setRow_other _ _ _ (by omega)]; exact hr9, by rw [row?_setRow_other _ _ _ (by omega)]; exact hr11, row?_setRow_same _ _ _ hr6, by rw [row?_setRow_other _ _ _ (by omega)]; exact hr7⟩)
    | 6, _ =>
      have e7 : a.eval (.tmp 7) = .pointer (some ⟨w.heap.size + 1 + 1 + 1 + 1, 0, none⟩) := hot 7 (by decide)
      have e73 : a.eval (.tmp 73) = .agg (encP z) := hev 1 73 (hne 1 (by simp)) rfl
      exact wpOp_store arrRPool rfl e7 e73 hr7 (by split <;> exact encP_size _) (encP_size _) (encP_all _) (hK s _ (fun _ _ => rfl) ⟨below_setRow hb (by omega) _, by rw [row?_setRow_other _ _ _ (by omega)]; exact hr9, by rw [row?_setRow_other _ _ _ (by omega)]; exact hr11, by rw [row?_setRow_other _ _ _ (by omega)]; exact hr6, row?_setRow_same _ _ _ hr7⟩)
    | 7, _ =>
      have e76 : a.eval (.tmp 76) = .bool ((p.end ai).2 == nr) := hev 4 76 (hne 4 (by simp)) rfl
      exact wpOp_run rfl rfl (by simp only [List.getElem_toArray, List.getElem_cons_zero, List.getElem_cons_succ, execOp, e76]; try simp [go_sem]) (hK s w' (fun _ _ => rfl) ⟨hb, hr9, hr11, hr6, hr7⟩)
    | n + 8, hi => exact absurd hi (by simp)
  · rintro d _ w6 hall ⟨hb, hr9, hr11, hr6, hr7⟩
    rw [hall 5 (by decide)] at hr6
    rw [hall 6 (by decide)] at hr7
    simp only [if_true] at hr6 hr7
    have hB := Lib.hid hb
    have hl6 := row?_lt hr6
    have hl7 := row?_lt hr7
    clear hb hall hD5 h11 h95 hr9 hr11
    simp only [putL, List.getD_cons_zero, List.getD_cons_succ]
    go_simp
    go_wp2
    exact bodyPost_ret (res_cct arrPool arrRPool (cs := encP q) (cs2 := encP z) rfl _ _ rfl rfl rfl (by go_simp) (by go_simp)) rfl ⟨_, rfl, hB.out⟩

set_option maxHeartbeats 8000000 in
set_option maxRecDepth 100000 in
theorem does_collect (p z : Pl) (hzp : (Tryd.prog.info? 54).map (·.zero) = some (some (.agg (encP z)))) (hzr : (Tryd.prog.info? 58).map (·.zero) = some (some (.agg (encP z)))) (hz0 : z = Pl.none) (k ai bi : Int) (hk : k % 6 = 5) (hk0 : 0 ≤ k) (hk1 : k < 256) (w : World) (hT : Tab w) :
    Calls Tryd.prog 29 #[.agg (encP p), .agg (encP z), .agg #[.int .u8 k, .int .i64 ai, .int .i64 bi]] w (DoesRet p.collects.1 z w) := by
  have hT0 := Lib.hid hT
  have hZ := Lib.hid hz0
  clear hT hz0
  have e2 : (k % 6 == 2) = false := by rw [hk]; rfl
  have e3 : (k % 6 == 3) = false := by rw [hk]; rfl
  have e4 : (k % 6 == 4) = false := by rw [hk]; rfl
  have e5 : (k % 6 == 5) = true := by rw [hk]; rfl
  go_enter Tryd.func29, Tryd.ntmps29
  go_wp2_with (first | (with_reducible refine wpList_alloc_val hzp ?_) | (with_reducible refine wpList_alloc_val hzr ?_) | ((with_reducible refine wpList_load_arr arrPool ?_ ?_); go_simp; go_simp))
  obtain ⟨w1, hW⟩ : ∃ w1, w1 = ((((w.alloc (Obj.cells (encP p) 54)).alloc (Obj.cells (encP z) 58)).alloc (Obj.cells #[.int .u8 k, .int .i64 ai, .int .i64 bi] 63)).alloc (Obj.cells (encP z) 54)).alloc (Obj.cells (encP z) 58) := ⟨_, rfl⟩
  rw [← hW]
  have hD : DW w w1 p z k ai bi := by
    rw [hW]
    exact ⟨by go_simp, by go_simp, by go_simp, by go_simp, by go_simp, (below4 w _ _ _ _).alloc (by simp; omega) _⟩
  have hT1 : Hid (Tab w1) := hT0.out.next hD.below
  clear hW
  refine (collect_any p _ hT1.out).mono ?_
  rintro e w2 ⟨v, rfl, hown, hb2⟩
  obtain ⟨ad, sn, cap, rfl⟩ : ∃ ad sn cap, v = .slice ad sn cap := by
    rcases hown.open with ⟨rfl, _⟩ | ⟨g, cap, rfl, _⟩ <;> exact ⟨_, _, _, rfl⟩
  clear hown
  have hD2 := hD.next hb2
  have hT2 : Hid (Tab w2) := hT0.out.next hD2.below
  clear hD hb2 hT1
  generalize hq : p.collects.1 = q at *
  have hQ := Lib.hid hq
  clear hq
  have hl2 : w.heap.size + 1 + 1 + 1 + 1 < w2.heap.size := row?_lt hD2.r7
  have k4 : ∀ o, row? (w2.alloc o) (w.heap.size + 1) = some (encP z) := fun o => (row?_below (below1 w2 o) (row?_lt hD2.r4)).trans hD2.r4
  have k5 : ∀ o, row? (w2.alloc o) (w.heap.size + 1 + 1) = some #[.int .u8 k, .int .i64 ai, .int .i64 bi] := fun o => (row?_below (below1 w2 o) (row?_lt hD2.r5)).trans hD2.r5
  go_wp2_with (first | (with_reducible refine wpList_alloc_val hzp ?_) | (with_reducible refine wpList_alloc_val hzr ?_) | ((with_reducible refine wpList_load_arr arrRPool ?_ ?_); go_simp; go_simp) | ((with_reducible refine wpList_store_arr arrPool (vs := encP q) ?_ ?_ (encP_size _) (encP_all _) ?_); exact rfl; go_simp; go_simp))
  obtain ⟨w3, hW⟩ : ∃ w3, w3 = w2.alloc (Obj.cells (encP q) 54) := ⟨_, rfl⟩
  rw [← hW]
  have h9 : row? w3 w2.heap.size = some (encP q) := by rw [hW]; go_simp
  have hb3 : Below w2.heap.size w2 w3 := by rw [hW]; exact below1 w2 _
  have hD3 := hD2.next hb3
  have hT3 : Hid (Tab w3) := hT0.out.next hD3.below
  clear hW hb3 k4 k5 hD2 hT2
  obtain ⟨g9, hG9⟩ : ∃ g, g = w2.heap.size := ⟨_, rfl⟩
  rw [← hG9] at h9 hl2 ⊢
  clear hG9
  have her := Lib.hid (collectr_none w3)
  rw [← hZ.out] at her
  refine her.out.mono ?_
  rintro e w4 ⟨rfl, hb4⟩
  have h9' := (row?_below hb4 (row?_lt h9)).trans h9
  have hD4 := hD3.next hb4
  have hl9 := row?_lt h9'
  clear h9 hD3 hb4 hT3
  go_wp2_with (first | (with_reducible refine wpList_alloc_val hzp ?_) | (with_reducible refine wpList_alloc_val hzr ?_) | ((with_reducible refine wpList_load_arr arrRPool ?_ ?_); go_simp; go_simp) | ((with_reducible refine wpList_store_arr arrRPool (vs := encP z) ?_ ?_ (encP_size _) (encP_all _) ?_); exact rfl; go_simp; go_simp))
  obtain ⟨w5, hW⟩ : ∃ w5, w5 = w4.alloc (Obj.cells (encP z) 58) := ⟨_, rfl⟩
  rw [← hW]
  have hb5 : Below w4.heap.size w4 w5 := by rw [hW]; exact below1 w4 _
  have h11 : row? w5 w4.heap.size = some (encP z) := by rw [hW]; go_simp
  have hD5 := hD4.next hb5
  have h95 := (row?_below hb5 hl9).trans h9'
  clear hW hb5 h9' hD4
  obtain ⟨g11, hG11⟩ : ∃ g, g = w4.heap.size := ⟨_, rfl⟩
  rw [← hG11] at h11 hl9 ⊢
  clear hG11
  refine wp_region_steps (St := Unit) [some 89, some 90, some 91, some 92, some 93, none, none, some 8] [[], [], [], [], [2, 3], [0, 4, 0], [1, 5, 0, 1, 5], [4, 6, 0, 1, 2, 3, 4, 5, 6]]
    (fun s i => ([.agg (encP q), .agg (encP z), .slice ad sn cap, .slice none 0 0, .bool (sn == 0), undef, undef, .bool (sn == 0)] : List Value).getD i undef)
    (fun d _ w' => Below w.heap.size w w' ∧ row? w' g9 = some (encP q) ∧ row? w' g11 = some (encP z) ∧ row? w' (w.heap.size + 1 + 1 + 1) = some (if d 5 then encP q else encP z) ∧ row? w' (w.heap.size + 1 + 1 + 1 + 1) = some (if d 6 then encP z else encP z))
    () rfl (by kernel_rfl) (by decide) (by simp) (by decide) ⟨hD5.below.drew, h95, h11, hD5.r6, hD5.r7⟩ ?_ ?_
  · intro d s w' i hi hd hne hcl hC a hev hot hsz K hK
    obtain ⟨hb, hr9, hr11, hr6, hr7⟩ := hC
    have hs6 : ∀ c : Bool, (if c = true then encP q else encP z).size = 100 := fun c => by cases c <;> exact encP_size _
    match i, hi with
    | 0, _ =>
      have e17 : a.eval (.tmp 17) = .pointer (some ⟨g9, 0, none⟩) := hot 17 (by decide)
      exact wpOp_load arrPool rfl e17 hr9 (encP_size _) (hK s w' (fun _ _ => rfl) ⟨hb, hr9, hr11, hr6, hr7⟩)
    | 1, _ =>
      have e19 : a.eval (.tmp 19) = .pointer (some ⟨g11, 0, none⟩) := hot 19 (by decide)
      exact wpOp_load arrRPool rfl e19 hr11 (encP_size _) (hK s w' (fun _ _ => rfl) ⟨hb, hr9, hr11, hr6, hr7⟩)
    | 2, _ =>
      have e18 : a.eval (.tmp 18) = .slice ad sn cap := hot 18 (by decide)
      exact wpOp_run rfl rfl (by simp only [List.getElem_toArray, List.getElem_cons_zero, List.getElem_cons_succ, execOp, e18]; try simp [go_sem]) (hK s w' (fun _ _ => rfl) ⟨hb, hr9, hr11, hr6, hr7⟩)
    | 3, _ =>
      have e20 : a.eval (.tmp 20) = .slice none 0 0 := hot 20 (by decide)
      exact wpOp_run rfl rfl (by simp only [List.getElem_toArray, List.getElem_cons_zero, List.getElem_cons_succ, execOp, e20]; try simp [go_sem]) (hK s w' (fun _ _ => rfl) ⟨hb, hr9, hr11, hr6, hr7⟩)
    | 4, _ =>
      have e91 : a.eval (.tmp 91) = .slice ad sn cap := hev 2 91 (hne 2 (by simp)) rfl
      have e92 : a.eval (.tmp 92) = .slice none 0 0 := hev 3 92 (hne 3 (by simp)) rfl
      refine wpOp_call rfl ⟨_, Tryd.func58, by kernel_rfl, by kernel_rfl⟩ ?_
      simp only [List.map_toArray, List.map_cons, List.map_nil, e91, e92]
      refine (same_nil sn cap ad w').mono ?_
      rintro e w2 ⟨rfl, hb2⟩
      exact ⟨_, rfl, hK s w2 (fun _ _ => rfl) ⟨hb.trans (hb2.mono hb.size), (row?_below hb2 (row?_lt hr9)).trans hr9, (row?_below hb2 (row?_lt hr11)).trans hr11, (row?_below hb2 (row?_lt hr6)).trans hr6, (row?_below hb2 (row?_lt hr7)).trans hr7⟩⟩
    | 5, _ =>
      have e6 : a.eval (.tmp 6) = .pointer (some ⟨w.heap.size + 1 + 1 + 1, 0, none⟩) := hot 6 (by decide)
      have e89 : a.eval (.tmp 89) = .agg (encP q) := hev 0 89 (hne 0 (by simp)) rfl
      exact wpOp_store arrPool rfl e6 e89 hr6 (hs6 _) (encP_size _) (encP_all _) (hK s _ (fun _ _ => rfl) ⟨below_setRow hb (by omega) _, by rw [row?_setRow_other _ _ _ (by omega)]; exact hr9, by rw [row?_setRow_other _ _ _ (by omega)]; exact hr11, row?_setRow_same _ _ _ hr6, by rw [row?_setRow_other _ _ _ (by omega)]; exact hr7⟩)
    | 6, _ =>
      have e7 : a.eval (.tmp 7) = .pointer (some ⟨w.heap.size + 1 + 1 + 1 + 1, 0, none⟩) := hot 7 (by decide)
      have e90 : a.eval (.tmp 90) = .agg (encP z) := hev 1 90 (hne 1 (by simp)) rfl
      exact wpOp_store arrRPool rfl e7 e90 hr7 (by split <;> exact encP_size _) (encP_size _) (encP_all _) (hK s _ (fun _ _ => rfl) ⟨below_setRow hb (by omega) _, by rw [row?_setRow_other _ _ _ (by omega)]; exact hr9, by rw [row?_setRow_other _ _ _ (by omega)]; exact hr11, by rw [row?_setRow_other _ _ _ (by omega)]; exact hr6, row?_setRow_same _ _ _ hr7⟩)
    | 7, _ =>
      have e93 : a.eval (.tmp 93) = .bool (sn == 0) := hev 4 93 (hne 4 (by simp)) rfl
      exact wpOp_run rfl rfl (by simp only [List.getElem_toArray, List.getElem_cons_zero, List.getElem_cons_succ, execOp, e93]; try simp [go_sem]) (hK s w' (fun _ _ => rfl) ⟨hb, hr9, hr11, hr6, hr7⟩)
    | n + 8, hi => exact absurd hi (by simp)
  · rintro d _ w6 hall ⟨hb, hr9, hr11, hr6, hr7⟩
    rw [hall 5 (by decide)] at hr6
    rw [hall 6 (by decide)] at hr7
    simp only [if_true] at hr6 hr7
    have hB := Lib.hid hb
    have hl6 := row?_lt hr6
    have hl7 := row?_lt hr7
    clear hb hall hD5 h11 h95 hr9 hr11
    simp only [putL, List.getD_cons_zero, List.getD_cons_succ]
    go_simp
    go_wp2
    exact bodyPost_ret (res_cct arrPool arrRPool (cs := encP q) (cs2 := encP z) rfl _ _ rfl rfl rfl (by go_simp) (by go_simp)) rfl ⟨_, rfl, hB.out⟩

set_option maxHeartbeats 8000000 in
set_option maxRecDepth 100000 in
theorem does_begin (p z : Pl) (hzp : (Tryd.prog.info? 54).map (·.zero) = some (some (.agg (encP z)))) (hzr : (Tryd.prog.info? 58).map (·.zero) = some (some (.agg (encP z)))) (hz0 : z = Pl.none) (k ai bi : Int) (hk : k % 6 ≠ 2 ∧ k % 6 ≠ 3 ∧ k % 6 ≠ 4 ∧ k % 6 ≠ 5) (hk0 : 0 ≤ k) (hk1 : k < 256) (hc0 : 0 ≤ p.count) (hc1 : p.count ≤ 1000000) (w : World) (hT : Tab w) :
    Calls Tryd.prog 29 #[.agg (encP p), .agg (encP z), .agg #[.int .u8 k, .int .i64 ai, .int .i64 bi]] w (DoesRet p.begin.1 z w) := by
  have hT0 := Lib.hid hT
  have hZ := Lib.hid hz0
  clear hT hz0
  have e2 : (k % 6 == 2) = false := by simpa using hk.1
  have e3 : (k % 6 == 3) = false := by simpa using hk.2.1
  have e4 : (k % 6 == 4) = false := by simpa using hk.2.2.1
  have e5 : (k % 6 == 5) = false := by simpa using hk.2.2.2
  go_enter Tryd.func29, Tryd.ntmps29
  go_wp2_with (first | (with_reducible refine wpList_alloc_val hzp ?_) | (with_reducible refine wpList_alloc_val hzr ?_) | ((with_reducible refine wpList_load_arr arrPool ?_ ?_); go_simp; go_simp))
  obtain ⟨w1, hW⟩ : ∃ w1, w1 = ((((w.alloc (Obj.cells (encP p) 54)).alloc (Obj.cells (encP z) 58)).alloc (Obj.cells #[.int .u8 k, .int .i64 ai, .int .i64 bi] 63)).alloc (Obj.cells (encP z) 54)).alloc (Obj.cells (encP z) 58) := ⟨_, rfl⟩
  rw [← hW]
  have hD : DW w w1 p z k ai bi := by
    rw [hW]
    exact ⟨by go_simp, by go_simp, by go_simp, by go_simp, by go_simp, (below4 w _ _ _ _).alloc (by simp; omega) _⟩
  have hT1 : Hid (Tab w1) := hT0.out.next hD.below
  clear hW
  refine (begin_any p _ hT1.out hc0 hc1).mono ?_
  rintro e w2 ⟨rfl, hb2⟩
  have hD2 := hD.next hb2
  have hT2 : Hid (Tab w2) := hT0.out.next hD2.below
  clear hD hb2 hT1
  generalize hq : p.begin.1 = q at *
  have hQ := Lib.hid hq
  clear hq
  generalize p.begin.2.1 = x1 at *
  generalize p.begin.2.2 = x2 at *
  have hl2 : w.heap.size + 1 + 1 + 1 + 1 < w2.heap.size := row?_lt hD2.r7
  have k4 : ∀ o, row? (w2.alloc o) (w.heap.size + 1) = some (encP z) := fun o => (row?_below (below1 w2 o) (row?_lt hD2.r4)).trans hD2.r4
  have k5 : ∀ o, row? (w2.alloc o) (w.heap.size + 1 + 1) = some #[.int .u8 k, .int .i64 ai, .int .i64 bi] := fun o => (row?_below (below1 w2 o) (row?_lt hD2.r5)).trans hD2.r5
  go_wp2_with (first | (with_reducible refine wpList_alloc_val hzp ?_) | (with_reducible refine wpList_alloc_val hzr ?_) | ((with_reducible refine wpList_load_arr arrRPool ?_ ?_); go_simp; go_simp) | ((with_reducible refine wpList_store_arr arrPool (vs := encP q) ?_ ?_ (encP_size _) (encP_all _) ?_); exact rfl; go_simp; go_simp))
  obtain ⟨w3, hW⟩ : ∃ w3, w3 = w2.alloc (Obj.cells (encP q) 54) := ⟨_, rfl⟩
  rw [← hW]
  have h9 : row? w3 w2.heap.size = some (encP q) := by rw [hW]; go_simp
  have hb3 : Below w2.heap.size w2 w3 := by rw [hW]; exact below1 w2 _
  have hD3 := hD2.next hb3
  have hT3 : Hid (Tab w3) := hT0.out.next hD3.below
  clear hW hb3 k4 k5 hD2 hT2
  obtain ⟨g9, hG9⟩ : ∃ g, g = w2.heap.size := ⟨_, rfl⟩
  rw [← hG9] at h9 hl2 ⊢
  clear hG9
  have her := Lib.hid (beginr_none w3)
  rw [← hZ.out] at her
  refine her.out.mono ?_
  rintro e w4 ⟨na, nb, rfl, hb4⟩
  have h9' := (row?_below hb4 (row?_lt h9)).trans h9
  have hD4 := hD3.next hb4
  have hl9 := row?_lt h9'
  clear h9 hD3 hb4 hT3
  go_wp2_with (first | (with_reducible refine wpList_alloc_val hzp ?_) | (with_reducible refine wpList_alloc_val hzr ?_) | ((with_reducible refine wpList_load_arr arrRPool ?_ ?_); go_simp; go_simp) | ((with_reducible refine wpList_store_arr arrRPool (vs := encP z) ?_ ?_ (encP_size _) (encP_all _) ?_); exact rfl; go_simp; go_simp))
  obtain ⟨w5, hW⟩ : ∃ w5, w5 = w4.alloc (Obj.cells (encP z) 58) := ⟨_, rfl⟩
  rw [← hW]
  have hb5 : Below w4.heap.size w4 w5 := by rw [hW]; exact below1 w4 _
  have h11 : row? w5 w4.heap.size = some (encP z) := by rw [hW]; go_simp
  have hD5 := hD4.next hb5
  have h95 := (row?_below hb5 hl9).trans h9'
  clear hW hb5 h9' hD4
  obtain ⟨g11, hG11⟩ : ∃ g, g = w4.heap.size := ⟨_, rfl⟩
  rw [← hG11] at h11 hl9 ⊢
  clear hG11
  cases hcmp : (x1 == na) with
  | false =>
    refine wp_region_steps (St := Unit) [some 106, some 107, some 108, some 109, some 110, some 111, some 112, some 113, some 114, some 115, none, none, some 8] [[], [], [], [], [2, 3], [4], [5], [5], [6, 7, 5], [5, 8], [0, 5, 0], [1, 10, 0, 1, 10], [9, 11, 0, 1, 2, 3, 4, 5, 6, 7, 8, 9, 10, 11]]
      (fun s i => ([.agg (encP q), .agg (encP z), .int .i64 x1, .int .i64 na, .bool (x1 == na), .bool (x1 == na), undef, undef, undef, .bool false, undef, undef, .bool false] : List Value).getD i undef)
      (fun d _ w' => Below w.heap.size w w' ∧ row? w' g9 = some (encP q) ∧ row? w' g11 = some (encP z) ∧ row? w' (w.heap.size + 1 + 1 + 1) = some (if d 10 then encP q else encP z) ∧ row? w' (w.heap.size + 1 + 1 + 1 + 1) = some (if d 11 then encP z else encP z))
      () rfl (by kernel_rfl) (by decide) (by simp) (by decide) ⟨hD5.below.drew, h95, h11, hD5.r6, hD5.r7⟩ ?_ ?_
    · intro d s w' i hi hd hne hcl hC a hev hot hsz K hK
      obtain ⟨hb, hr9, hr11, hr6, hr7⟩ := hC
      have hs6 : ∀ c : Bool, (if c = true then encP q else encP z).size = 100 := fun c => by cases c <;> exact encP_size _
      match i, hi with
      | 0, _ =>
        have e21 : a.eval (.tmp 21) = .pointer (some ⟨g9, 0, none⟩) := hot 21 (by decide)
        exact wpOp_load arrPool rfl e21 hr9 (encP_size _) (hK s w' (fun _ _ => rfl) ⟨hb, hr9, hr11, hr6, hr7⟩)
      | 1, _ =>
        have e24 : a.eval (.tmp 24) = .pointer (some ⟨g11, 0, none⟩) := hot 24 (by decide)
        exact wpOp_load arrRPool rfl e24 hr11 (encP_size _) (hK s w' (fun _ _ => rfl) ⟨hb, hr9, hr11, hr6, hr7⟩)
      | 2, _ =>
        have e22 : a.eval (.tmp 22) = .int .i64 x1 := hot 22 (by decide)
        exact wpOp_run rfl rfl (by simp only [List.getElem_toArray, List.getElem_cons_zero, List.getElem_cons_succ, execOp, e22]; try simp [hcmp, go_sem]) (hK s w' (fun _ _ => rfl) ⟨hb, hr9, hr11, hr6, hr7⟩)
      | 3, _ =>
        have e25 : a.eval (.tmp 25) = .int .i64 na := hot 25 (by decide)
        exact wpOp_run rfl rfl (by simp only [List.getElem_toArray, List.getElem_cons_zero, List.getElem_cons_succ, execOp, e25]; try simp [hcmp, go_sem]) (hK s w' (fun _ _ => rfl) ⟨hb, hr9, hr11, hr6, hr7⟩)
      | 4, _ =>
        have e108 : a.eval (.tmp 108) = .int .i64 x1 := hev 2 108 (hne 2 (by simp)) rfl
        have e109 : a.eval (.tmp 109) = .int .i64 na := hev 3 109 (hne 3 (by simp)) rfl
        exact wpOp_run rfl rfl (by simp only [List.getElem_toArray, List.getElem_cons_zero, List.getElem_cons_succ, execOp, e108, e109]; try simp [hcmp, go_sem]) (hK s w' (fun _ _ => rfl) ⟨hb, hr9, hr11, hr6, hr7⟩)
      | 5, _ =>
        have e110 : a.eval (.tmp 110) = .bool (x1 == na) := hev 4 110 (hne 4 (by simp)) rfl
        exact wpOp_run rfl rfl (by simp only [List.getElem_toArray, List.getElem_cons_zero, List.getElem_cons_succ, execOp, e110]; try simp [hcmp, go_sem]) (hK s w' (fun _ _ => rfl) ⟨hb, hr9, hr11, hr6, hr7⟩)
      | 6, _ =>
        have e23 : a.eval (.tmp 23) = .int .i64 x2 := hot 23 (by decide)
        have e111 : a.eval (.tmp 111) = .bool (x1 == na) := hev 5 111 (hne 5 (by simp)) rfl
        exact wpOp_skip rfl (by simp only [List.getElem_toArray, List.getElem_cons_zero, List.getElem_cons_succ, Region.wanted]; rw [yielded_bool (j := 5) (t := 111) rfl e111, hcmp]; rfl) (hK s w' (fun _ _ => rfl) ⟨hb, hr9, hr11, hr6, hr7⟩)
      | 7, _ =>
        have e26 : a.eval (.tmp 26) = .int .i64 nb := hot 26 (by decide)
        have e111 : a.eval (.tmp 111) = .bool (x1 == na) := hev 5 111 (hne 5 (by simp)) rfl
        exact wpOp_skip rfl (by simp only [List.getElem_toArray, List.getElem_cons_zero, List.getElem_cons_succ, Region.wanted]; rw [yielded_bool (j := 5) (t := 111) rfl e111, hcmp]; rfl) (hK s w' (fun _ _ => rfl) ⟨hb, hr9, hr11, hr6, hr7⟩)
      | 8, _ =>
        have e112 : a.eval (.tmp 112) = undef := hev 6 112 (hne 6 (by simp)) rfl
        have e113 : a.eval (.tmp 113) = undef := hev 7 113 (hne 7 (by simp)) rfl
        have e111 : a.eval (.tmp 111) = .bool (x1 == na) := hev 5 111 (hne 5 (by simp)) rfl
        exact wpOp_skip rfl (by simp only [List.getElem_toArray, List.getElem_cons_zero, List.getElem_cons_succ, Region.wanted]; rw [yielded_bool (j := 5) (t := 111) rfl e111, hcmp]; rfl) (hK s w' (fun _ _ => rfl) ⟨hb, hr9, hr11, hr6, hr7⟩)
      | 9, _ =>
        have e111 : a.eval (.tmp 111) = .bool (x1 == na) := hev 5 111 (hne 5 (by simp)) rfl
        have e114 : a.eval (.tmp 114) = undef := hev 8 114 (hne 8 (by simp)) rfl
        exact wpOp_run rfl rfl (by simp only [List.getElem_toArray, List.getElem_cons_zero, List.getElem_cons_succ, execOp, e111, e114]; try simp [hcmp, go_sem]) (hK s w' (fun _ _ => rfl) ⟨hb, hr9, hr11, hr6, hr7⟩)
      | 10, _ =>
        have e6 : a.eval (.tmp 6) = .pointer (some ⟨w.heap.size + 1 + 1 + 1, 0, none⟩) := hot 6 (by decide)
        have e106 : a.eval (.tmp 106) = .agg (encP q) := hev 0 106 (hne 0 (by simp)) rfl
        exact wpOp_store arrPool rfl e6 e106 hr6 (hs6 _) (encP_size _) (encP_all _) (hK s _ (fun _ _ => rfl) ⟨below_setRow hb (by omega) _, by rw [row?_setRow_other _ _ _ (by omega)]; exact hr9, by rw [row?_setRow_other _ _ _ (by omega)]; exact hr11, row?_setRow_same _ _ _ hr6, by rw [row?_setRow_other _ _ _ (by omega)]; exact hr7⟩)
      | 11, _ =>
        have e7 : a.eval (.tmp 7) = .pointer (some ⟨w.heap.size + 1 + 1 + 1 + 1, 0, none⟩) := hot 7 (by decide)
        have e107 : a.eval (.tmp 107) = .agg (encP z) := hev 1 107 (hne 1 (by simp)) rfl
        exact wpOp_store arrRPool rfl e7 e107 hr7 (by split <;> exact encP_size _) (encP_size _) (encP_all _) (hK s _ (fun _ _ => rfl) ⟨below_setRow hb (by omega) _, by rw [row?_setRow_other _ _ _ (by omega)]; exact hr9, by rw [row?_setRow_other _ _ _ (by omega)]; exact hr11, by rw [row?_setRow_other _ _ _ (by omega)]; exact hr6, row?_setRow_same _ _ _ hr7⟩)
      | 12, _ =>
        have e115 : a.eval (.tmp 115) = .bool false := hev 9 115 (hne 9 (by simp)) rfl
        exact wpOp_run rfl rfl (by simp only [List.getElem_toArray, List.getElem_cons_zero, List.getElem_cons_succ, execOp, e115]; try simp [hcmp, go_sem]) (hK s w' (fun _ _ => rfl) ⟨hb, hr9, hr11, hr6, hr7⟩)
      | n + 13, hi => exact absurd hi (by simp)
    · rintro d _ w6 hall ⟨hb, hr9, hr11, hr6, hr7⟩
      rw [hall 10 (by decide)] at hr6
      rw [hall 11 (by decide)] at hr7
      simp only [if_true] at hr6 hr7
      have hB := Lib.hid hb
      have hl6 := row?_lt hr6
      have hl7 := row?_lt hr7
      clear hb hall hD5 h11 h95 hr9 hr11
      simp only [putL, List.getD_cons_zero, List.getD_cons_succ]
      go_simp
      go_wp2
      exact bodyPost_ret (res_cct arrPool arrRPool (cs := encP q) (cs2 := encP z) rfl _ _ rfl rfl rfl (by go_simp) (by go_simp)) rfl ⟨_, rfl, hB.out⟩
  | true =>
    refine wp_region_steps (St := Unit) [some 106, some 107, some 108, some 109, some 110, some 111, some 112, some 113, some 114, some 115, none, none, some 8] [[], [], [], [], [2, 3], [4], [5], [5], [6, 7, 5], [5, 8], [0, 5, 0], [1, 10, 0, 1, 10], [9, 11, 0, 1, 2, 3, 4, 5, 6, 7, 8, 9, 10, 11]]
      (fun s i => ([.agg (encP q), .agg (encP z), .int .i64 x1, .int .i64 na, .bool (x1 == na), .bool (x1 == na), .int .i64 x2, .int .i64 nb, .bool (x2 == nb), .bool (x2 == nb), undef, undef, .bool (x2 == nb)] : List Value).getD i undef)
      (fun d _ w' => Below w.heap.size w w' ∧ row? w' g9 = some (encP q) ∧ row? w' g11 = some (encP z) ∧ row? w' (w.heap.size + 1 + 1 + 1) = some (if d 10 then encP q else encP z) ∧ row? w' (w.heap.size + 1 + 1 + 1 + 1) = some (if d 11 then encP z else encP z))
      () rfl (by kernel_rfl) (by decide) (by simp) (by decide) ⟨hD5.below.drew, h95, h11, hD5.r6, hD5.r7⟩ ?_ ?_
    · intro d s w' i hi hd hne hcl hC a hev hot hsz K hK
      obtain ⟨hb, hr9, hr11, hr6, hr7⟩ := hC
      have hs6 : ∀ c : Bool, (if c = true then encP q else encP z).size = 100 := fun c => by cases c <;> exact encP_size _
      match i, hi with
      | 0, _ =>
        have e21 : a.eval (.tmp 21) = .pointer (some ⟨g9, 0, none⟩) := hot 21 (by decide)
        exact wpOp_load arrPool rfl e21 hr9 (encP_size _) (hK s w' (fun _ _ => rfl) ⟨hb, hr9, hr11, hr6, hr7⟩)
      | 1, _ =>
        have e24 : a.eval (.tmp 24) = .pointer (some ⟨g11, 0, none⟩) := hot 24 (by decide)
        exact wpOp_load arrRPool rfl e24 hr11 (encP_size _) (hK s w' (fun _ _ => rfl) ⟨hb, hr9, hr11, hr6, hr7⟩)
      | 2, _ =>
        have e22 : a.eval (.tmp 22) = .int .i64 x1 := hot 22 (by decide)
        exact wpOp_run rfl rfl (by simp only [List.getElem_toArray, List.getElem_cons_zero, List.getElem_cons_succ, execOp, e22]; try simp [hcmp, go_sem]) (hK s w' (fun _ _ => rfl) ⟨hb, hr9, hr11, hr6, hr7⟩)
      | 3, _ =>
        have e25 : a.eval (.tmp 25) = .int .i64 na := hot 25 (by decide)
        exact wpOp_run rfl rfl (by simp only [List.getElem_toArray, List.getElem_cons_zero, List.getElem_cons_succ, execOp, e25]; try simp [hcmp, go_sem]) (hK s w' (fun _ _ => rfl) ⟨hb, hr9, hr11, hr6, hr7⟩)
      | 4, _ =>
        have e108 : a.eval (.tmp 108) = .int .i64 x1 := hev 2 108 (hne 2 (by simp)) rfl
        have e109 : a.eval (.tmp 109) = .int .i64 na := hev 3 109 (hne 3 (by simp)) rfl
        exact wpOp_run rfl rfl (by simp only [List.getElem_toArray, List.getElem_cons_zero, List.getElem_cons_succ, execOp, e108, e109]; try simp [hcmp, go_sem]) (hK s w' (fun _ _ => rfl) ⟨hb, hr9, hr11, hr6, hr7⟩)
      | 5, _ =>
        have e110 : a.eval (.tmp 110) = .bool (x1 == na) := hev 4 110 (hne 4 (by simp)) rfl
        exact wpOp_run rfl rfl (by simp only [List.getElem_toArray, List.getElem_cons_zero, List.getElem_cons_succ, execOp, e110]; try simp [hcmp, go_sem]) (hK s w' (fun _ _ => rfl) ⟨hb, hr9, hr11, hr6, hr7⟩)
      | 6, _ =>
        have e23 : a.eval (.tmp 23) = .int .i64 x2 := hot 23 (by decide)
        have e111 : a.eval (.tmp 111) = .bool (x1 == na) := hev 5 111 (hne 5 (by simp)) rfl
        exact wpOp_run rfl (by simp only [List.getElem_toArray, List.getElem_cons_zero, List.getElem_cons_succ, Region.wanted]; rw [yielded_bool (j := 5) (t := 111) rfl e111, hcmp]; rfl) (by simp only [List.getElem_toArray, List.getElem_cons_zero, List.getElem_cons_succ, execOp, e23]; try simp [hcmp, go_sem]) (hK s w' (fun _ _ => rfl) ⟨hb, hr9, hr11, hr6, hr7⟩)
      | 7, _ =>
        have e26 : a.eval (.tmp 26) = .int .i64 nb := hot 26 (by decide)
        have e111 : a.eval (.tmp 111) = .bool (x1 == na) := hev 5 111 (hne 5 (by simp)) rfl
        exact wpOp_run rfl (by simp only [List.getElem_toArray, List.getElem_cons_zero, List.getElem_cons_succ, Region.wanted]; rw [yielded_bool (j := 5) (t := 111) rfl e111, hcmp]; rfl) (by simp only [List.getElem_toArray, List.getElem_cons_zero, List.getElem_cons_succ, execOp, e26]; try simp [hcmp, go_sem]) (hK s w' (fun _ _ => rfl) ⟨hb, hr9, hr11, hr6, hr7⟩)
      | 8, _ =>
        have e112 : a.eval (.tmp 112) = .int .i64 x2 := hev 6 112 (hne 6 (by simp)) rfl
        have e113 : a.eval (.tmp 113) = .int .i64 nb := hev 7 113 (hne 7 (by simp)) rfl
        have e111 : a.eval (.tmp 111) = .bool (x1 == na) := hev 5 111 (hne 5 (by simp)) rfl
        exact wpOp_run rfl (by simp only [List.getElem_toArray, List.getElem_cons_zero, List.getElem_cons_succ, Region.wanted]; rw [yielded_bool (j := 5) (t := 111) rfl e111, hcmp]; rfl) (by simp only [List.getElem_toArray, List.getElem_cons_zero, List.getElem_cons_succ, execOp, e112, e113]; try simp [hcmp, go_sem]) (hK s w' (fun _ _ => rfl) ⟨hb, hr9, hr11, hr6, hr7⟩)
      | 9, _ =>
        have e111 : a.eval (.tmp 111) = .bool (x1 == na) := hev 5 111 (hne 5 (by simp)) rfl
        have e114 : a.eval (.tmp 114) = .bool (x2 == nb) := hev 8 114 (hne 8 (by simp)) rfl
        exact wpOp_run rfl rfl (by simp only [List.getElem_toArray, List.getElem_cons_zero, List.getElem_cons_succ, execOp, e111, e114]; try simp [hcmp, go_sem]) (hK s w' (fun _ _ => rfl) ⟨hb, hr9, hr11, hr6, hr7⟩)
      | 10, _ =>
        have e6 : a.eval (.tmp 6) = .pointer (some ⟨w.heap.size + 1 + 1 + 1, 0, none⟩) := hot 6 (by decide)
        have e106 : a.eval (.tmp 106) = .agg (encP q) := hev 0 106 (hne 0 (by simp)) rfl
        exact wpOp_store arrPool rfl e6 e106 hr6 (hs6 _) (encP_size _) (encP_all _) (hK s _ (fun _ _ => rfl) ⟨below_setRow hb (by omega) _, by rw [row?_setRow_other _ _ _ (by omega)]; exact hr9, by rw [row?_setRow_other _ _ _ (by omega)]; exact hr11, row?_setRow_same _ _ _ hr6, by rw [row?_setRow_other _ _ _ (by omega)]; exact hr7⟩)
      | 11, _ =>
        have e7 : a.eval (.tmp 7) = .pointer (some ⟨w.heap.size + 1 + 1 + 1 + 1, 0, none⟩) := hot 7 (by decide)
        have e107 : a.eval (.tmp 107) = .agg (encP z) := hev 1 107 (hne 1 (by simp)) rfl
        exact wpOp_store arrRPool rfl e7 e107 hr7 (by split <;> exact encP_size _) (encP_size _) (encP_all _) (hK s _ (fun _ _ => rfl) ⟨below_setRow hb (by omega) _, by rw [row?_setRow_other _ _ _ (by omega)]; exact hr9, by rw [row?_setRow_other _ _ _ (by omega)]; exact hr11, by rw [row?_setRow_other _ _ _ (by omega)]; exact hr6, row?_setRow_same _ _ _ hr7⟩)
      | 12, _ =>
        have e115 : a.eval (.tmp 115) = .bool (x2 == nb) := hev 9 115 (hne 9 (by simp)) rfl
        exact wpOp_run rfl rfl (by simp only [List.getElem_toArray, List.getElem_cons_zero, List.getElem_cons_succ, execOp, e115]; try simp [hcmp, go_sem]) (hK s w' (fun _ _ => rfl) ⟨hb, hr9, hr11, hr6, hr7⟩)
      | n + 13, hi => exact absurd hi (by simp)
    · rintro d _ w6 hall ⟨hb, hr9, hr11, hr6, hr7⟩
      rw [hall 10 (by decide)] at hr6
      rw [hall 11 (by decide)] at hr7
      simp only [if_true] at hr6 hr7
      have hB := Lib.hid hb
      have hl6 := row?_lt hr6
      have hl7 := row?_lt hr7
      clear hb hall hD5 h11 h95 hr9 hr11
      simp only [putL, List.getD_cons_zero, List.getD_cons_succ]
      go_simp
      go_wp2
      exact bodyPost_ret (res_cct arrPool arrRPool (cs := encP q) (cs2 := encP z) rfl _ _ rfl rfl rfl (by go_simp) (by go_simp)) rfl ⟨_, rfl, hB.out⟩

theorem does_any (p : Pl) (k a b : Int) (hk0 : 0 ≤ k) (hk1 : k < 256) (hc0 : 0 ≤ p.count) (hc1 : p.count ≤ 1000000) (w : World) (hT : Tab w) :
    Calls Tryd.prog 29 #[.agg (encP p), .agg (encP Pl.none), .agg #[.int .u8 k, .int .i64 a, .int .i64 b]] w (DoesRet (p.act k a b) Pl.none w) := by
  unfold Pl.act
  by_cases h2 : k % 6 = 2
  · rw [if_pos (.inl h2)]; exact does_edge2 p _ zeroPool zeroRPool rfl k a b h2 hk0 hk1 w hT
  by_cases h3 : k % 6 = 3
  · rw [if_pos (.inr h3)]; exact does_edge3 p _ zeroPool zeroRPool rfl k a b h3 hk0 hk1 w hT
  rw [if_neg (by simp [h2, h3])]
  by_cases h4 : k % 6 = 4
  · rw [if_pos h4]; exact does_end p _ zeroPool zeroRPool rfl k a b h4 hk0 hk1 w hT
  rw [if_neg h4]
  by_cases h5 : k % 6 = 5
  · rw [if_pos h5]; exact does_collect p _ zeroPool zeroRPool rfl k a b h5 hk0 hk1 w hT
  rw [if_neg h5]; exact does_begin p _ zeroPool zeroRPool rfl k a b ⟨h2, h3, h4, h5⟩ hk0 hk1 hc0 hc1 w hT
end Go.Proofs.YteclmkmemecckaaDoor
