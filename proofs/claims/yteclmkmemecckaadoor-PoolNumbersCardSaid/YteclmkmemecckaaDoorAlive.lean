/- The walk of alive, at the head of each law of the order. -/
import Derived.Test.YteclmkmemecckaaDoorWinsert3
import Derived.Deep.QuietTactic
namespace Wb
/-- No edges. -/
abbrev Z : M := fun _ => 0#64
theorem al1 : (insert Z newO 5 2).2.2 = true := by decide +kernel
theorem al2 : (insert Z newO 5 2).2.1 5 = 2 := by decide +kernel
theorem al3 : (insert Z newO 5 2).2.1 2 = 5 := by decide +kernel
theorem al4 : (insert (insert Z newO 5 2).1 (insert Z newO 5 2).2.1 2 5).2.2 = false := by decide +kernel
theorem al5 : (row newO).length = 32 ∧ (row newO)[7]? = some 7 := by decide +kernel
theorem al6 : right (fun _ => 0) = false := by decide +kernel
theorem al7 : sorted (insert Z newO 5 2).1 newO = false := by decide +kernel
theorem al8 : sorted (insert Z newO 5 2).1 (insert Z newO 5 2).2.1 = true := insert_sorted 5 2 sorted_new
theorem al9 : right (insert Z newO 5 2).2.1 = true := (right_iff _).2 (sorted_up al8).1
theorem alAll : ∃ m1 o1, insert Z newO 5 2 = (m1, o1, true) ∧ o1 5 = 2 ∧ o1 2 = 5 ∧ insert m1 o1 2 5 = (m1, o1, false) ∧ right o1 = true ∧ sorted m1 o1 = true ∧ sorted m1 newO = false := by
  refine ⟨(insert Z newO 5 2).1, (insert Z newO 5 2).2.1, ?_, al2, al3, insert_no al4, al9, al8, al7⟩
  rw [← al1]
end Wb
namespace Go.Proofs.YteclmkmemecckaaDoor
open Go.RowKit Wb

/-- How far a world is ahead: blocks, and draws. -/
structure Grew where
  os : Array Obj
  n : Nat
  deriving Inhabited
theorem wp_region_grew {P : Program} {id : Nat} {Q : Exit → Act → World → Prop} {a : Act} {w : World} {l : List Oper} (hm : P.follows .mixedOrders = true) (hB : Region.lexB .any l.toArray = true)
    (h : wpQuiet P l.toArray (fun w' => ∃ p : Grew, w' = ext w (p.os, p.n)) (fun a' => ∀ w', (∃ p : Grew, w' = ext w (p.os, p.n)) → Q .normal a' w') l a) : (Code.region id l.toArray true).wp P Q a w :=
  wp_region_quiet (C := fun w' => ∃ p : Grew, w' = ext w (p.os, p.n)) hm hB ⟨⟨#[], w.drawn + 1⟩, by simp [ext]⟩ (by simpa using h)
theorem wpQuiet_load_arr {ty n g : Nat} {c : Array Value} (T : ArrT ty n) {x : Operand} {ops : Array Oper} {rest : List Oper} {C : World → Prop} {Q : Act → Prop} {a : Act} {d : Option Tmp} {t0 : TypeId} {ps : String} {af : Array Edge} {gd : Option (Nat × Bool)}
    (hw : Region.wanted { dst := d, op := .load ty x, type := t0, pos := ps, after := af, guard := gd } (yielded ops a.tmps) = true)
    (hx : a.eval x = .pointer (some ⟨g, 0, none⟩)) (hg : ∀ w, C w → row? w g = some c) (hn : c.size = n) (h : wpQuiet Tryd.prog ops C Q rest (a.put d (.agg c))) :
    wpQuiet Tryd.prog ops C Q ({ dst := d, op := .load ty x, type := t0, pos := ps, after := af, guard := gd } :: rest) a := by
  unfold wpQuiet
  rw [if_pos hw]
  refine ⟨.agg c, fun w hC => ?_, h⟩
  have hl := run_loadVar_seg T w g 0 c (hg w hC) (by omega)
  rw [Nat.zero_add, extract_all c n hn] at hl
  unfold Oper.quietAt execOp
  simp only [hx, Instr.loadAt, Instr.sureAddr, Sem.run_bind, Sem.run_pure, Result.andThen_ok, hl]
  exact ⟨rfl, rfl⟩
theorem Calls.grew_of {P : Program} {f : FuncId} {args : Array Value} {w : World} {os : Array Obj} {n : Nat} {v : Value}
    (h : Calls P f args (ext w (os, n)) fun e w' => e = .returned v ∧ Below (ext w (os, n)).heap.size (ext w (os, n)) w') : Calls P f args (ext w (os, n)) fun e w'' => e = .returned v ∧ ∃ p : Grew, w'' = ext w (p.os, p.n) :=
  h.mono fun _ _ ⟨he, hb⟩ => ⟨he, by obtain ⟨r2, rfl⟩ := hb.ext; exact ⟨⟨os ++ r2.1, r2.2⟩, ext_ext w (os, n) r2⟩⟩

set_option maxHeartbeats 4000000 in
set_option maxRecDepth 100000 in
theorem alive_any (w : World) (hT : Tab w) : Calls Tryd.prog 14 #[] w fun e w' => e = .returned (.bool true) ∧ Below w.heap.size w w' := by
  have hT0 : Hid (Tab w) := hT
  clear hT
  obtain ⟨m1, o1, hI, h5, h2, hI2, hri, hso, hno⟩ := alAll
  replace hI := Lib.hid hI
  replace hI2 := Lib.hid hI2
  go_enter Tryd.func14, Tryd.ntmps14
  go_wp2_with (go_at_call 15; refine (new_any _).mono ?_; rintro e w1 ⟨rfl, hb1⟩)
  rw [← encM_zero]
  have hT1 : Hid (Tab w1) := hT0.out.next hb1
  have hins := insert_any Z newO 5 2 w1 hT1.out
  rw [hI.out] at hins
  refine hins.mono ?_
  rintro e w2 ⟨rfl, hb2⟩
  have hT2 : Hid (Tab w2) := hT1.out.next hb2
  have hB2 : Hid (Below w.heap.size w w2) := hb1.trans (hb2.mono hb1.size)
  clear hins hb1 hb2 hT1 hT0
  generalize (encM fun _ => 0#64) = zz
  go_wp2_with (first | (with_reducible refine wpList_alloc_val zeroMat ?_) | (with_reducible refine wpList_alloc_val zeroOrder ?_) | ((with_reducible refine wpList_load_arr arrMat ?_ ?_); go_simp; go_simp) | ((with_reducible refine wpList_load_arr_g arrMat ?_ ?_ ?_); rfl; go_simp; go_simp) | ((with_reducible refine wpList_load_arr arrOrder ?_ ?_); go_simp; go_simp) | ((with_reducible refine wpList_load_arr_g arrOrder ?_ ?_ ?_); rfl; go_simp; go_simp) | ((with_reducible refine wpList_store_arr arrMat (vs := encM m1) ?_ ?_ (encM_size _) (encM_all _) ?_); exact rfl; go_simp; go_simp) | ((with_reducible refine wpList_store_arr arrOrder (vs := encO o1) ?_ ?_ (encO_size _) (encO_all _) ?_); exact rfl; go_simp; go_simp))
  have hT3 : Hid (Tab ((w2.alloc (Obj.cells (encM m1) 29)).alloc (Obj.cells (encO o1) 31))) := (hT2.out.alloc _).alloc _
  have hins := insert_any m1 o1 2 5 _ hT3.out
  rw [hI2.out] at hins
  refine hins.mono ?_
  rintro e w3 ⟨rfl, hb3⟩
  have hT4 : Hid (Tab w3) := hT3.out.next hb3
  have hB3 : Hid (Below w.heap.size w w3) := ((hB2.out.alloc hB2.out.size _).alloc (by have := hB2.out.size; simp; omega) _).trans (hb3.mono (by have := hB2.out.size; simp; omega))
  have hr1 : row? w3 w2.heap.size = some (encM m1) := by rw [row?_below hb3 (by simp; omega)]; go_simp
  have hr2 : row? w3 (w2.heap.size + 1) = some (encO o1) := by rw [row?_below hb3 (by simp)]; go_simp
  have hg1 : w2.heap.size < w3.heap.size := row?_lt hr1
  have hg2 : w2.heap.size + 1 < w3.heap.size := row?_lt hr2
  clear hins hb3 hT3 hT2 hB2 hI hI2
  generalize w2.heap.size + 1 = g2 at *
  generalize w2.heap.size = g1 at *
  go_wp2_with (first | (with_reducible refine wpList_alloc_val zeroMat ?_) | (with_reducible refine wpList_alloc_val zeroOrder ?_) | ((with_reducible refine wpList_load_arr arrMat ?_ ?_); go_simp; go_simp) | ((with_reducible refine wpList_load_arr_g arrMat ?_ ?_ ?_); rfl; go_simp; go_simp) | ((with_reducible refine wpList_load_arr arrOrder ?_ ?_); go_simp; go_simp) | ((with_reducible refine wpList_load_arr_g arrOrder ?_ ?_ ?_); rfl; go_simp; go_simp) | ((with_reducible refine wpList_store_arr arrMat (vs := encM m1) ?_ ?_ (encM_size _) (encM_all _) ?_); exact rfl; go_simp; go_simp) | ((with_reducible refine wpList_store_arr arrOrder (vs := encO o1) ?_ ?_ (encO_size _) (encO_all _) ?_); exact rfl; go_simp; go_simp))
  refine (new_any _).mono ?_
  rintro e w4 ⟨rfl, hb4⟩
  go_wp2_with (go_at_call 17; refine (row_any newO _).mono ?_; rintro e w5 ⟨vl, rfl, hown, hb5⟩)
  have hB5 : Hid (Below w3.heap.size w3 w5) := ((below2 w3 _ _).trans (hb4.mono (by simp; omega))).trans (hb5.mono (by have := hb4.size; simp at this; omega))
  have hT5 : Hid (Tab w5) := hT4.out.next hB5.out
  have hB6 : Hid (Below w.heap.size w w5) := hB3.out.trans (hB5.out.mono hB3.out.size)
  have hr1' : row? w5 g1 = some (encM m1) := (row?_below hB5.out hg1).trans hr1
  have hr2' : row? w5 g2 = some (encO o1) := (row?_below hB5.out hg2).trans hr2
  have hg1' : g1 < w5.heap.size := row?_lt hr1'
  have hg2' : g2 < w5.heap.size := row?_lt hr2'
  have hlen := hown.len
  rcases hown.open with ⟨_, hnil⟩ | ⟨gl, capl, rfl, hgl1, hgl2, _, _, hcell⟩
  · exfalso; have := al5.1; rw [hnil] at this; cases this
  have hc7 := hcell 7 7 al5.2
  rw [al5.1] at hlen ⊢
  have hc2 : w5.cell? ⟨g2, 2, none⟩ = some (.int .i64 5) := by rw [row?_cell hr2', encO_get o1 2 (by decide), h2]
  have hc5 : w5.cell? ⟨g2, 5, none⟩ = some (.int .i64 2) := by rw [row?_cell hr2', encO_get o1 5 (by decide), h5]
  clear hcell hown hb4 hb5 hr1 hr2 hg1 hg2 hB3 hT4 hB5 h5 h2
  have hl1 : Hid (∀ w', (∃ p : Grew, w' = ext w5 (p.os, p.n)) → row? w' g1 = some (encM m1)) := by
    rintro w' ⟨p, rfl⟩; rw [ext_row? _ _ _ hg1']; exact hr1'
  have hl2 : Hid (∀ w', (∃ p : Grew, w' = ext w5 (p.os, p.n)) → row? w' g2 = some (encO o1)) := by
    rintro w' ⟨p, rfl⟩; rw [ext_row? _ _ _ hg2']; exact hr2'
  go_wp2
  refine wp_region_grew (by kernel_rfl) (by kernel_rfl) ?_
  iterate 27 (quiet_step (fail))
  with_reducible refine wpQuiet_load_arr arrOrder ?_ ?_ hl2.out (encO_size _) ?_
  rfl
  rfl
  quiet_step ((go_at_call 18; exact Calls.grew_of (right_any o1 _)))
  iterate 2 (quiet_step (fail))
  with_reducible refine wpQuiet_load_arr arrMat ?_ ?_ hl1.out (encM_size _) ?_
  rfl
  rfl
  with_reducible refine wpQuiet_load_arr arrOrder ?_ ?_ hl2.out (encO_size _) ?_
  rfl
  rfl
  quiet_step ((go_at_call 22; exact Calls.grew_of (sorted_any m1 o1 _ (hT5.out.ext _))))
  iterate 2 (quiet_step (fail))
  with_reducible refine wpQuiet_load_arr arrMat ?_ ?_ hl1.out (encM_size _) ?_
  rfl
  rfl
  quiet_step ((go_at_call 15; exact Calls.grew_of (new_any _)))
  quiet_step ((go_at_call 22; exact Calls.grew_of (sorted_any m1 newO _ (hT5.out.ext _))))
  iterate 4 (quiet_step (fail))
  have hz6 : Hid (right (fun _ => 0) = false) := al6
  quiet_step ((go_at_call 18; rw [← encO_zero]; exact Calls.grew_of (right_any (fun _ => 0) _)))
  rw [hz6.out]
  iterate 3 (quiet_step (fail))
  refine wpQuiet_nil ?_
  rintro _ ⟨p, rfl⟩
  go_wp2
  go_ret
  exact ⟨rfl, hB6.out.extd hB6.out.size _⟩
end Go.Proofs.YteclmkmemecckaaDoor
