/- The walks of source and of pool.Collect. -/
import Derived.Test.YteclmkmemecckaaDoorWpool2
namespace Go.Proofs.YteclmkmemecckaaDoor
open Go.RowKit Wb
theorem wpQuiet_load_at {ty n g off : Nat} {c vs : Array Value} (T : ArrT ty n) {x : Operand} {ops : Array Oper} {rest : List Oper} {C : World → Prop} {Q : Act → Prop} {a : Act} {d : Option Tmp} {t0 : TypeId} {ps : String} {af : Array Edge} {gd : Option (Nat × Bool)}
    (hw : Region.wanted { dst := d, op := .load ty x, type := t0, pos := ps, after := af, guard := gd } (yielded ops a.tmps) = true)
    (hx : a.eval x = .pointer (some ⟨g, off, none⟩)) (hg : ∀ w, C w → row? w g = some c) (hn : off + n ≤ c.size) (hv : c.extract off (off + n) = vs) (h : wpQuiet Tryd.prog ops C Q rest (a.put d (.agg vs))) :
    wpQuiet Tryd.prog ops C Q ({ dst := d, op := .load ty x, type := t0, pos := ps, after := af, guard := gd } :: rest) a := by
  unfold wpQuiet
  rw [if_pos hw]
  refine ⟨.agg vs, fun w hC => ?_, h⟩
  have hl := run_loadVar_seg T w g off c (hg w hC) hn
  rw [hv] at hl
  unfold Oper.quietAt execOp
  simp only [hx, Instr.loadAt, Instr.sureAddr, Sem.run_bind, Sem.run_pure, Result.andThen_ok, hl]
  exact ⟨rfl, rfl⟩

set_option maxHeartbeats 4000000 in
set_option maxRecDepth 100000 in
theorem source_any (p : Pl) (w : World) (hT : Tab w) :
    Calls Tryd.prog 64 #[.agg (encP p)] w fun e w' => e = .returned (.tuple #[.int .i64 p.source.1, .bool p.source.2]) ∧ Below w.heap.size w w' := by
  have hT0 := Lib.hid hT
  clear hT
  go_enter Tryd.func64, Tryd.ntmps64
  have hr0 : row? (w.alloc (Obj.cells (encP p) 54)) w.heap.size = some (encP p) := by go_simp
  go_wp2_with fail
  refine (items_any p.over _ (hT0.out.alloc _)).mono ?_
  rintro e w1 ⟨v, rfl, hown, hb1⟩
  have hr1 : row? w1 w.heap.size = some (encP p) := (row?_below hb1 (by simp)).trans hr0
  have hB1 : Hid (Below w.heap.size w w1) := (below1 w _).trans (hb1.mono (by simp))
  have hT1 : Hid (Tab w1) := hT0.out.next hB1.out
  have hg1 := row?_lt hr1
  have hR1 := Lib.hid hr1
  have hsrc : Hid (p.source = p.best (items p.over) (0, false)) := rfl
  have hBest := Lib.hid (fun l x b => best_snoc p l x b)
  have hBet : Hid (∀ b i, p.better b i = if ins p.m i == 0#64 && decide (i < 32) && (!b.2 || decide (p.ids i.toNat < p.ids b.1.toNat)) then (i, true) else b) := fun _ _ => rfl
  have hl64 := items_length p.over
  have hpos : Hid (∀ x ∈ items p.over, 0 ≤ x) := fun x hx => (has_range ((mem_items _ _).1 hx)).1
  have hMem : Hid (∀ k, (p.best ((items p.over).take k) (0, false)).2 = true → 0 ≤ (p.best ((items p.over).take k) (0, false)).1 ∧ (p.best ((items p.over).take k) (0, false)).1 < 32) := by
    intro k h
    have := best_mem p _ h
    exact ⟨hpos.out _ (List.mem_of_mem_take this.1), this.2.1⟩
  have hlen := hown.len
  generalize items p.over = l at *
  have hOwn := Lib.hid hown
  clear hr0 hr1 hb1 hown
  go_wp2
  clear hlen
  go_loopw [2, 3, 10] (fun bv iv i wr => ∃ (k : Nat) (r : Array Obj × Nat), k ≤ l.length ∧ i = .int .i64 k ∧ bv = .int .i64 (p.best (l.take k) (0, false)).1 ∧ iv = .bool (p.best (l.take k) (0, false)).2 ∧ wr = ext w1 r) (fun _ _ i _ => l.length - (intOf i).toNat)
  case atStart => exact ⟨0, _, Nat.zero_le _, rfl, rfl, rfl, self_is_ext _⟩
  case round =>
    obtain ⟨k, r, hk, rfl, rfl, rfl, rfl⟩ := hrel
    by_cases hlt : k < l.length
    · rcases hOwn.out.open with ⟨_, hnil⟩ | ⟨g, cap, rfl, hgl, hgh, _, _, hcell⟩
      · exfalso; rw [hnil] at hlt; simp at hlt
      obtain ⟨x, hx⟩ := at_lt hlt
      have hcx := hcell k x hx
      have hx0 := hpos.out x (List.mem_of_getElem? hx)
      obtain ⟨xn, rfl⟩ : ∃ n : Nat, x = (n : Int) := ⟨x.toNat, by omega⟩
      have hst : Hid (p.best (l.take (k + 1)) (0, false) = p.better (p.best (l.take k) (0, false)) xn) := by show _ = _; rw [take_snoc hx, hBest.out]
      have hmm := Lib.hid (hMem.out k)
      clear hcell hx
      generalize p.best (l.take k) (0, false) = b at *
      obtain ⟨bi, bs⟩ := b
      rw [hBet.out] at hst
      have hrw : row? (ext w1 r) w.heap.size = some (encP p) := by rw [ext_row? _ _ _ hg1]; exact hR1.out
      have hIns : Hid (∀ w, Calls Tryd.prog 36 #[.agg (encM p.m), .int .i64 (xn : Int)] w fun e w' => e = .returned (.int .u64 (sv (ins p.m xn))) ∧ Below w.heap.size w w') := fun w => ins_any p.m xn w
      have hck : (ext w1 r).cell? ⟨g, k, none⟩ = some (.int .i64 (xn : Int)) := by rw [ext_cell? _ _ _ _ hgh]; exact hcx
      have hback : Hid (∀ p : Grew, ∃ r2, ext (ext w1 r) (p.os, p.n) = ext w1 r2) := fun p => ⟨_, ext_ext _ _ _⟩
      have hsz : w1.heap.size ≤ (ext w1 r).heap.size := by simp
      simp only [Int.toNat_natCast] at hst
      obtain ⟨wk, hwk⟩ : ∃ wk, wk = ext w1 r := ⟨_, rfl⟩
      rw [← hwk] at hrw hck hback hsz ⊢
      have hg1k := row?_lt hrw
      have hlr : Hid (∀ w', (∃ q : Grew, w' = ext wk (q.os, q.n)) → row? w' w.heap.size = some (encP p)) := by
        rintro w' ⟨q, rfl⟩; rw [ext_row? _ _ _ hg1k]; exact hrw
      clear hwk hcx
      generalize ins p.m xn = si at *
      have hfin : Hid (∀ (b2 : Int × Bool), p.best (l.take (k + 1)) (0, false) = b2 → ∀ q : Grew, ∃ (j : Nat) (r : Array Obj × Nat), j ≤ l.length ∧ Value.int .i64 ((k : Int) + 1) = .int .i64 j ∧ Value.int .i64 b2.1 = .int .i64 (p.best (l.take j) (0, false)).1 ∧ Value.bool b2.2 = .bool (p.best (l.take j) (0, false)).2 ∧ ext wk (q.os, q.n) = ext w1 r) := by
        intro b2 h q
        obtain ⟨r2, hr2⟩ := hback.out q
        exact ⟨k + 1, r2, by omega, by go_num, by rw [h], by rw [h], hr2⟩
      clear hpos hMem hBet hBest hsrc
      cases hz : (si == 0#64) with
      | false =>
        rw [hz] at hst
        simp only [Bool.false_and, Bool.false_eq_true, if_false] at hst
        go_wp2
        refine wp_region_grew (by kernel_rfl) (by kernel_rfl) ?_
        (first | go_big_quiet_step (fail) | quiet_step (fail))
        with_reducible refine wpQuiet_load_at arrMat ?_ ?_ hlr.out ?_ (encP_extract_mat p) ?_
        rfl
        rfl
        (rw [encP_size]; decide)
        (first | go_big_quiet_step (fail) | quiet_step (fail))
        quiet_step ((go_at_call 36; exact Calls.grew_of (hIns.out _)))
        iterate 20 (first | go_big_quiet_step (fail) | quiet_step (fail))
        refine wpQuiet_nil ?_
        rintro _ ⟨q, rfl⟩
        go_wp2
        exact ⟨hfin.out (bi, bs) hst.out q, by simp [intOf]; omega⟩
      | true =>
        rw [hz] at hst
        by_cases hx32 : xn < 32
        · have hxd : decide ((xn : Int) < 32) = true := by simp; omega
          rw [hxd] at hst
          have hxI : (xn : Int) < 32 := by omega
          have hrx : (encP p)[67 + xn]? = some (.int .i64 (p.ids xn)) := encP_get_ids p xn hx32
          clear hxd
          cases bs with
          | false =>
            simp only [Bool.true_and, Bool.not_false, Bool.true_or, if_true] at hst
            go_wp2
            refine wp_region_grew (by kernel_rfl) (by kernel_rfl) ?_
            (first | go_big_quiet_step (fail) | quiet_step (fail))
            with_reducible refine wpQuiet_load_at arrMat ?_ ?_ hlr.out ?_ (encP_extract_mat p) ?_
            rfl
            rfl
            (rw [encP_size]; decide)
            (first | go_big_quiet_step (fail) | quiet_step (fail))
            quiet_step ((go_at_call 36; exact Calls.grew_of (hIns.out _)))
            iterate 20 (first | go_big_quiet_step (fail) | quiet_step (fail))
            refine wpQuiet_nil ?_
            rintro _ ⟨q, rfl⟩
            go_wp2
            exact ⟨hfin.out (xn, true) hst.out q, by simp [intOf]; omega⟩
          | true =>
            obtain ⟨hb0, hb32⟩ := hmm.out rfl
            obtain ⟨bn, rfl⟩ : ∃ n : Nat, bi = (n : Int) := ⟨bi.toNat, by omega⟩
            have hbn : bn < 32 := by omega
            have hrb : (encP p)[67 + bn]? = some (.int .i64 (p.ids bn)) := encP_get_ids p bn hbn
            simp only [Bool.true_and, Bool.not_true, Bool.false_or, Int.toNat_natCast, decide_eq_true_eq] at hst
            by_cases hcmp : p.ids xn < p.ids bn
            · rw [if_pos hcmp] at hst
              go_wp2
              refine wp_region_grew (by kernel_rfl) (by kernel_rfl) ?_
              (first | go_big_quiet_step (fail) | quiet_step (fail))
              with_reducible refine wpQuiet_load_at arrMat ?_ ?_ hlr.out ?_ (encP_extract_mat p) ?_
              rfl
              rfl
              (rw [encP_size]; decide)
              (first | go_big_quiet_step (fail) | quiet_step (fail))
              quiet_step ((go_at_call 36; exact Calls.grew_of (hIns.out _)))
              iterate 20 (first | go_big_quiet_step (fail) | quiet_step (fail))
              refine wpQuiet_nil ?_
              rintro _ ⟨q, rfl⟩
              go_wp2
              exact ⟨hfin.out (xn, true) hst.out q, by simp [intOf]; omega⟩
            · rw [if_neg hcmp] at hst
              have hcd : decide (p.ids xn < p.ids bn) = false := by simpa using hcmp
              go_wp2
              refine wp_region_grew (by kernel_rfl) (by kernel_rfl) ?_
              (first | go_big_quiet_step (fail) | quiet_step (fail))
              with_reducible refine wpQuiet_load_at arrMat ?_ ?_ hlr.out ?_ (encP_extract_mat p) ?_
              rfl
              rfl
              (rw [encP_size]; decide)
              (first | go_big_quiet_step (fail) | quiet_step (fail))
              quiet_step ((go_at_call 36; exact Calls.grew_of (hIns.out _)))
              iterate 20 (first | go_big_quiet_step (fail) | quiet_step (fail))
              refine wpQuiet_nil ?_
              rintro _ ⟨q, rfl⟩
              go_wp2
              exact ⟨hfin.out (bn, true) hst.out q, by simp [intOf]; omega⟩
        · have hxd : decide ((xn : Int) < 32) = false := by simp; omega
          rw [hxd] at hst
          simp only [Bool.and_false, Bool.false_and, Bool.false_eq_true, if_false] at hst
          go_wp2
          refine wp_region_grew (by kernel_rfl) (by kernel_rfl) ?_
          (first | go_big_quiet_step (fail) | quiet_step (fail))
          with_reducible refine wpQuiet_load_at arrMat ?_ ?_ hlr.out ?_ (encP_extract_mat p) ?_
          rfl
          rfl
          (rw [encP_size]; decide)
          (first | go_big_quiet_step (fail) | quiet_step (fail))
          quiet_step ((go_at_call 36; exact Calls.grew_of (hIns.out _)))
          iterate 20 (first | go_big_quiet_step (fail) | quiet_step (fail))
          refine wpQuiet_nil ?_
          rintro _ ⟨q, rfl⟩
          go_wp2
          exact ⟨hfin.out (bi, bs) hst.out q, by simp [intOf]; omega⟩
    · have hkl : k = l.length := by omega
      subst hkl
      rw [List.take_length, ← hsrc.out]
      go_wp2
      go_ret2
      exact ⟨rfl, hB1.out.extd hB1.out.size r⟩
end Go.Proofs.YteclmkmemecckaaDoor
