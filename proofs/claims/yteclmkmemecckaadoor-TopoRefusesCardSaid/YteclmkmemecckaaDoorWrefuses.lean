/- The walk of the law TopoRefuses. -/
import Derived.Test.YteclmkmemecckaaDoorEdge
namespace Go.Proofs.YteclmkmemecckaaDoor
open Go.RowKit Wb

set_option maxHeartbeats 4000000 in
set_option maxRecDepth 100000 in
theorem topoRefuses_any (A : Option Addr) (n cap : Nat) (l : List (Int × Int)) (ea eb : Int) (w : World) (hT : Tab w) (hn : l.length = n) (hm : n ≤ maxLen) (hE : Edges w A l) :
    Calls Tryd.prog 7 #[.slice A n cap, .agg #[.int .i64 ea, .int .i64 eb]] w fun e w' => e = .returned (.bool true) ∧ Below w.heap.size w w' := by
  have hT0 : Hid (Tab w) := hT
  have hE0 : Hid (Edges w A l) := hE
  have hN := Lib.hid hn
  unfold maxLen at hm
  clear hT hE hn
  go_enter Tryd.func7, Tryd.ntmps7
  go_wp2_with fail
  refine (alive_any _ (hT0.out.alloc _)).mono ?_
  rintro e w1 ⟨rfl, hb1⟩
  have hr1 : row? w1 w.heap.size = some #[.int .i64 ea, .int .i64 eb] := by rw [row?_below hb1 (by simp)]; go_simp
  have hB1 : Hid (Below w.heap.size w w1) := (below1 w _).trans (hb1.mono (by simp))
  have hT1 : Hid (Tab w1) := hT0.out.next hB1.out
  have hg1 : w.heap.size < w1.heap.size := row?_lt hr1
  have hE1 : Hid (Edges w1 A l) := hE0.out.below hB1.out
  clear hb1
  by_cases hbig : 80 < n
  · go_wp2
    go_ret
    exact ⟨rfl, hB1.out⟩
  have hbig' : n ≤ 80 := by omega
  clear hbig
  go_wp2_with fail
  refine (new_any _).mono ?_
  rintro e w2 ⟨rfl, hb2⟩
  have hr2 : row? w2 w.heap.size = some #[.int .i64 ea, .int .i64 eb] := (row?_below hb2 hg1).trans hr1
  have hB2 : Hid (Below w.heap.size w w2) := hB1.out.trans (hb2.mono hB1.out.size)
  have hT2 : Hid (Tab w2) := hT1.out.next hb2
  have hE2 : Hid (Edges w2 A l) := hE1.out.below hb2
  have hg2 : w.heap.size < w2.heap.size := row?_lt hr2
  clear hr1 hB1 hb2 hT1 hE1 hg1
  rw [← encM_zero]
  go_wp2_with (first | (with_reducible refine wpList_alloc_val zeroMat ?_) | (with_reducible refine wpList_alloc_val zeroOrder ?_) | ((with_reducible refine wpList_store_arr arrMat (vs := encM Z) ?_ ?_ (encM_size _) (encM_all _) ?_); exact rfl; go_simp; go_simp) | ((with_reducible refine wpList_store_arr arrOrder (vs := encO newO) ?_ ?_ (encO_size _) (encO_all _) ?_); exact rfl; go_simp; go_simp))
  obtain ⟨w3, hW⟩ : ∃ w3, w3 = (w2.alloc (Obj.cells (encM Z) 29)).alloc (Obj.cells (encO newO) 31) := ⟨_, rfl⟩
  rw [← hW]
  have hg5 : row? w3 w2.heap.size = some (encM Z) := by rw [hW]; go_simp
  have hg6 : row? w3 (w2.heap.size + 1) = some (encO newO) := by rw [hW]; go_simp
  have hb3 : Below w2.heap.size w2 w3 := by rw [hW]; exact below2 w2 _ _
  have hr3 : row? w3 w.heap.size = some #[.int .i64 ea, .int .i64 eb] := (row?_below hb3 hg2).trans hr2
  have hB3 : Hid (Below w.heap.size w w3) := hB2.out.trans (hb3.mono hB2.out.size)
  have hT3 : Hid (Tab w3) := hT2.out.next hb3
  have hE3 : Hid (Edges w3 A l) := hE2.out.below hb3
  clear hW hb3 hr2 hB2 hT2 hE2
  obtain ⟨g5, hG5⟩ : ∃ g, g = w2.heap.size := ⟨_, rfl⟩
  obtain ⟨g6, hG6⟩ : ∃ g, g = w2.heap.size + 1 := ⟨_, rfl⟩
  rw [← hG6] at hg6 ⊢
  rw [← hG5] at hg5 hg2 ⊢
  have h56 : g5 < g6 := by omega
  clear hG5 hG6
  have hH : Hid (Held w w3 g5 g6 (runE [])) := ⟨hg5, hg6, by omega, by omega, by omega, hB3.out⟩
  have h3 := Lib.hid hr3
  have hlt3 : w3.heap.size > g6 := row?_lt hg6
  clear hg5 hg6 hr3
  go_loopw [23] (fun i wr => ∃ (k : Nat), k ≤ n ∧ i = .int .i64 k ∧ Held w wr g5 g6 (runE (l.take k)) ∧ Below g5 w3 wr) (fun i _ => n - (intOf i).toNat)
  case atStart => exact ⟨0, Nat.zero_le _, rfl, hH.out, Below.refl _ _⟩
  case round =>
    obtain ⟨k, hk, rfl, hq, hbr⟩ := hrel
    have hQ := Lib.hid hq
    have hBR := Lib.hid hbr
    have hTr : Hid (Tab wr) := hT0.out.next hq.below
    have hEr : Hid (Edges wr A l) := hE0.out.below hq.below
    have hq5 := hq.r5
    have hq6 := hq.r6
    have h5lt := row?_lt hq.r5
    have h6lt := row?_lt hq.r6
    clear hq hbr
    by_cases hlt : k < n
    · obtain ⟨⟨a, b⟩, hx⟩ := at_lt (l := l) (k := k) (by rw [hN.out]; exact hlt)
      obtain ⟨ad, rfl, hadb, hca, hcb⟩ := hEr.out k a b hx
      have hst : Hid (runE (l.take (k + 1)) = stepE (runE (l.take k)) (a, b)) := by show _ = _; rw [take_snoc hx, runE_snoc]
      generalize (runE (l.take k)) = mo at *
      obtain ⟨m, o⟩ := mo
      clear hx
      go_wp2_with (first | ((with_reducible refine wpList_load_arr arrMat ?_ ?_); go_simp; go_simp) | ((with_reducible refine wpList_load_arr_g arrMat ?_ ?_ ?_); rfl; go_simp; go_simp) | ((with_reducible refine wpList_load_arr arrOrder ?_ ?_); go_simp; go_simp) | ((with_reducible refine wpList_load_arr_g arrOrder ?_ ?_ ?_); rfl; go_simp; go_simp))
      refine (insert_any m o a b _ (hTr.out.alloc _)).mono ?_
      rintro e w4 ⟨rfl, hb4⟩
      have hQ4 := (hQ.out.next (below1 wr _)).next hb4
      have hbr4 : Below g5 w3 w4 := (hBR.out.trans ((below1 wr _).mono (by omega))).trans (hb4.mono (by simp; omega))
      have hH4 := Lib.hid hQ4
      have hBR4 := Lib.hid hbr4
      have hq5' := hQ4.r5
      have hq6' := hQ4.r6
      have h5lt' := row?_lt hQ4.r5
      have h6lt' := row?_lt hQ4.r6
      clear hb4 hQ4 hbr4 hca hcb hq5 hq6 h5lt h6lt hTr hQ hBR hEr
      rw [show stepE (m, o) (a, b) = ((insert m o a b).1, (insert m o a b).2.1) from rfl] at hst
      generalize insert m o a b = res at *
      obtain ⟨m', o', yes⟩ := res
      have hq65 : row? (w4.setRow g5 (encM m')) g6 = some (encO o) := by rw [row?_setRow_other _ _ _ (by omega)]; exact hq6'
      go_wp2_with (first | ((with_reducible refine wpList_store_arr arrMat (vs := encM m') ?_ ?_ (encM_size _) (encM_all _) ?_); exact rfl; go_simp; go_simp) | ((with_reducible refine wpList_store_arr arrOrder (vs := encO o') ?_ ?_ (encO_size _) (encO_all _) ?_); exact rfl; go_simp; go_simp))
      refine ⟨⟨k + 1, by omega, by go_num, ?_, ?_⟩, by simp [intOf]; omega⟩
      · rw [hst.out]; exact hH4.out.stored (m', o')
      · exact below_setRow (below_setRow hBR4.out (by omega) _) (by omega) _
    · have hkn : k = n := by omega
      have htk : l.take k = l := by rw [hkn, ← hN.out, List.take_length]
      rw [htk] at hQ hq5 hq6
      have hS := Lib.hid (runE_sorted l)
      generalize (runE l) = mo at *
      obtain ⟨m, o⟩ := mo
      have hw0 : row? wr w.heap.size = some #[.int .i64 ea, .int .i64 eb] := (row?_below hBR.out hg2).trans h3.out
      have hlt0 := row?_lt hw0
      clear htk hlt hk
      subst hkn
      have hc0 : wr.cell? ⟨w.heap.size, 0, none⟩ = some (.int .i64 ea) := row?_cell hw0 0
      have hc1 : wr.cell? ⟨w.heap.size, 1, none⟩ = some (.int .i64 eb) := row?_cell hw0 1
      go_wp2_with (first | ((with_reducible refine wpList_load_arr arrMat ?_ ?_); go_simp; go_simp) | ((with_reducible refine wpList_load_arr_g arrMat ?_ ?_ ?_); rfl; go_simp; go_simp) | ((with_reducible refine wpList_load_arr arrOrder ?_ ?_); go_simp; go_simp) | ((with_reducible refine wpList_load_arr_g arrOrder ?_ ?_ ?_); rfl; go_simp; go_simp))
      refine (put_any m ea eb _).mono ?_
      rintro e w4 ⟨rfl, hb4⟩
      have hQ4 := Lib.hid (hQ.out.next hb4)
      have hT4 : Hid (Tab w4) := hTr.out.next hb4
      have hw4 : row? w4 w.heap.size = some #[.int .i64 ea, .int .i64 eb] := (row?_below hb4 hlt0).trans hw0
      have hq54 := hQ4.out.r5
      have hq64 := hQ4.out.r6
      have h5l4 := row?_lt hq54
      have h6l4 := row?_lt hq64
      have h0l4 := row?_lt hw4
      have hc04 : w4.cell? ⟨w.heap.size, 0, none⟩ = some (.int .i64 ea) := row?_cell hw4 0
      have hc14 : w4.cell? ⟨w.heap.size, 1, none⟩ = some (.int .i64 eb) := row?_cell hw4 1
      clear hw0 hq5 hq6 h5lt h6lt hlt0 hc0 hc1 hb4 hTr hQ hBR hEr
      have hins := Lib.hid (insert_is ea eb hS.out)
      have hno : Hid ((insert m o ea eb).2.2 = false → insert m o ea eb = (m, o, false)) := insert_no
      have hyes : Hid ((insert m o ea eb).2.2 = true → (insert m o ea eb).1 = (put m ea eb).1 ∧ (put m ea eb).2 = true) := insert_yes
      have hsrt := Lib.hid (insert_sorted ea eb hS.out)
      have hInsE : Hid (∀ w, Tab w → Calls Tryd.prog 16 #[.agg (encM m), .agg (encO o), .int .i64 ea, .int .i64 eb] w (InsRet (insert m o ea eb).1 (insert m o ea eb).2.1 (insert m o ea eb).2.2 w)) := fun w h => insert_any m o ea eb w h
      generalize insert m o ea eb = res at *
      generalize put m ea eb = pr at *
      obtain ⟨m2, o2, yes⟩ := res
      obtain ⟨pm, may⟩ := pr
      go_wp2_with (first | (with_reducible refine wpList_alloc_val zeroMat ?_) | ((with_reducible refine wpList_load_arr arrMat ?_ ?_); go_simp; go_simp) | ((with_reducible refine wpList_load_arr_g arrMat ?_ ?_ ?_); rfl; go_simp; go_simp) | ((with_reducible refine wpList_load_arr arrOrder ?_ ?_); go_simp; go_simp) | ((with_reducible refine wpList_load_arr_g arrOrder ?_ ?_ ?_); rfl; go_simp; go_simp) | ((with_reducible refine wpList_store_arr arrMat (vs := encM pm) ?_ ?_ (encM_size _) (encM_all _) ?_); exact rfl; go_simp; go_simp))
      refine (hInsE.out _ (hT4.out.alloc _)).mono ?_
      rintro e w5 ⟨rfl, hb5⟩
      have hB5 := (below1 w4 (.cells (encM pm) 29)).trans (hb5.mono (by simp))
      have hr9 : row? w5 w4.heap.size = some (encM pm) := by rw [row?_below hb5 (by simp)]; go_simp
      have hQ5 := Lib.hid (hQ4.out.next hB5)
      have hT5 : Hid (Tab w5) := hT4.out.next hB5
      have hq55 := hQ5.out.r5
      have hq65 := hQ5.out.r6
      have h5l5 := row?_lt hq55
      have h6l5 := row?_lt hq65
      have h9l5 := row?_lt hr9
      have hF : Hid (Below w.heap.size w w5) := hQ5.out.below
      clear hq54 hq64 h5l4 h6l4 hc04 hc14 hw4 hb5 hB5 hQ4 hT4
      simp only at hins hno hyes hsrt ⊢
      cases may with
      | false =>
        obtain rfl : yes = false := hins.out
        obtain ⟨rfl, rfl⟩ : m2 = m ∧ o2 = o := by have := hno.out rfl; simpa using this
        have he1 := eqM_refl m2
        have he2 := eqO_refl o2
        go_wp2_with (first | (with_reducible refine wpList_alloc_val zeroMat ?_) | (with_reducible refine wpList_alloc_val zeroOrder ?_) | ((with_reducible refine wpList_load_arr arrMat ?_ ?_); go_simp; go_simp) | ((with_reducible refine wpList_load_arr_g arrMat ?_ ?_ ?_); rfl; go_simp; go_simp) | ((with_reducible refine wpList_load_arr arrOrder ?_ ?_); go_simp; go_simp) | ((with_reducible refine wpList_load_arr_g arrOrder ?_ ?_ ?_); rfl; go_simp; go_simp) | ((with_reducible refine wpList_store_arr arrMat (vs := encM m2) ?_ ?_ (encM_size _) (encM_all _) ?_); exact rfl; go_simp; go_simp) | ((with_reducible refine wpList_store_arr arrOrder (vs := encO o2) ?_ ?_ (encO_size _) (encO_all _) ?_); exact rfl; go_simp; go_simp))
        go_ret
        exact ⟨rfl, hF.out.trans ((below2 w5 _ _).mono hF.out.size)⟩
      | true =>
        have hfr : free pm = yes := by have := hins.out; simpa using this.symm
        cases yes with
        | false =>
          obtain ⟨rfl, rfl⟩ : m2 = m ∧ o2 = o := by have := hno.out rfl; simpa using this
          have he1 := eqM_refl m2
          have he2 := eqO_refl o2
          have hfr' := Lib.hid hfr
          clear hfr
          go_wp2_with (first | (with_reducible refine wpList_alloc_val zeroMat ?_) | (with_reducible refine wpList_alloc_val zeroOrder ?_) | ((with_reducible refine wpList_load_arr_g arrMat ?_ ?_ ?_); rfl; go_simp; go_simp) | ((with_reducible refine wpList_load_arr arrMat ?_ ?_); go_simp; go_simp) | ((with_reducible refine wpList_load_arr_g arrMat ?_ ?_ ?_); rfl; go_simp; go_simp) | ((with_reducible refine wpList_load_arr arrOrder ?_ ?_); go_simp; go_simp) | ((with_reducible refine wpList_load_arr_g arrOrder ?_ ?_ ?_); rfl; go_simp; go_simp) | ((with_reducible refine wpList_store_arr arrMat (vs := encM m2) ?_ ?_ (encM_size _) (encM_all _) ?_); exact rfl; go_simp; go_simp) | ((with_reducible refine wpList_store_arr arrOrder (vs := encO o2) ?_ ?_ (encO_size _) (encO_all _) ?_); exact rfl; go_simp; go_simp))
          have hT6 : Hid (Tab ((w5.alloc (Obj.cells (encM m2) 29)).alloc (Obj.cells (encO o2) 31))) := (hT5.out.alloc _).alloc _
          refine (free_any pm _ hT6.out).mono ?_
          rintro e w6 ⟨rfl, hb6⟩
          rw [hfr'.out]
          have hr11 : row? w6 w5.heap.size = some (encM m2) := by rw [row?_below hb6 (by simp; omega)]; go_simp
          have hr12 : row? w6 (w5.heap.size + 1) = some (encO o2) := by rw [row?_below hb6 (by simp)]; go_simp
          have hF6 : Hid (Below w.heap.size w w6) := (hF.out.trans ((below2 w5 _ _).mono hF.out.size)).trans (hb6.mono (by have := hF.out.size; simp; omega))
          have hr5 : row? w6 g5 = some (encM m2) := by rw [row?_below hb6 (by simp; omega)]; go_simp
          have hr6 : row? w6 g6 = some (encO o2) := by rw [row?_below hb6 (by simp; omega)]; go_simp
          have hl11 := row?_lt hr11
          have hl12 := row?_lt hr12
          have hl5 := row?_lt hr5
          have hl6 := row?_lt hr6
          clear hr9 hq55 hq65 hb6 hT6
          go_wp2_with (first | ((with_reducible refine wpList_load_arr_g arrMat ?_ ?_ ?_); rfl; go_simp; go_simp) | ((with_reducible refine wpList_load_arr_g arrOrder ?_ ?_ ?_); rfl; go_simp; go_simp) | ((with_reducible refine wpList_load_arr arrMat ?_ ?_); go_simp; go_simp) | ((with_reducible refine wpList_load_arr_g arrMat ?_ ?_ ?_); rfl; go_simp; go_simp) | ((with_reducible refine wpList_load_arr arrOrder ?_ ?_); go_simp; go_simp) | ((with_reducible refine wpList_load_arr_g arrOrder ?_ ?_ ?_); rfl; go_simp; go_simp))
          go_ret
          exact ⟨rfl, hF6.out⟩
        | true =>
          obtain ⟨rfl, _⟩ := hyes.out rfl
          have he1 := eqM_refl m2
          have hfr' := Lib.hid hfr
          clear hfr
          go_wp2_with (first | (with_reducible refine wpList_alloc_val zeroMat ?_) | (with_reducible refine wpList_alloc_val zeroOrder ?_) | ((with_reducible refine wpList_load_arr_g arrMat ?_ ?_ ?_); rfl; go_simp; go_simp) | ((with_reducible refine wpList_load_arr arrMat ?_ ?_); go_simp; go_simp) | ((with_reducible refine wpList_load_arr_g arrMat ?_ ?_ ?_); rfl; go_simp; go_simp) | ((with_reducible refine wpList_load_arr arrOrder ?_ ?_); go_simp; go_simp) | ((with_reducible refine wpList_load_arr_g arrOrder ?_ ?_ ?_); rfl; go_simp; go_simp) | ((with_reducible refine wpList_store_arr arrMat (vs := encM m2) ?_ ?_ (encM_size _) (encM_all _) ?_); exact rfl; go_simp; go_simp) | ((with_reducible refine wpList_store_arr arrOrder (vs := encO o2) ?_ ?_ (encO_size _) (encO_all _) ?_); exact rfl; go_simp; go_simp))
          have hT6 : Hid (Tab ((w5.alloc (Obj.cells (encM m2) 29)).alloc (Obj.cells (encO o2) 31))) := (hT5.out.alloc _).alloc _
          refine (free_any m2 _ hT6.out).mono ?_
          rintro e w6 ⟨rfl, hb6⟩
          rw [hfr'.out]
          have hT7 : Hid (Tab w6) := hT6.out.next hb6
          have hr11 : row? w6 w5.heap.size = some (encM m2) := by rw [row?_below hb6 (by simp; omega)]; go_simp
          have hr12 : row? w6 (w5.heap.size + 1) = some (encO o2) := by rw [row?_below hb6 (by simp)]; go_simp
          have hr9' : row? w6 w4.heap.size = some (encM m2) := by rw [row?_below hb6 (by simp; omega)]; go_simp
          have hF6 : Hid (Below w.heap.size w w6) := (hF.out.trans ((below2 w5 _ _).mono hF.out.size)).trans (hb6.mono (by have := hF.out.size; simp; omega))
          have hl11 := row?_lt hr11
          have hl12 := row?_lt hr12
          have hl9 := row?_lt hr9'
          clear hr9 hq55 hq65 hb6 hT6
          go_wp2_with (first | ((with_reducible refine wpList_load_arr_g arrMat ?_ ?_ ?_); rfl; go_simp; go_simp) | ((with_reducible refine wpList_load_arr_g arrOrder ?_ ?_ ?_); rfl; go_simp; go_simp) | ((with_reducible refine wpList_load_arr arrMat ?_ ?_); go_simp; go_simp) | ((with_reducible refine wpList_load_arr_g arrMat ?_ ?_ ?_); rfl; go_simp; go_simp) | ((with_reducible refine wpList_load_arr arrOrder ?_ ?_); go_simp; go_simp) | ((with_reducible refine wpList_load_arr_g arrOrder ?_ ?_ ?_); rfl; go_simp; go_simp))
          refine (sorted_any m2 o2 _ hT7.out).mono ?_
          rintro e w7 ⟨rfl, hb7⟩
          rw [hsrt.out]
          go_wp2
          go_ret
          exact ⟨rfl, hF6.out.trans (hb7.mono hF6.out.size)⟩
end Go.Proofs.YteclmkmemecckaaDoor
