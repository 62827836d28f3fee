/- The walk of the law TopoKeeps. -/
import Derived.Test.YteclmkmemecckaaDoorEdge
namespace Go.Proofs.YteclmkmemecckaaDoor
open Go.RowKit Wb
@[go_sem] theorem row?_drewN (w : World) (n k : Nat) : row? (w.drewN n) k = row? w k := rfl

set_option maxHeartbeats 4000000 in
set_option maxRecDepth 100000 in
theorem topoKeeps_any (A : Option Addr) (n cap : Nat) (l : List (Int × Int)) (ea eb : Int) (w : World) (hT : Tab w) (hn : l.length = n) (hm : n ≤ maxLen) (hE : Edges w A l) :
    Calls Tryd.prog 3 #[.slice A n cap, .agg #[.int .i64 ea, .int .i64 eb]] w fun e w' => e = .returned (.bool true) ∧ Below w.heap.size w w' := by
  have hT0 : Hid (Tab w) := hT
  have hE0 : Hid (Edges w A l) := hE
  have hN := Lib.hid hn
  unfold maxLen at hm
  clear hT hE hn
  go_enter Tryd.func3, Tryd.ntmps3
  go_wp2_with fail
  refine (alive_any _ (hT0.out.alloc _)).mono ?_
  rintro e w1 ⟨rfl, hb1⟩
  have hr1 : row? w1 w.heap.size = some #[.int .i64 ea, .int .i64 eb] := by rw [row?_below hb1 (by simp)]; go_simp
  have hB1 : Hid (Below w.heap.size w w1) := (below1 w _).trans (hb1.mono (by simp))
  have hT1 : Hid (Tab w1) := hT0.out.next hB1.out
  have hg1 : w.heap.size < w1.heap.size := row?_lt hr1
  have hE1 : Hid (Edges w1 A l) := hE0.out.below hB1.out
  clear hb1
  have hc01 : w1.cell? ⟨w.heap.size, 0, none⟩ = some (.int .i64 ea) := row?_cell hr1 0
  have hc11 : w1.cell? ⟨w.heap.size, 1, none⟩ = some (.int .i64 eb) := row?_cell hr1 1
  by_cases hbig : 80 < n
  · go_wp2
    go_ret
    exact ⟨rfl, hB1.out⟩
  have hbig' : n ≤ 80 := by omega
  clear hbig
  by_cases ha0 : ea < 0
  · go_wp2
    go_ret
    exact ⟨rfl, hB1.out⟩
  by_cases ha1 : 31 < ea
  · go_wp2
    go_ret
    exact ⟨rfl, hB1.out⟩
  by_cases hb0 : eb < 0
  · go_wp2
    go_ret
    exact ⟨rfl, hB1.out⟩
  by_cases hb1' : 31 < eb
  · go_wp2
    go_ret
    exact ⟨rfl, hB1.out⟩
  obtain ⟨p, rfl⟩ : ∃ p : Nat, ea = (p : Int) := ⟨ea.toNat, by omega⟩
  obtain ⟨q, rfl⟩ : ∃ q : Nat, eb = (q : Int) := ⟨eb.toNat, by omega⟩
  have hp32 : p < 32 := by omega
  have hq32 : q < 32 := by omega
  go_wp2_with fail
  refine (new_any _).mono ?_
  rintro e w2 ⟨rfl, hb2⟩
  have hr2 : row? w2 w.heap.size = some #[.int .i64 (p : Int), .int .i64 (q : Int)] := (row?_below hb2 hg1).trans hr1
  have hB2 : Hid (Below w.heap.size w w2) := hB1.out.trans (hb2.mono hB1.out.size)
  have hT2 : Hid (Tab w2) := hT1.out.next hb2
  have hE2 : Hid (Edges w2 A l) := hE1.out.below hb2
  have hg2 : w.heap.size < w2.heap.size := row?_lt hr2
  clear hr1 hB1 hb2 hT1 hE1 hg1 hc01 hc11 ha0 ha1 hb0 hb1'
  rw [← encM_zero]
  go_wp2_with (first | (with_reducible refine wpList_alloc_val zeroMat ?_) | (with_reducible refine wpList_alloc_val zeroOrder ?_) | ((with_reducible refine wpList_store_arr arrMat (vs := encM Z) ?_ ?_ (encM_size _) (encM_all _) ?_); exact rfl; go_simp; go_simp) | ((with_reducible refine wpList_store_arr arrOrder (vs := encO newO) ?_ ?_ (encO_size _) (encO_all _) ?_); exact rfl; go_simp; go_simp))
  obtain ⟨w3, hW⟩ : ∃ w3, w3 = (w2.alloc (Obj.cells (encM Z) 29)).alloc (Obj.cells (encO newO) 31) := ⟨_, rfl⟩
  rw [← hW]
  have hg5 : row? w3 w2.heap.size = some (encM Z) := by rw [hW]; go_simp
  have hg6 : row? w3 (w2.heap.size + 1) = some (encO newO) := by rw [hW]; go_simp
  have hb3 : Below w2.heap.size w2 w3 := by rw [hW]; exact below2 w2 _ _
  have hr3 : row? w3 w.heap.size = some #[.int .i64 (p : Int), .int .i64 (q : Int)] := (row?_below hb3 hg2).trans hr2
  have hB3 : Hid (Below w.heap.size w w3) := hB2.out.trans (hb3.mono hB2.out.size)
  have hT3 : Hid (Tab w3) := hT2.out.next hb3
  have hE3 : Hid (Edges w3 A l) := hE2.out.below hb3
  clear hW hb3 hr2 hB2 hT2 hE2
  obtain ⟨g5, hG5⟩ : ∃ g, g = w2.heap.size := ⟨_, rfl⟩
  obtain ⟨g6, hG6⟩ : ∃ g, g = w2.heap.size + 1 := ⟨_, rfl⟩
  rw [← hG6] at hg6 ⊢
  rw [← hG5] at hg5 hg2 ⊢
  have h56 : g5 < g6 := by omega
  clear hG5 hG6
  have hH : Hid (Held w w3 g5 g6 (runE [])) := ⟨hg5, hg6, by omega, by omega, by omega, hB3.out⟩
  have h3 := Lib.hid hr3
  have hlt3 : w3.heap.size > g6 := row?_lt hg6
  clear hg5 hg6 hr3
  go_loopw [43] (fun i wr => ∃ (k : Nat), k ≤ n ∧ i = .int .i64 k ∧ Held w wr g5 g6 (runE (l.take k)) ∧ Below g5 w3 wr) (fun i _ => n - (intOf i).toNat)
  case atStart => exact ⟨0, Nat.zero_le _, rfl, hH.out, Below.refl _ _⟩
  case round =>
    obtain ⟨k, hk, rfl, hq, hbr⟩ := hrel
    have hQ := Lib.hid hq
    have hBR := Lib.hid hbr
    have hTr : Hid (Tab wr) := hT0.out.next hq.below
    have hEr : Hid (Edges wr A l) := hE0.out.below hq.below
    have hq5 := hq.r5
    have hq6 := hq.r6
    have h5lt := row?_lt hq.r5
    have h6lt := row?_lt hq.r6
    clear hq hbr
    by_cases hlt : k < n
    · obtain ⟨⟨a, b⟩, hx⟩ := at_lt (l := l) (k := k) (by rw [hN.out]; exact hlt)
      obtain ⟨ad, rfl, hadb, hca, hcb⟩ := hEr.out k a b hx
      have hst : Hid (runE (l.take (k + 1)) = stepE (runE (l.take k)) (a, b)) := by show _ = _; rw [take_snoc hx, runE_snoc]
      generalize (runE (l.take k)) = mo at *
      obtain ⟨m, o⟩ := mo
      clear hx
      go_wp2_with (first | ((with_reducible refine wpList_load_arr arrMat ?_ ?_); go_simp; go_simp) | ((with_reducible refine wpList_load_arr_g arrMat ?_ ?_ ?_); rfl; go_simp; go_simp) | ((with_reducible refine wpList_load_arr arrOrder ?_ ?_); go_simp; go_simp) | ((with_reducible refine wpList_load_arr_g arrOrder ?_ ?_ ?_); rfl; go_simp; go_simp))
      refine (insert_any m o a b _ (hTr.out.alloc _)).mono ?_
      rintro e w4 ⟨rfl, hb4⟩
      have hQ4 := (hQ.out.next (below1 wr _)).next hb4
      have hbr4 : Below g5 w3 w4 := (hBR.out.trans ((below1 wr _).mono (by omega))).trans (hb4.mono (by simp; omega))
      have hH4 := Lib.hid hQ4
      have hBR4 := Lib.hid hbr4
      have hq5' := hQ4.r5
      have hq6' := hQ4.r6
      have h5lt' := row?_lt hQ4.r5
      have h6lt' := row?_lt hQ4.r6
      clear hb4 hQ4 hbr4 hca hcb hq5 hq6 h5lt h6lt hTr hQ hBR hEr
      rw [show stepE (m, o) (a, b) = ((insert m o a b).1, (insert m o a b).2.1) from rfl] at hst
      generalize insert m o a b = res at *
      obtain ⟨m', o', yes⟩ := res
      have hq65 : row? (w4.setRow g5 (encM m')) g6 = some (encO o) := by rw [row?_setRow_other _ _ _ (by omega)]; exact hq6'
      go_wp2_with (first | ((with_reducible refine wpList_store_arr arrMat (vs := encM m') ?_ ?_ (encM_size _) (encM_all _) ?_); exact rfl; go_simp; go_simp) | ((with_reducible refine wpList_store_arr arrOrder (vs := encO o') ?_ ?_ (encO_size _) (encO_all _) ?_); exact rfl; go_simp; go_simp))
      refine ⟨⟨k + 1, by omega, by go_num, ?_, ?_⟩, by simp [intOf]; omega⟩
      · rw [hst.out]; exact hH4.out.stored (m', o')
      · exact below_setRow (below_setRow hBR4.out (by omega) _) (by omega) _
    · have hkn : k = n := by omega
      have htk : l.take k = l := by rw [hkn, ← hN.out, List.take_length]
      rw [htk] at hQ hq5 hq6
      have hS := Lib.hid (runE_sorted l)
      generalize (runE l) = mo at *
      obtain ⟨m, o⟩ := mo
      have hw0 : row? wr w.heap.size = some #[.int .i64 (p : Int), .int .i64 (q : Int)] := (row?_below hBR.out hg2).trans h3.out
      have hlt0 := row?_lt hw0
      clear htk hlt hk
      subst hkn
      have hc0 : wr.cell? ⟨w.heap.size, 0, none⟩ = some (.int .i64 (p : Int)) := row?_cell hw0 0
      have hc1 : wr.cell? ⟨w.heap.size, 1, none⟩ = some (.int .i64 (q : Int)) := row?_cell hw0 1
      go_wp2_with (first | ((with_reducible refine wpList_load_arr arrMat ?_ ?_); go_simp; go_simp) | ((with_reducible refine wpList_load_arr_g arrMat ?_ ?_ ?_); rfl; go_simp; go_simp) | ((with_reducible refine wpList_load_arr arrOrder ?_ ?_); go_simp; go_simp) | ((with_reducible refine wpList_load_arr_g arrOrder ?_ ?_ ?_); rfl; go_simp; go_simp))
      have hInsE : Hid (∀ w, Tab w → Calls Tryd.prog 16 #[.agg (encM m), .agg (encO o), .int .i64 (p : Int), .int .i64 (q : Int)] w (InsRet (insert m o p q).1 (insert m o p q).2.1 (insert m o p q).2.2 w)) := fun w h => insert_any m o p q w h
      have hsame := Lib.hid (insert_same (m := m) (o := o) (a := (p : Int)) (b := (q : Int)))
      have hkeep := Lib.hid (insert_keeps (m := m) (o := o) (a := (p : Int)) (b := (q : Int)) hS.out)
      have hends := Lib.hid (insert_up_ends (m := m) (o := o) (a := (p : Int)) (b := (q : Int)) hS.out)
      have hRo := Lib.hid (sorted_up hS.out).1
      generalize insert m o p q = res at *
      obtain ⟨m2, o2, yes⟩ := res
      simp only [Int.toNat_natCast] at hsame hkeep hends
      refine (hInsE.out _ hTr.out).mono ?_
      rintro e w5 ⟨rfl, hb5⟩
      have hQ5 := Lib.hid (hQ.out.next hb5)
      have hw5 : row? w5 w.heap.size = some #[.int .i64 (p : Int), .int .i64 (q : Int)] := (row?_below hb5 hlt0).trans hw0
      clear hw0 hq5 hq6 h5lt h6lt hlt0 hc0 hc1 hb5 hTr hQ hBR hEr hInsE
      have h5l := row?_lt hQ5.out.r5
      have h6l := row?_lt hQ5.out.r6
      have h0l := row?_lt hw5
      go_wp2_with (first | (with_reducible refine wpList_alloc_val zeroMat ?_) | (with_reducible refine wpList_alloc_val zeroOrder ?_) | ((with_reducible refine wpList_store_arr arrMat (vs := encM m2) ?_ ?_ (encM_size _) (encM_all _) ?_); exact rfl; go_simp; go_simp) | ((with_reducible refine wpList_store_arr arrOrder (vs := encO o2) ?_ ?_ (encO_size _) (encO_all _) ?_); exact rfl; go_simp; go_simp))
      obtain ⟨w6, hW⟩ : ∃ w6, w6 = (w5.alloc (Obj.cells (encM m2) 29)).alloc (Obj.cells (encO o2) 31) := ⟨_, rfl⟩
      rw [← hW]
      obtain ⟨g10, hG⟩ : ∃ g, g = w5.heap.size + 1 := ⟨_, rfl⟩
      rw [← hG]
      have hb6 : Below w5.heap.size w5 w6 := by rw [hW]; exact below2 w5 _ _
      have hrP := Lib.hid (show row? w6 g10 = some (encO o2) by rw [hW, hG]; go_simp)
      have hrO := Lib.hid ((row?_below hb6 h6l).trans hQ5.out.r6)
      have hrE := (row?_below hb6 h0l).trans hw5
      have hF : Hid (Below w.heap.size w w6) := hQ5.out.below.trans (hb6.mono hQ5.out.below.size)
      have hcA : w6.cell? ⟨w.heap.size, 0, none⟩ = some (.int .i64 (p : Int)) := row?_cell hrE 0
      have hcB : w6.cell? ⟨w.heap.size, 1, none⟩ = some (.int .i64 (q : Int)) := row?_cell hrE 1
      have hoP : w6.cell? ⟨g6, p, none⟩ = some (.int .i64 (o p)) := by rw [row?_cell hrO.out p]; exact encO_get o p hp32
      have hoQ : w6.cell? ⟨g6, q, none⟩ = some (.int .i64 (o q)) := by rw [row?_cell hrO.out q]; exact encO_get o q hq32
      have hl6 := row?_lt hrO.out
      have hl10 := row?_lt hrP.out
      clear hW hG hb6 hrE hQ5 hw5 h5l h6l h0l
      generalize w5.heap.size = g9 at *
      have hFd : Hid (∀ k, Below w.heap.size w (w6.drewN k)) := fun k => (hF.out.trans (by rw [drewN_is_ext]; exact (ext_below w6 _).mono hF.out.size))
      have hrP' := hrP.out
      have hrO' := hrO.out
      cases yes with
      | false =>
        obtain rfl : o2 = o := hsame.out (.inl rfl)
        have heq := eqO_refl o2
        clear hsame hkeep hends
        go_quiet (fail)
        go_wp2_with (first | ((with_reducible refine wpList_load_arr arrOrder ?_ ?_); go_simp; go_simp) | ((with_reducible refine wpList_load_arr_g arrOrder ?_ ?_ ?_); rfl; go_simp; go_simp))
        go_ret
        exact ⟨rfl, hFd.out _⟩
      | true =>
        by_cases hlt : o p < o q
        · obtain rfl : o2 = o := hsame.out (.inr hlt)
          have heq := eqO_refl o2
          clear hsame hkeep hends
          go_quiet (fail)
          go_wp2_with (first | ((with_reducible refine wpList_load_arr arrOrder ?_ ?_); go_simp; go_simp) | ((with_reducible refine wpList_load_arr_g arrOrder ?_ ?_ ?_); rfl; go_simp; go_simp))
          go_ret
          exact ⟨rfl, hFd.out _⟩
        · have hle : o q ≤ o p := by omega
          have hkp := Lib.hid (hkeep.out rfl hle)
          have hend := Lib.hid (hends.out rfl)
          have hdl : decide (o p < o q) = false := by simpa using hle
          clear hsame hkeep hends hlt hrP' hrO'
          go_quiet (fail)
          go_wp2
          clear hoP hdl
          go_loopw [86] (fun i wr => ∃ (j d : Nat), j ≤ 32 ∧ i = .int .i64 j ∧ wr = w6.drewN d) (fun i _ => 32 - (intOf i).toNat)
          case atStart => exact ⟨0, _, Nat.zero_le _, rfl, rfl⟩
          case round =>
            obtain ⟨j, d, hj, rfl, rfl⟩ := hrel
            by_cases hj32 : j < 32
            · have hoI : w6.cell? ⟨g6, j, none⟩ = some (.int .i64 (o j)) := by rw [row?_cell hrO.out j]; exact encO_get o j hj32
              have hpI : w6.cell? ⟨g10, j, none⟩ = some (.int .i64 (o2 j)) := by rw [row?_cell hrP.out j]; exact encO_get o2 j hj32
              have hoP : w6.cell? ⟨g6, p, none⟩ = some (.int .i64 (o p)) := by rw [row?_cell hrO.out p]; exact encO_get o p hp32
              obtain ⟨k1, k2⟩ := hkp.out j hj32
              by_cases hin : o q ≤ o j ∧ o j ≤ o p
              · obtain ⟨h3, h4⟩ := k1.1 hin
                obtain ⟨h1, h2⟩ := hin
                clear k1 k2
                go_wp2
                go_quiet (fail)
                go_wp2
                go_quiet (fail)
                go_wp2
                exact ⟨⟨j + 1, _, by omega, by go_num, rfl⟩, by simp [intOf]; omega⟩
              · have hsm := k2 hin
                rw [hsm] at hpI
                clear k1 k2 hsm
                by_cases h1 : o q ≤ o j
                · have h2 : decide (o j ≤ o p) = false := by rw [decide_eq_false_iff_not]; exact fun h => hin ⟨h1, h⟩
                  clear hin
                  go_wp2
                  go_quiet (fail)
                  go_wp2
                  go_quiet (fail)
                  go_wp2
                  exact ⟨⟨j + 1, _, by omega, by go_num, rfl⟩, by simp [intOf]; omega⟩
                · have h2 : decide (o q ≤ o j) = false := by simpa using h1
                  clear hin h1
                  go_wp2
                  go_quiet (fail)
                  go_wp2
                  go_quiet (fail)
                  go_wp2
                  exact ⟨⟨j + 1, _, by omega, by go_num, rfl⟩, by simp [intOf]; omega⟩
            · have hpP : w6.cell? ⟨g10, p, none⟩ = some (.int .i64 (o2 p)) := by rw [row?_cell hrP.out p]; exact encO_get o2 p hp32
              have hpQ : w6.cell? ⟨g10, q, none⟩ = some (.int .i64 (o2 q)) := by rw [row?_cell hrP.out q]; exact encO_get o2 q hq32
              have hlt : o2 p < o2 q := hend.out
              go_wp2
              go_quiet (fail)
              go_wp2
              go_ret
              exact ⟨rfl, by rw [World.drewN_drewN]; exact hFd.out _⟩
end Go.Proofs.YteclmkmemecckaaDoor
