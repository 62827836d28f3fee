/- The walk of the law TopoAgain. -/
import Derived.Test.YteclmkmemecckaaDoorReg3
namespace Wb
/-- Edges, one behind the other, and those that came in. -/
def stepA (p : (M × O) × List (Int × Int)) (e : Int × Int) : (M × O) × List (Int × Int) := (stepE p.1 e, if (insert p.1.1 p.1.2 e.1 e.2).2.2 then p.2 ++ [e] else p.2)
def runA (l : List (Int × Int)) : (M × O) × List (Int × Int) := l.foldl stepA ((Z, newO), [])
theorem runA_snoc (l : List (Int × Int)) (e : Int × Int) : runA (l ++ [e]) = stepA (runA l) e := by unfold runA; rw [List.foldl_append]; rfl
theorem runA_ind (P : (M × O) × List (Int × Int) → Prop) (h0 : P ((Z, newO), [])) (hs : ∀ p e, P p → P (stepA p e)) (l : List (Int × Int)) : P (runA l) := by
  unfold runA
  have : ∀ (l : List (Int × Int)) (p : (M × O) × List (Int × Int)), P p → P (l.foldl stepA p) := by
    intro l
    induction l with
    | nil => intro p h; exact h
    | cons e l ih => intro p h; exact ih _ (hs p e h)
  exact this l _ h0
theorem runA_sorted (l : List (Int × Int)) : sorted (runA l).1.1 (runA l).1.2 = true := runA_ind (fun p => sorted p.1.1 p.1.2 = true) sorted_new (fun _ _ h => insert_sorted _ _ h) l
theorem runA_edges (l : List (Int × Int)) : ∀ e ∈ (runA l).2, Edge (runA l).1.1 e.1 e.2 := by
  refine runA_ind (fun p => ∀ e ∈ p.2, Edge p.1.1 e.1 e.2) (by intro e h; simp at h) (fun p e h x hx => ?_) l
  unfold stepA at hx ⊢
  simp only at hx ⊢
  by_cases hy : (insert p.1.1 p.1.2 e.1 e.2).2.2 = true
  · rw [if_pos hy, List.mem_append, List.mem_singleton] at hx
    rcases hx with hx | rfl
    · exact insert_edge (h x hx)
    · exact insert_new hy
  · rw [if_neg hy] at hx
    exact insert_edge (h x hx)
theorem runA_none (l : List (Int × Int)) (hn : (runA l).2 = []) : (runA l).1 = (Z, newO) := by
  have : (runA l).2 = [] → (runA l).1 = (Z, newO) := by
    refine runA_ind (fun p => p.2 = [] → p.1 = (Z, newO)) (fun _ => rfl) (fun p e h hx => ?_) l
    unfold stepA at hx ⊢
    simp only at hx ⊢
    by_cases hy : (insert p.1.1 p.1.2 e.1 e.2).2.2 = true
    · rw [if_pos hy] at hx; simp at hx
    · rw [if_neg hy] at hx
      have h1 := h hx
      have h2 := insert_no (Bool.eq_false_iff.2 hy)
      unfold stepE
      rw [h2]
      exact h1
  exact this hn
theorem runA_len (l : List (Int × Int)) : (runA l).2.length ≤ l.length := by
  have : ∀ (l : List (Int × Int)) (p : (M × O) × List (Int × Int)), (l.foldl stepA p).2.length ≤ p.2.length + l.length := by
    intro l
    induction l with
    | nil => intro p; simp
    | cons e l ih =>
      intro p
      rw [List.foldl_cons, List.length_cons]
      have h1 := ih (stepA p e)
      have h2 : (stepA p e).2.length ≤ p.2.length + 1 := by unfold stepA; simp only; split <;> simp
      omega
  have h := this l ((Z, newO), [])
  simp only [List.length_nil, Nat.zero_add] at h
  exact h
end Wb
namespace Go.Proofs.YteclmkmemecckaaDoor
open Go.RowKit Wb
theorem row?_grown {w w' : World} {row : Option Nat} {g : Nat} {c : Array Value} (hg : w.grownBy w' row) (hne : some g ≠ row) (h : row? w g = some c) : row? w' g = some c :=
  (row?_heap (hg.block g (row?_lt h) hne)).trans h

set_option maxHeartbeats 4000000 in
set_option maxRecDepth 100000 in
theorem topoAgain_any (A : Option Addr) (n cap : Nat) (l : List (Int × Int)) (at_ : Int) (w : World) (hT : Tab w) (hn : l.length = n) (hm : n ≤ maxLen) (hat : 0 ≤ at_ ∧ at_ < 256) (hE : Edges w A l) :
    Calls Tryd.prog 5 #[.slice A n cap, .int .u8 at_] w fun e w' => e = .returned (.bool true) ∧ Below w.heap.size w w' := by
  have hT0 : Hid (Tab w) := hT
  have hE0 : Hid (Edges w A l) := hE
  have hN := Lib.hid hn
  unfold maxLen at hm
  clear hT hE hn
  go_enter Tryd.func5, Tryd.ntmps5
  go_wp2_with fail
  refine (alive_any _ hT0.out).mono ?_
  rintro e w1 ⟨rfl, hb1⟩
  have hB1 : Hid (Below w.heap.size w w1) := hb1
  have hT1 : Hid (Tab w1) := hT0.out.next hB1.out
  have hE1 : Hid (Edges w1 A l) := hE0.out.below hB1.out
  clear hb1
  by_cases hbig : 80 < n
  · go_wp2
    go_ret
    exact ⟨rfl, hB1.out⟩
  have hbig' : n ≤ 80 := by omega
  clear hbig
  go_wp2_with fail
  refine (new_any _).mono ?_
  rintro e w2 ⟨rfl, hb2⟩
  have hB2 : Hid (Below w.heap.size w w2) := hB1.out.trans (hb2.mono hB1.out.size)
  have hT2 : Hid (Tab w2) := hT1.out.next hb2
  have hE2 : Hid (Edges w2 A l) := hE1.out.below hb2
  have hg2 : w.heap.size ≤ w2.heap.size := hB2.out.size
  clear hB1 hb2 hT1 hE1
  rw [← encM_zero]
  go_wp2_with (first | (with_reducible refine wpList_alloc_val zeroMat ?_) | (with_reducible refine wpList_alloc_val zeroOrder ?_) | ((with_reducible refine wpList_store_arr arrMat (vs := encM Z) ?_ ?_ (encM_size _) (encM_all _) ?_); exact rfl; go_simp; go_simp) | ((with_reducible refine wpList_store_arr arrOrder (vs := encO newO) ?_ ?_ (encO_size _) (encO_all _) ?_); exact rfl; go_simp; go_simp))
  obtain ⟨w3, hW⟩ : ∃ w3, w3 = (w2.alloc (Obj.cells (encM Z) 29)).alloc (Obj.cells (encO newO) 31) := ⟨_, rfl⟩
  rw [← hW]
  have hg5 : row? w3 w2.heap.size = some (encM Z) := by rw [hW]; go_simp
  have hg6 : row? w3 (w2.heap.size + 1) = some (encO newO) := by rw [hW]; go_simp
  have hb3 : Below w2.heap.size w2 w3 := by rw [hW]; exact below2 w2 _ _
  have hB3 : Hid (Below w.heap.size w w3) := hB2.out.trans (hb3.mono hB2.out.size)
  have hT3 : Hid (Tab w3) := hT2.out.next hb3
  have hE3 : Hid (Edges w3 A l) := hE2.out.below hb3
  clear hW hb3 hB2 hT2 hE2
  obtain ⟨g5, hG5⟩ : ∃ g, g = w2.heap.size := ⟨_, rfl⟩
  obtain ⟨g6, hG6⟩ : ∃ g, g = w2.heap.size + 1 := ⟨_, rfl⟩
  rw [← hG6] at hg6 ⊢
  rw [← hG5] at hg5 hg2 ⊢
  have h56 : g5 < g6 := by omega
  clear hG5 hG6
  have hH : Hid (Held w w3 g5 g6 (runA []).1) := ⟨hg5, hg6, by omega, by omega, by omega, hB3.out⟩
  have hlt3 : w3.heap.size > g6 := row?_lt hg6
  clear hg5 hg6
  go_loopw [7, 26] (fun v i wr => ∃ (k : Nat), k ≤ n ∧ i = .int .i64 k ∧ Held w wr g5 g6 (runA (l.take k)).1 ∧ Below g5 w3 wr ∧ Own2 wr w3.heap.size v (runA (l.take k)).2) (fun _ i _ => n - (intOf i).toNat)
  case atStart => exact ⟨0, Nat.zero_le _, rfl, hH.out, Below.refl _ _, Own2.nil _ _⟩
  case round =>
    obtain ⟨k, hk, rfl, hq, hbr, hown⟩ := hrel
    have hQ := Lib.hid hq
    have hBR := Lib.hid hbr
    have hOwn := Lib.hid hown
    have hTr : Hid (Tab wr) := hT0.out.next hq.below
    have hEr : Hid (Edges wr A l) := hE0.out.below hq.below
    have hq5 := hq.r5
    have hq6 := hq.r6
    have h5lt := row?_lt hq.r5
    have h6lt := row?_lt hq.r6
    have hWlt : w3.heap.size ≤ wr.heap.size := hbr.size
    clear hq hbr hown
    by_cases hlt : k < n
    · obtain ⟨⟨a, b⟩, hx⟩ := at_lt (l := l) (k := k) (by rw [hN.out]; exact hlt)
      obtain ⟨ad, rfl, hadb, hca, hcb⟩ := hEr.out k a b hx
      have hst : Hid (runA (l.take (k + 1)) = stepA (runA (l.take k)) (a, b)) := by show _ = _; rw [take_snoc hx, runA_snoc]
      have hlen : (runA (l.take k)).2.length ≤ k := by have := runA_len (l.take k); rw [List.length_take] at this; omega
      generalize (runA (l.take k)) = mo at *
      obtain ⟨⟨m, o⟩, had⟩ := mo
      simp only at hlen
      clear hx
      go_wp2_with (first | ((with_reducible refine wpList_load_arr arrMat ?_ ?_); go_simp; go_simp) | ((with_reducible refine wpList_load_arr_g arrMat ?_ ?_ ?_); rfl; go_simp; go_simp) | ((with_reducible refine wpList_load_arr arrOrder ?_ ?_); go_simp; go_simp) | ((with_reducible refine wpList_load_arr_g arrOrder ?_ ?_ ?_); rfl; go_simp; go_simp))
      refine (insert_any m o a b _ (hTr.out.alloc _)).mono ?_
      rintro e w4 ⟨rfl, hb4⟩
      have hb4' := (below1 wr (.cells #[.int .i64 a, .int .i64 b] 24)).trans (hb4.mono (by simp))
      have hH4 := Lib.hid (hQ.out.next hb4')
      have hBR4 : Hid (Below g5 w3 w4) := hBR.out.trans (hb4'.mono (by omega))
      have hX : row? w4 wr.heap.size = some #[.int .i64 a, .int .i64 b] := by rw [row?_below hb4 (by simp)]; go_simp
      have hx0 : w4.cell? ⟨wr.heap.size, 0, none⟩ = some (.int .i64 a) := row?_cell hX 0
      have hx1 : w4.cell? ⟨wr.heap.size, 1, none⟩ = some (.int .i64 b) := row?_cell hX 1
      have hxl := row?_lt hX
      have h5l4 := row?_lt hH4.out.r5
      have h6l4 := row?_lt hH4.out.r6
      have hOwn4 := Lib.hid (hOwn.out.next hb4')
      have hW4 : wr.heap.size < w4.heap.size := hxl
      clear hb4 hX hca hcb hq5 hq6 h5lt h6lt hTr hQ hBR hEr
      have hst' : Hid (stepA ((m, o), had) (a, b) = (((insert m o a b).1, (insert m o a b).2.1), if (insert m o a b).2.2 then had ++ [(a, b)] else had)) := rfl
      generalize insert m o a b = res at *
      obtain ⟨m', o', yes⟩ := res
      cases yes with
      | false =>
        go_wp2_with (first | (with_reducible refine wpList_alloc_val zeroMat ?_) | (with_reducible refine wpList_alloc_val zeroOrder ?_) | ((with_reducible refine wpList_store_arr arrMat (vs := encM m') ?_ ?_ (encM_size _) (encM_all _) ?_); exact rfl; go_simp; go_simp) | ((with_reducible refine wpList_store_arr arrOrder (vs := encO o') ?_ ?_ (encO_size _) (encO_all _) ?_); exact rfl; go_simp; go_simp))
        obtain ⟨w5, hW⟩ : ∃ w5, w5 = (w4.alloc (Obj.cells (encM m') 29)).alloc (Obj.cells (encO o') 31) := ⟨_, rfl⟩
        rw [← hW]
        have hb5 : Below w4.heap.size w4 w5 := by rw [hW]; exact below2 w4 _ _
        have hrN : row? w5 w4.heap.size = some (encM m') := by rw [hW]; go_simp
        have hrP : row? w5 (w4.heap.size + 1) = some (encO o') := by rw [hW]; go_simp
        have hH5 := Lib.hid (hH4.out.next hb5)
        have hBR5 : Hid (Below g5 w3 w5) := hBR4.out.trans (hb5.mono (by omega))
        have hOwn5 := Lib.hid (hOwn4.out.next hb5)
        have hr5 := hH5.out.r5
        have hr6 := hH5.out.r6
        clear hW hb5 hH4 hBR4 hOwn4 hx0 hx1
        refine wp_region_two arrMat arrOrder (c0 := encM m') (c1 := encO o') (e0 := encM m) (e1 := encO o) (by rfl) (by rfl) (by rfl) (by rfl) ⟨by decide, by simp, by simp⟩ hrN hrP hr5 hr6 ⟨by omega, by omega, by omega⟩ (encM_size _) (encO_size _) (encM_size _) (encO_size _) (encM_all _) (encO_all _) ?_
        go_simp
        go_wp2
        refine ⟨⟨k + 1, by omega, by go_num, ?_, ?_, ?_⟩, by simp [intOf]; omega⟩
        · rw [hst.out, hst'.out]; exact (hH5.out.stored (m', o')).next ((Below.refl _ _).drew)
        · exact (below_setRow (below_setRow hBR5.out (by omega) _) (by omega) _).drew
        · rw [hst.out, hst'.out]; exact (((hOwn5.out.other (by omega) _).other (by omega) _))
      | true =>
        go_wp2_with (first | (with_reducible refine wpList_alloc_val zeroMat ?_) | (with_reducible refine wpList_alloc_val zeroOrder ?_) | ((with_reducible refine wpList_store_arr arrMat (vs := encM m') ?_ ?_ (encM_size _) (encM_all _) ?_); exact rfl; go_simp; go_simp) | ((with_reducible refine wpList_store_arr arrOrder (vs := encO o') ?_ ?_ (encO_size _) (encO_all _) ?_); exact rfl; go_simp; go_simp) | (at_builtin; refine wpList_append_pair rfl _ _ rfl w3.heap.size _ had rfl (hOwn4.out.next (below3 w4 _ _ _)) (w4.heap.size + 2) a b (by go_simp) (by go_simp) (by go_simp) (by omega) (by simp; omega) ?_; intro v' w5 hown5 hg5))
        have hne : ∀ g, (g < w3.heap.size ∨ wr.heap.size ≤ g) → some g ≠ u7.ownBlock := by
          intro g hg he
          have := hOwn.out.lt g he.symm
          omega
        have hrN : row? w5 w4.heap.size = some (encM m') := row?_grown hg5 (hne _ (.inr (by omega))) (by go_simp)
        have hrP : row? w5 (w4.heap.size + 1) = some (encO o') := row?_grown hg5 (hne _ (.inr (by omega))) (by go_simp)
        have hr5 : row? w5 g5 = some (encM m) := row?_grown hg5 (hne _ (.inl (by omega))) (hH4.out.next (below3 w4 _ _ _)).r5
        have hr6 : row? w5 g6 = some (encO o) := row?_grown hg5 (hne _ (.inl (by omega))) (hH4.out.next (below3 w4 _ _ _)).r6
        have hBw : Below w.heap.size w w5 := ((hH4.out.below.trans ((below3 w4 _ _ _).mono hH4.out.below.size)).grown hg5 (by simp; omega) (fun k hk => by have := hOwn.out.lt k hk; omega))
        have hH5 : Hid (Held w w5 g5 g6 (m, o)) := ⟨hr5, hr6, hH4.out.ne, hH4.out.l5, hH4.out.l6, hBw⟩
        have hBR5 : Hid (Below g5 w3 w5) := (hBR4.out.trans ((below3 w4 _ _ _).mono (by omega))).grown hg5 (by simp; omega) (fun k hk => by have := hOwn.out.lt k hk; omega)
        have hOwn5 := Lib.hid hown5
        clear hH4 hBR4 hOwn4 hx0 hx1 hg5 hown5 hBw
        refine wp_region_two arrMat arrOrder (c0 := encM m') (c1 := encO o') (e0 := encM m) (e1 := encO o) (by rfl) (by rfl) (by rfl) (by rfl) ⟨by decide, by simp, by simp⟩ hrN hrP hr5 hr6 ⟨by omega, by omega, by omega⟩ (encM_size _) (encO_size _) (encM_size _) (encO_size _) (encM_all _) (encO_all _) ?_
        go_simp
        go_wp2
        refine ⟨⟨k + 1, by omega, by go_num, ?_, ?_, ?_⟩, by simp [intOf]; omega⟩
        · rw [hst.out, hst'.out]; exact (hH5.out.stored (m', o')).next ((Below.refl _ _).drew)
        · exact (below_setRow (below_setRow hBR5.out (by omega) _) (by omega) _).drew
        · rw [hst.out, hst'.out]; exact (((hOwn5.out.other (by omega) _).other (by omega) _))
    · have hkn : k = n := by omega
      have htk : l.take k = l := by rw [hkn, ← hN.out, List.take_length]
      rw [htk] at hQ hq5 hq6 hOwn
      have hS := Lib.hid (runA_sorted l)
      have hEd := Lib.hid (runA_edges l)
      have hNo := Lib.hid (runA_none l)
      have hLen := runA_len l
      rw [hN.out] at hLen
      generalize (runA l) = mo at *
      obtain ⟨⟨m, o⟩, had⟩ := mo
      have hlenE := Lib.hid hOwn.out.len
      clear htk hlt hk
      subst hkn
      by_cases h0 : had = []
      · subst h0
        have hmo := hNo.out rfl
        simp only [Prod.mk.injEq] at hmo
        obtain ⟨rfl, rfl⟩ := hmo
        have hl0 := hlenE.out
        simp only [List.length_nil] at hl0
        go_wp2_with fail
        have hl5 : Hid (∀ w', (∃ p : Grew, w' = ext wr (p.os, p.n)) → row? w' g5 = some (encM Z)) := by
          rintro w' ⟨p, rfl⟩; rw [ext_row? _ _ _ h5lt]; exact hq5
        have hl6 : Hid (∀ w', (∃ p : Grew, w' = ext wr (p.os, p.n)) → row? w' g6 = some (encO newO)) := by
          rintro w' ⟨p, rfl⟩; rw [ext_row? _ _ _ h6lt]; exact hq6
        have he1 := eqM_refl Z
        have he2 := eqO_refl newO
        refine wp_region_grew (by kernel_rfl) (by kernel_rfl) ?_
        with_reducible refine wpQuiet_load_arr arrMat ?_ ?_ hl5.out (encM_size _) ?_
        rfl
        rfl
        quiet_step (fail)
        rw [← encM_zero]
        iterate 2 (quiet_step (fail))
        with_reducible refine wpQuiet_load_arr arrOrder ?_ ?_ hl6.out (encO_size _) ?_
        rfl
        rfl
        quiet_step ((go_at_call 15; exact Calls.grew_of (new_any _)))
        iterate 3 (quiet_step (fail))
        refine wpQuiet_nil ?_
        rintro _ ⟨p, rfl⟩
        go_wp2
        go_ret
        exact ⟨rfl, hQ.out.below.extd hQ.out.below.size _⟩
      · rcases hOwn.out.open with ⟨_, hnil⟩ | ⟨g, capH, rfl, hgl, hgh, _, _, hcell⟩
        · exact absurd hnil h0
        have hLpos : 0 < had.length := List.length_pos_iff.2 h0
        have hlen1 := hlenE.out
        obtain ⟨i, hi⟩ : ∃ i : Nat, at_ % (had.length : Int) = (i : Int) := ⟨(at_ % (had.length : Int)).toNat, by have := Int.emod_nonneg at_ (b := (had.length : Int)) (by omega); omega⟩
        have hiL : i < had.length := by have := Int.emod_lt_of_pos at_ (b := (had.length : Int)) (by omega); omega
        obtain ⟨⟨a, b⟩, hx⟩ := at_lt hiL
        obtain ⟨hca, hcb⟩ := hcell i a b hx
        have hE := hEd.out (a, b) (List.mem_of_getElem? hx)
        simp only at hE
        have hins := Lib.hid (insert_again hS.out hE)
        obtain ⟨ha32, hb32, _⟩ := hE
        obtain ⟨pa, rfl⟩ : ∃ p : Nat, a = (p : Int) := ⟨a.toNat, by omega⟩
        obtain ⟨qb, rfl⟩ : ∃ p : Nat, b = (p : Int) := ⟨b.toNat, by omega⟩
        have hpa : pa < 32 := by omega
        have hqb : qb < 32 := by omega
        have hat' : 0 ≤ at_ := hat.1
        have hat2 : at_ < 256 := hat.2
        clear hx hat ha32 hb32 hcell
        generalize had.length = L at *
        go_wp2_with (first | ((with_reducible refine wpList_load_arr arrMat ?_ ?_); go_simp; go_simp) | ((with_reducible refine wpList_load_arr_g arrMat ?_ ?_ ?_); rfl; go_simp; go_simp) | ((with_reducible refine wpList_load_arr arrOrder ?_ ?_); go_simp; go_simp) | ((with_reducible refine wpList_load_arr_g arrOrder ?_ ?_ ?_); rfl; go_simp; go_simp))
        have hi2 := insert_any m o pa qb (wr.alloc (.cells #[.int .i64 (pa : Int), .int .i64 (qb : Int)] 24)) (hTr.out.alloc _)
        rw [hins.out.1] at hi2
        refine hi2.mono ?_
        rintro e w4 ⟨rfl, hb4⟩
        have hb4' := (below1 wr (.cells #[.int .i64 (pa : Int), .int .i64 (qb : Int)] 24)).trans (hb4.mono (by simp))
        have hH4 := Lib.hid (hQ.out.next hb4')
        have hX : row? w4 wr.heap.size = some #[.int .i64 (pa : Int), .int .i64 (qb : Int)] := by rw [row?_below hb4 (by simp)]; go_simp
        have hlt : o pa < o qb := hins.out.2
        have hxl := row?_lt hX
        clear hi2 hb4 hca hcb hq5 hq6 h5lt h6lt hTr hEr hgh hi hat' hat2
        go_wp2_with (first | (with_reducible refine wpList_alloc_val zeroMat ?_) | (with_reducible refine wpList_alloc_val zeroOrder ?_) | ((with_reducible refine wpList_store_arr arrMat (vs := encM m) ?_ ?_ (encM_size _) (encM_all _) ?_); exact rfl; go_simp; go_simp) | ((with_reducible refine wpList_store_arr arrOrder (vs := encO o) ?_ ?_ (encO_size _) (encO_all _) ?_); exact rfl; go_simp; go_simp))
        obtain ⟨w5, hW⟩ : ∃ w5, w5 = (w4.alloc (Obj.cells (encM m) 29)).alloc (Obj.cells (encO o) 31) := ⟨_, rfl⟩
        rw [← hW]
        have hb5 : Below w4.heap.size w4 w5 := by rw [hW]; exact below2 w4 _ _
        have hrN : row? w5 w4.heap.size = some (encM m) := by rw [hW]; go_simp
        have hrP : row? w5 (w4.heap.size + 1) = some (encO o) := by rw [hW]; go_simp
        have hH5 := hH4.out.next hb5
        have hr5 := hH5.r5
        have hr6 := hH5.r6
        have hX5 := (row?_below hb5 hxl).trans hX
        have hx0 : w5.cell? ⟨wr.heap.size, 0, none⟩ = some (.int .i64 (pa : Int)) := row?_cell hX5 0
        have hx1 : w5.cell? ⟨wr.heap.size, 1, none⟩ = some (.int .i64 (qb : Int)) := row?_cell hX5 1
        have hoP : w5.cell? ⟨g6, pa, none⟩ = some (.int .i64 (o pa)) := by rw [row?_cell hr6 pa]; exact encO_get o pa hpa
        have hoQ : w5.cell? ⟨g6, qb, none⟩ = some (.int .i64 (o qb)) := by rw [row?_cell hr6 qb]; exact encO_get o qb hqb
        have hxl5 := row?_lt hX5
        have hNl := row?_lt hrN
        have hPl := row?_lt hrP
        have h5l := row?_lt hr5
        have h6l := row?_lt hr6
        have hF := Lib.hid hH5.below
        have hlN : Hid (∀ w', (∃ p : Grew, w' = ext w5 (p.os, p.n)) → row? w' w4.heap.size = some (encM m)) := by
          rintro w' ⟨p, rfl⟩; rw [ext_row? _ _ _ hNl]; exact hrN
        have hlP : Hid (∀ w', (∃ p : Grew, w' = ext w5 (p.os, p.n)) → row? w' (w4.heap.size + 1) = some (encO o)) := by
          rintro w' ⟨p, rfl⟩; rw [ext_row? _ _ _ hPl]; exact hrP
        have hl5 : Hid (∀ w', (∃ p : Grew, w' = ext w5 (p.os, p.n)) → row? w' g5 = some (encM m)) := by
          rintro w' ⟨p, rfl⟩; rw [ext_row? _ _ _ h5l]; exact hr5
        have hl6 : Hid (∀ w', (∃ p : Grew, w' = ext w5 (p.os, p.n)) → row? w' g6 = some (encO o)) := by
          rintro w' ⟨p, rfl⟩; rw [ext_row? _ _ _ h6l]; exact hr6
        have he1 := eqM_refl m
        have he2 := eqO_refl o
        have hpaI : (pa : Int) < 32 := by omega
        have hqbI : (qb : Int) < 32 := by omega
        clear hW hb5 hH4 hH5 hX hX5 hrN hrP hr5 hr6
        refine wp_region_grew (by kernel_rfl) (by kernel_rfl) ?_
        iterate 2 (quiet_step (fail))
        with_reducible refine wpQuiet_load_arr arrMat ?_ ?_ hlN.out (encM_size _) ?_
        rfl
        rfl
        with_reducible refine wpQuiet_load_arr arrMat ?_ ?_ hl5.out (encM_size _) ?_
        rfl
        rfl
        iterate 3 (quiet_step (fail))
        with_reducible refine wpQuiet_load_arr arrOrder ?_ ?_ hlP.out (encO_size _) ?_
        rfl
        rfl
        with_reducible refine wpQuiet_load_arr arrOrder ?_ ?_ hl6.out (encO_size _) ?_
        rfl
        rfl
        iterate 14 (quiet_step (fail))
        refine wpQuiet_nil ?_
        rintro _ ⟨p, rfl⟩
        go_wp2
        go_ret
        exact ⟨rfl, hF.out.extd hF.out.size _⟩
end Go.Proofs.YteclmkmemecckaaDoor
