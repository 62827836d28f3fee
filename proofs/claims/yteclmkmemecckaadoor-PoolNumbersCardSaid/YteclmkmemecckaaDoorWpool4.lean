/- The walk of pool.Collect. -/
import Derived.Test.YteclmkmemecckaaDoorWpool3
namespace Go.Proofs.YteclmkmemecckaaDoor
open Go.RowKit Wb

theorem own_setRow {w : World} {B : Nat} {v : Value} {l : List Int} (h : Own w B v l) {g : Nat} (hg : g < B) (c : Array Value) : Own (w.setRow g c) B v l := by
  refine ⟨h.1, ?_⟩
  rcases h.2 with hn | ⟨g', cap, cur, rfl, hB, hgg, rest⟩
  · exact .inl hn
  · exact .inr ⟨g', cap, cur, rfl, hB, by rw [setRow_other w g g' c (by omega)]; exact hgg, rest⟩
theorem collect_step (p : Pl) (n : Nat) (out : List Int) : p.collect (n + 1) out = if p.source.2 then (p.gone p.source.1).collect n (out ++ [p.ids p.source.1.toNat]) else (p, out) := rfl
/-- The round of 'Collect'. -/
def CollectJ (p : Pl) (w0 : World) (a' : Act) (w' : World) : Prop :=
  ∃ (q : Pl) (v : Value) (out : List Int) (n : Nat) (u5 u6 u7 u8 u9 u10 u11 u12 u13 u14 u15 u16 u17 u18 u19 u20 u21 u22 u23 u24 u25 u26 u27 u28 u29 u30 u31 u32 u33 u34 : Value),
    a' = { tmps := #[.agg (encP p), .pointer (some ⟨w0.heap.size, 0, none⟩), .pointer (some ⟨w0.heap.size + 1, 0, none⟩), .slice none 0 0, v, u5, u6, u7, u8, u9, u10, u11, u12, u13, u14, u15, u16, u17, u18, u19, u20, u21, u22, u23, u24, u25, u26, u27, u28, u29, u30, u31, u32, u33, u34], defers := [] } ∧
    row? w' w0.heap.size = some (encP q) ∧ row? w' (w0.heap.size + 1) = some (encP Pl.none) ∧ Below w0.heap.size w0 w' ∧ Own w' (w0.heap.size + 2) v out ∧ q.collect n out = p.collects ∧ cnt q.over < n ∧ out.length + n ≤ 65
set_option maxHeartbeats 4000000 in
set_option maxRecDepth 100000 in
theorem collect_any (p : Pl) (w : World) (hT : Tab w) :
    Calls Tryd.prog 31 #[.agg (encP p)] w fun e w' => ∃ v, e = .returned (.tuple #[.agg (encP p.collects.1), v]) ∧ Own w' w.heap.size v p.collects.2 ∧ Below w.heap.size w w' := by
  have hT0 := Lib.hid hT
  clear hT
  go_enter Tryd.func31, Tryd.ntmps31
  go_wp2_with (first | (with_reducible refine wpList_alloc_val zeroPool ?_))
  obtain ⟨w1, hW⟩ : ∃ w1, w1 = (w.alloc (Obj.cells (encP p) 54)).alloc (Obj.cells (encP Pl.none) 54) := ⟨_, rfl⟩
  rw [← hW]
  have hr1 : row? w1 w.heap.size = some (encP p) := by rw [hW]; go_simp
  have hr2 : row? w1 (w.heap.size + 1) = some (encP Pl.none) := by rw [hW]; go_simp
  have hB1 : Hid (Below w.heap.size w w1) := by rw [hW]; exact below2 w _ _
  clear hW
  refine wp_scope_loop1 0 (CollectJ p w) (fun _ w' => cnt (BitVec.ofInt 64 (intOf ((w'.cell? ⟨w.heap.size, 66, none⟩).getD undef)))) (by simp [findLabel]) ?_ ?_
  · go_wp2
    exact ⟨p, _, [], 65, _, _, _, _, _, _, _, _, _, _, _, _, _, _, _, _, _, _, _, _, _, _, _, _, _, _, _, _, _, _, rfl, hr1, hr2, hB1.out, Own.nil _ _, rfl, by have := cnt_le p.over; omega, by simp⟩
  · rintro a' wr ⟨q, v, out, n, u5, u6, u7, u8, u9, u10, u11, u12, u13, u14, u15, u16, u17, u18, u19, u20, u21, u22, u23, u24, u25, u26, u27, u28, u29, u30, u31, u32, u33, u34, rfl, hq1, hq2, hbr, hown, hcol, hcn, hon⟩
    have hTr : Hid (Tab wr) := hT0.out.next hbr
    have hBr := Lib.hid hbr
    have hOwn := Lib.hid hown
    have hCol := Lib.hid hcol
    have hsz := row?_lt hq2
    clear hbr hown hcol hr1 hr2 hB1
    obtain ⟨n, rfl⟩ : ∃ m, n = m + 1 := ⟨n - 1, by omega⟩
    rw [collect_step] at hCol
    go_wp2_with (first | ((with_reducible refine wpList_load_arr arrPool ?_ ?_); go_simp; go_simp))
    refine (source_any q wr hTr.out).mono ?_
    rintro e w2 ⟨rfl, hb2⟩
    have hr12 := (row?_below hb2 (by omega)).trans hq1
    have hr22 := (row?_below hb2 hsz).trans hq2
    have hB2 : Hid (Below w.heap.size w w2) := hBr.out.trans (hb2.mono hBr.out.size)
    have hO2 := Lib.hid (hOwn.out.next hb2)
    have hsz2 := row?_lt hr22
    have hmem := Lib.hid (source_mem q)
    have hless := Lib.hid (gone_less q)
    have hq1' := hq1
    clear hq1 hq2 hsz hb2 hOwn hBr hTr
    generalize q.source = so at *
    obtain ⟨si, sb⟩ := so
    cases sb with
    | false =>
      simp only [Bool.false_eq_true, if_false] at hCol
      go_wp2_with (first | ((with_reducible refine wpList_load_arr arrPool ?_ ?_); go_simp; go_simp) | ((with_reducible refine wpList_store_arr arrPool (vs := encP q) ?_ ?_ (encP_size _) (encP_all _) ?_); exact rfl; go_simp; go_simp))
      simp only [Exit.jump]
      refine bodyPost_ret (res_ct arrPool (cs := encP q) rfl _ _ rfl rfl (by go_simp)) rfl ⟨v, ?_, ?_, below_setRow hB2.out (by omega) _⟩
      · rw [← hCol.out]; rfl
      · rw [← hCol.out]; exact (own_setRow hO2.out (by omega) _).base (by omega)
    | true =>
      obtain ⟨hm1, hm2, hm3, hm4⟩ := hmem.out rfl
      obtain ⟨sn, rfl⟩ : ∃ n : Nat, si = (n : Int) := ⟨si.toNat, by omega⟩
      have hsn : sn < 32 := by omega
      have hgl := hless.out rfl
      simp only [if_true, Int.toNat_natCast] at hCol
      have hcell66 : Hid (cnt (BitVec.ofInt 64 (intOf ((wr.cell? ⟨w.heap.size, 66, none⟩).getD undef))) = cnt q.over) := by
        show _ = _
        rw [(pool_cells hq1').2.2.1]
        show cnt (BitVec.ofInt 64 (sv q.over)) = _
        rw [ofInt_sv]
      clear hm1 hm2 hm3 hm4 hmem hless
      have hlen : out.length + 1 ≤ 1000000 := by omega
      go_wp2_with (first | (at_builtin; refine wpList_append_int rfl _ _ rfl (w.heap.size + 2) v out rfl (hO2.out.alloc _) ⟨w2.heap.size, 0, none⟩ 1 1 [q.ids sn] rfl rfl (cell_one_int _ _) hlen (by simp; omega) ?_; intro v' w3 hown3 hg3 _))
      have hl12 := row?_lt hr12
      have hkey : ∀ g, g < w.heap.size + 2 → some g ≠ v.ownBlock := fun g hg he => by have := hO2.out.lt g he.symm; omega
      have hr13 : row? w3 w.heap.size = some (encP q) := (row?_heap (hg3.block _ (by simp; omega) (hkey _ (by omega)))).trans (by go_simp)
      have hr23 : row? w3 (w.heap.size + 1) = some (encP Pl.none) := (row?_heap (hg3.block _ (by simp; omega) (hkey _ (by omega)))).trans (by go_simp)
      have hB3 : Hid (Below w.heap.size w w3) := (hB2.out.alloc (by omega) _).grown hg3 (by simp; omega) (fun k hk => by have := hO2.out.lt k hk; omega)
      have hO3 := Lib.hid hown3
      clear hg3 hown3 hr12 hr22 hB2 hO2 hsz2 hkey hl12
      refine wp_region_steps (St := Unit) [some 20, some 21, some 22, some 23, some 24, some 25, some 26, some 27, some 28, none, some 29, none] [[], [0], [], [1, 2], [], [4], [], [5, 6, 3], [0, 1, 2, 3, 4, 5], [8, 3, 7, 0, 1, 2, 3, 4, 5], [0, 1, 2, 3, 4, 5, 6, 7, 8, 9], [10, 7, 9, 0, 1, 2, 3, 4, 5, 6, 7, 8, 9]]
        (fun s i => ([.pointer (some ⟨w.heap.size, 1, none⟩), .agg (encM q.m), .int .i64 (sn : Int), .agg (encM (cut q.m sn)), .pointer (some ⟨w.heap.size, 66, none⟩), .int .u64 (sv q.over), .int .i64 (sn : Int), .int .u64 (sv (less q.over sn)), .pointer (some ⟨w.heap.size, 1, none⟩), undef, .pointer (some ⟨w.heap.size, 66, none⟩), undef] : List Value).getD i undef)
        (fun d _ w' => Below w.heap.size w w' ∧ row? w' w.heap.size = some (encP { q with m := if d 9 then cut q.m sn else q.m, over := if d 11 then less q.over sn else q.over }) ∧ row? w' (w.heap.size + 1) = some (encP Pl.none) ∧ Own w' (w.heap.size + 2) v' (out ++ [q.ids sn]))
        () rfl (by kernel_rfl) (by decide) (by simp) (by decide) ⟨hB3.out.drew, hr13, hr23, hO3.out⟩ ?_ ?_
      · intro d s w' i hi hd hne hcl hC a hev hot hsz K hK
        obtain ⟨hb, hr, hn, ho⟩ := hC
        match i, hi with
        | 0, _ =>
          have e1 : a.eval (.tmp 1) = .pointer (some ⟨w.heap.size, 0, none⟩) := hot 1 (by decide)
          exact wpOp_run rfl rfl (by simp only [List.getElem_toArray, List.getElem_cons_zero, execOp, e1]; try simp [go_sem]) (hK s w' (fun _ _ => rfl) ⟨hb, hr, hn, ho⟩)
        | 1, _ =>
          have e20 : a.eval (.tmp 20) = .pointer (some ⟨w.heap.size, 1, none⟩) := hev 0 20 (hne 0 (by simp)) rfl
          have h9 := not_done hcl (k := 9) (by decide) hd (by simp)
          have h11 := not_done hcl (k := 11) (by decide) hd (by simp)
          have hr' := hr
          rw [h9, h11] at hr'
          exact wpOp_load_at arrMat rfl e20 hr' (by rw [encP_size]; decide) (encP_extract_mat _) (hK s w' (fun _ _ => rfl) ⟨hb, hr, hn, ho⟩)
        | 2, _ =>
          have e5 : a.eval (.tmp 5) = .int .i64 (sn : Int) := hot 5 (by decide)
          exact wpOp_run rfl rfl (by simp only [List.getElem_toArray, List.getElem_cons_zero, List.getElem_cons_succ, execOp, e5]; try simp [go_sem]) (hK s w' (fun _ _ => rfl) ⟨hb, hr, hn, ho⟩)
        | 3, _ =>
          have e21 : a.eval (.tmp 21) = .agg (encM q.m) := hev 1 21 (hne 1 (by simp)) rfl
          have e22 : a.eval (.tmp 22) = .int .i64 (sn : Int) := hev 2 22 (hne 2 (by simp)) rfl
          refine wpOp_call rfl ⟨_, Tryd.func65, by kernel_rfl, by kernel_rfl⟩ ?_
          simp only [List.map_toArray, List.map_cons, List.map_nil, e21, e22]
          refine (cut_any q.m sn w').mono ?_
          rintro e w4 ⟨rfl, hb4⟩
          exact ⟨_, rfl, hK s w4 (fun _ _ => rfl) ⟨hb.trans (hb4.mono hb.size), (row?_below hb4 (row?_lt hr)).trans hr, (row?_below hb4 (row?_lt hn)).trans hn, ho.next hb4⟩⟩
        | 4, _ =>
          have e1 : a.eval (.tmp 1) = .pointer (some ⟨w.heap.size, 0, none⟩) := hot 1 (by decide)
          exact wpOp_run rfl rfl (by simp only [List.getElem_toArray, List.getElem_cons_zero, List.getElem_cons_succ, execOp, e1]; try simp [go_sem]) (hK s w' (fun _ _ => rfl) ⟨hb, hr, hn, ho⟩)
        | 5, _ =>
          have e24 : a.eval (.tmp 24) = .pointer (some ⟨w.heap.size, 66, none⟩) := hev 4 24 (hne 4 (by simp)) rfl
          have h9 := not_done hcl (k := 9) (by decide) hd (by simp)
          have h11 := not_done hcl (k := 11) (by decide) hd (by simp)
          have hr' := hr
          rw [h9, h11] at hr'
          exact wpOp_run rfl rfl (by simp only [List.getElem_toArray, List.getElem_cons_zero, List.getElem_cons_succ, execOp, e24]; simp [go_sem, hr']) (hK s w' (fun _ _ => rfl) ⟨hb, hr, hn, ho⟩)
        | 6, _ =>
          have e5 : a.eval (.tmp 5) = .int .i64 (sn : Int) := hot 5 (by decide)
          exact wpOp_run rfl rfl (by simp only [List.getElem_toArray, List.getElem_cons_zero, List.getElem_cons_succ, execOp, e5]; try simp [go_sem]) (hK s w' (fun _ _ => rfl) ⟨hb, hr, hn, ho⟩)
        | 7, _ =>
          have e25 : a.eval (.tmp 25) = .int .u64 (sv q.over) := hev 5 25 (hne 5 (by simp)) rfl
          have e26 : a.eval (.tmp 26) = .int .i64 (sn : Int) := hev 6 26 (hne 6 (by simp)) rfl
          refine wpOp_call rfl ⟨_, Tryd.func66, by kernel_rfl, by kernel_rfl⟩ ?_
          simp only [List.map_toArray, List.map_cons, List.map_nil, e25, e26]
          refine (less_any q.over sn w').mono ?_
          rintro e w4 ⟨rfl, rfl⟩
          exact ⟨_, rfl, hK s w' (fun _ _ => rfl) ⟨hb, hr, hn, ho⟩⟩
        | 8, _ =>
          have e1 : a.eval (.tmp 1) = .pointer (some ⟨w.heap.size, 0, none⟩) := hot 1 (by decide)
          exact wpOp_run rfl rfl (by simp only [List.getElem_toArray, List.getElem_cons_zero, List.getElem_cons_succ, execOp, e1]; try simp [go_sem]) (hK s w' (fun _ _ => rfl) ⟨hb, hr, hn, ho⟩)
        | 9, _ =>
          have e23 : a.eval (.tmp 23) = .agg (encM (cut q.m sn)) := hev 3 23 (hne 3 (by simp)) rfl
          have e28 : a.eval (.tmp 28) = .pointer (some ⟨w.heap.size, 1, none⟩) := hev 8 28 (hne 8 (by simp)) rfl
          exact wpOp_store_at arrMat rfl e28 e23 hr (by rw [encP_size]; decide) (encM_size _) (encM_all _) (splice_encP_mat _ _) (hK s _ (fun _ _ => rfl) ⟨below_setRow hb (Nat.le_refl _) _, row?_setRow_same _ _ _ hr, by rw [row?_setRow_other _ _ _ (by omega)]; exact hn, own_setRow ho (by omega) _⟩)
        | 10, _ =>
          have e1 : a.eval (.tmp 1) = .pointer (some ⟨w.heap.size, 0, none⟩) := hot 1 (by decide)
          exact wpOp_run rfl rfl (by simp only [List.getElem_toArray, List.getElem_cons_zero, List.getElem_cons_succ, execOp, e1]; try simp [go_sem]) (hK s w' (fun _ _ => rfl) ⟨hb, hr, hn, ho⟩)
        | 11, _ =>
          have e27 : a.eval (.tmp 27) = .int .u64 (sv (less q.over sn)) := hev 7 27 (hne 7 (by simp)) rfl
          have e29 : a.eval (.tmp 29) = .pointer (some ⟨w.heap.size, 66, none⟩) := hev 10 29 (hne 10 (by simp)) rfl
          exact wpOp_store_one oneSet rfl e29 e27 hr (by rw [encP_size]; decide) rfl rfl (hK s _ (fun _ _ => rfl) ⟨below_setRow hb (Nat.le_refl _) _, by rw [encP_set_over]; exact row?_setRow_same _ _ _ hr, by rw [row?_setRow_other _ _ _ (by omega)]; exact hn, own_setRow ho (by omega) _⟩)
        | n + 12, hi => exact absurd hi (by simp)
      · rintro d _ w4 hall ⟨hb, hr, hn, ho⟩
        rw [hall 9 (by decide), hall 11 (by decide)] at hr
        simp only [if_true] at hr
        have hB4 := Lib.hid hb
        have hO4 := Lib.hid ho
        have hg1 := row?_lt hr
        have hg2 := row?_lt hn
        clear hb hB3 hr13 hr23 hO3 ho hall
        simp only [putL, List.getD_cons_zero, List.getD_cons_succ]
        go_simp
        go_wp2
        go_step3
        have hgone : q.gone sn = { q with m := cut q.m sn, over := less q.over sn, ids := upd q.ids sn 0 } := by unfold Pl.gone; simp
        have hr66 : (w4.setRow w.heap.size (encP { q with m := cut q.m sn, over := less q.over sn, ids := upd q.ids sn 0 })).cell? ⟨w.heap.size, 66, none⟩ = some (.int .u64 (sv (less q.over sn))) := (pool_cells (row?_setRow_same _ _ _ hr)).2.2.1
        refine ⟨rfl, ⟨q.gone sn, v', out ++ [q.ids sn], n, _, _, _, _, _, _, _, _, _, _, _, _, _, _, _, _, _, _, _, _, _, _, _, _, _, _, _, _, _, _, rfl, ?_, ?_, ?_, ?_, hCol.out, ?_, ?_⟩, ?_⟩
        · rw [hgone]; exact row?_setRow_same _ _ _ hr
        · rw [row?_setRow_other _ _ _ (by omega)]; exact hn
        · exact below_setRow hB4.out (Nat.le_refl _) _
        · exact own_setRow hO4.out (by omega) _
        · omega
        · rw [List.length_append]; simp; omega
        · rw [hcell66.out, hr66]
          show cnt (BitVec.ofInt 64 (sv (less q.over sn))) < _
          rw [ofInt_sv]
          rw [hgone] at hgl
          exact hgl
end Go.Proofs.YteclmkmemecckaaDoor
