/- The walk of topo.Insert where the order turns. -/
import Derived.Test.YteclmkmemecckaaDoorWinsert
import Derived.Test.YteclmkmemecckaaDoorReg2
namespace Go.Proofs.YteclmkmemecckaaDoor
open Go.RowKit Wb

theorem writeAt_snoc (x p : Int) : ∀ (xs ps : List Int) (o : O), xs.length = ps.length → writeAt o (xs ++ [x]) (ps ++ [p]) = upd (writeAt o xs ps) x.toNat p
  | [], [], o, _ => rfl
  | y :: ys, q :: qs, o, h => by
    simp only [List.cons_append, writeAt]
    exact writeAt_snoc x p ys qs _ (by simpa using h)
theorem writeAt_step {o : O} {l p : List Int} {k : Nat} {x y : Int} (hl : l[k]? = some x) (hp : p[k]? = some y) : writeAt o (l.take (k + 1)) (p.take (k + 1)) = upd (writeAt o (l.take k) (p.take k)) x.toNat y := by
  have h1 := (List.getElem?_eq_some_iff.1 hl).1
  have h2 := (List.getElem?_eq_some_iff.1 hp).1
  rw [take_snoc hl, take_snoc hp]
  exact writeAt_snoc _ _ _ _ _ (by simp; omega)
theorem byO_length (o : O) (s : S) : (byO o s).length ≤ 32 := by
  have := List.length_filter_le (has s) (rowO o)
  have h2 : (rowO o).length = 32 := by simp [rowO]
  unfold byO; omega

theorem row?_setCell {w : World} {g i : Nat} {c : Array Value} {v : Value} (h : row? w g = some c) : row? (w.setCell ⟨g, i, none⟩ v) g = some (c.setIfInBounds i v) := by
  obtain ⟨t, ht⟩ := row?_some h
  exact row?_of (heap_setCell_same w g i c _ _ ht)
theorem row?_setCell_ne {w : World} {g i k : Nat} {v : Value} (h : k ≠ g) : row? (w.setCell ⟨g, i, none⟩ v) k = row? w k := row?_heap (Below.heap_setCell w _ _ k h)
theorem below_setRow {B g : Nat} {a w : World} (h : Below B a w) (hg : B ≤ g) (cs : Array Value) : Below B a (w.setRow g cs) :=
  ⟨h.os, h.tape, h.output, by rw [size_setRow]; exact h.size, fun k hk => (setRow_other w g k cs (by omega)).trans (h.block k hk)⟩
theorem own_cells {w : World} {B : Nat} {v : Value} {l : List Int} (h : Own w B v l) : v.cells = #[v] := by
  rcases h.open with ⟨rfl, _⟩ | ⟨g, cap, rfl, _⟩ <;> rfl

set_option maxHeartbeats 16000000 in
set_option maxRecDepth 100000 in
theorem insert_turn (m : M) (o : O) (a b : Nat) (ha : a < 32) (hb : b < 32) (w : World) (hT : Tab w) (hp : (put m a b).2 = true) (hs : sorted m o = true) (hlt : ¬ o a < o b) (hf : has (foreOf m o a b) a = false) (hdis : (byO o (foreOf m o a b ||| hindOf m o a b)).length = (byO o (hindOf m o a b) ++ byO o (foreOf m o a b)).length) :
    Calls Tryd.prog 16 #[.agg (encM m), .agg (encO o), .int .i64 (a : Int), .int .i64 (b : Int)] w (InsRet (put m a b).1 (insertO o (foreOf m o a b) (hindOf m o a b)) true w) := by
  have hmf : ∀ (fn : Fn) (first cap : Array Value) (w : World), (Instr.makeFunc fn first cap).run Tryd.prog w = .ok (.func fn first cap) w := fun _ _ _ _ => rfl
  have hT0 : Hid (Tab w) := hT
  have hR : Hid (Right o) := ((sorted_iff m o).1 hs).1
  have hf' : has (near (b : Int) (outs m) (fun i => decide (o i.toNat ≤ o (a : Int).toNat))) (a : Int) = false := hf
  have hmay : Hid (Mays 44 #[.pointer (some ⟨w.heap.size + 1, 0, none⟩), .pointer (some ⟨w.heap.size + 1 + 1, 0, none⟩)] (fun i => decide (o i.toNat ≤ o (a : Int).toNat)) (Holds3 w.heap.size (w.heap.size + 1) (w.heap.size + 1 + 1) m o a)) := ins2_mays _ _ _ m o a ha
  have hnext : Hid (Nexts 43 #[.pointer (some ⟨w.heap.size, 0, none⟩)] (outs m) (Holds3 w.heap.size (w.heap.size + 1) (w.heap.size + 1 + 1) m o a)) := ins1_nexts _ _ _ m o a
  have hmay2 : Hid (Mays 46 #[.pointer (some ⟨w.heap.size + 1, 0, none⟩), .pointer (some ⟨w.heap.size + 1 + 1 + 1, 0, none⟩)] (fun i => decide (o i.toNat ≥ o (b : Int).toNat)) (Holds3 w.heap.size (w.heap.size + 1) (w.heap.size + 1 + 1 + 1) m o b)) := ins4_mays _ _ _ m o b hb
  have hnext2 : Hid (Nexts 45 #[.pointer (some ⟨w.heap.size, 0, none⟩)] (ins m) (Holds3 w.heap.size (w.heap.size + 1) (w.heap.size + 1 + 1 + 1) m o b)) := ins3_nexts _ _ _ m o b
  have hF : Hid (∀ i k, has (outs m i) k = true → 0 ≤ k ∧ k < 32) := fun i k h => ((outs_iff m i k).1 h).2.1
  have hF2 : Hid (∀ i k, has (ins m i) k = true → 0 ≤ k ∧ k < 32) := fun i k h => ((ins_iff m i k).1 h).1
  have hfo : Hid (∀ x, has (foreOf m o a b) x = true → 0 ≤ x ∧ x < 32) := by
    intro x hx
    have h1 := (has_near (a := (b : Int)) ⟨by omega, by omega⟩ _ _ x).1 hx
    cases h1 with
    | here => omega
    | more _ h _ => exact hF.out _ _ h
  have hhi : Hid (∀ x, has (hindOf m o a b) x = true → 0 ≤ x ∧ x < 32) := by
    intro x hx
    have h1 := (has_near (a := (a : Int)) ⟨by omega, by omega⟩ _ _ x).1 hx
    cases h1 with
    | here => omega
    | more _ h _ => exact hF2.out _ _ h
  have hha : Hid (0 < (byO o (hindOf m o a b)).length) := by
    have h1 : (a : Int) ∈ byO o (hindOf m o a b) := (mem_byO hR.out _ _).2 ⟨by omega, (has_near (a := (a : Int)) ⟨by omega, by omega⟩ _ _ _).2 .here⟩
    exact List.length_pos_of_mem h1
  have hdi : Hid ((byO o (foreOf m o a b ||| hindOf m o a b)).length = (byO o (hindOf m o a b) ++ byO o (foreOf m o a b)).length) := hdis
  clear hdis
  have hfor : Hid (foreOf m o a b = near (b : Int) (outs m) (fun i => decide (o i.toNat ≤ o (a : Int).toNat))) := rfl
  have hhin : Hid (hindOf m o a b = near (a : Int) (ins m) (fun i => decide (o i.toNat ≥ o (b : Int).toNat))) := rfl
  generalize (fun i : Int => decide (o i.toNat ≤ o (a : Int).toNat)) = p at *
  generalize (fun i : Int => decide (o i.toNat ≥ o (b : Int).toNat)) = p2 at *
  rw [hfor.out] at hfo hdi ⊢
  rw [hhin.out] at hhi hdi hha ⊢
  clear hT hf hfor hhin
  go_enter Tryd.func16, Tryd.ntmps16
  go_wp2_with (first | (with_reducible refine wpList_alloc_val zeroMat ?_) | (with_reducible refine wpList_alloc_val zeroOrder ?_) | ((with_reducible refine wpList_load_arr arrMat ?_ ?_); go_simp; go_simp) | ((with_reducible refine wpList_load_arr_g arrMat ?_ ?_ ?_); rfl; go_simp; go_simp) | ((with_reducible refine wpList_load_arr arrOrder ?_ ?_); go_simp; go_simp) | ((with_reducible refine wpList_load_arr_g arrOrder ?_ ?_ ?_); rfl; go_simp; go_simp) | ((with_reducible refine wpList_store_arr arrMat (vs := encM (put m a b).1) ?_ ?_ (encM_size _) (encM_all _) ?_); exact rfl; go_simp; go_simp) | (go_at_call 23; refine (put_any _ _ _ _).mono ?_; rintro e w1 ⟨rfl, hb1⟩; obtain ⟨r1, rfl⟩ := hb1.ext; clear hb1) | (go_at_call 22; refine (sorted_any _ _ _ (by repeat (first | exact hT0.out | apply Tab.ext | apply Tab.alloc | apply Tab.drew))).mono ?_; rintro e w1 ⟨rfl, hb1⟩; obtain ⟨r2, rfl⟩ := hb1.ext; clear hb1))
  go_quiet (fail)
  simp only [drewN_is_ext, ext_ext]
  go_wp2_with (first | ((with_reducible refine wpList_load_arr arrOrder ?_ ?_); go_simp; go_simp) | ((with_reducible refine wpList_load_arr_g arrOrder ?_ ?_ ?_); rfl; go_simp; go_simp) | (go_at_call 42; refine (near_any _ _ _ _ _ _ _ hnext.out hmay.out hF.out _ _ (by repeat (first | exact hT0.out | apply Tab.ext | apply Tab.alloc | apply Tab.drew)) ⟨by go_simp, by go_simp, by go_simp⟩).mono ?_; rintro e w1 ⟨rfl, hb1⟩; obtain ⟨r3, rfl⟩ := hb1.ext; clear hb1 hnext) | (go_at_call 42; refine (near_any _ _ _ _ _ _ _ hnext2.out hmay2.out hF2.out _ _ (by repeat (first | exact hT0.out | apply Tab.ext | apply Tab.alloc | apply Tab.drew)) ⟨by go_simp, by go_simp, by go_simp⟩).mono ?_; rintro e w1 ⟨rfl, hb1⟩; obtain ⟨r4, rfl⟩ := hb1.ext; clear hb1) | (go_at_call 35; refine (has_any _ _ _).mono ?_; rintro e w' ⟨rfl, rfl⟩))
  generalize hfr : near (b : Int) (outs m) p = fr at *
  generalize hhd : near (a : Int) (ins m) p2 = hd at *
  clear hfr hhd hmay hmay2 hnext2 hF hF2
  have hTW : Hid (Tab (ext ((ext ((((((w.alloc (Obj.cells (encM m) 29)).alloc (Obj.cells (encO o) 31)).alloc (Obj.cells #[Value.int IntKind.i64 (a : Int)] 3)).alloc (Obj.cells #[Value.int IntKind.i64 (b : Int)] 3)).alloc (Obj.cells (encM fun _ => 0#64) 29)).alloc (Obj.cells (encO fun _ => 0) 31)) r1).alloc (Obj.cells (encM (put m a b).1) 29)) (r2.1 ++ (r3.1 ++ r4.1), r4.2))) := (by repeat (first | exact hT0.out | apply Tab.ext | apply Tab.alloc | apply Tab.drew))
  have hBW : Hid (Below w.heap.size w (ext ((ext ((((((w.alloc (Obj.cells (encM m) 29)).alloc (Obj.cells (encO o) 31)).alloc (Obj.cells #[Value.int IntKind.i64 (a : Int)] 3)).alloc (Obj.cells #[Value.int IntKind.i64 (b : Int)] 3)).alloc (Obj.cells (encM fun _ => 0#64) 29)).alloc (Obj.cells (encO fun _ => 0) 31)) r1).alloc (Obj.cells (encM (put m a b).1) 29)) (r2.1 ++ (r3.1 ++ r4.1), r4.2))) := (by repeat (first | exact Below.refl _ _ | assumption | refine Below.drew ?_ | refine Below.alloc ?_ (by first | omega | (simp; done) | (simp; omega)) _ | refine Below.extd ?_ (by first | omega | (simp; done) | (simp; omega)) _))
  have hWr : Hid (∃ W, W = (ext ((ext ((((((w.alloc (Obj.cells (encM m) 29)).alloc (Obj.cells (encO o) 31)).alloc (Obj.cells #[Value.int IntKind.i64 (a : Int)] 3)).alloc (Obj.cells #[Value.int IntKind.i64 (b : Int)] 3)).alloc (Obj.cells (encM fun _ => 0#64) 29)).alloc (Obj.cells (encO fun _ => 0) 31)) r1).alloc (Obj.cells (encM (put m a b).1) 29)) (r2.1 ++ (r3.1 ++ r4.1), r4.2)) ∧
      row? W (w.heap.size + 1) = some (encO o) ∧ row? W (w.heap.size + 1 + 1 + 1 + 1 + 1 + 1 + r1.1.size) = some (encM (put m a b).1) ∧ row? W (w.heap.size + 1 + 1 + 1 + 1) = some (encM fun _ => 0#64) ∧ row? W (w.heap.size + 1 + 1 + 1 + 1 + 1) = some (encO fun _ => 0) ∧ w.heap.size + 1 + 1 + 1 + 1 + 1 + 1 + r1.1.size < W.heap.size) := by
    exact ⟨_, rfl, by go_simp, by go_simp, by go_simp, by go_simp, by simp; omega⟩
  obtain ⟨W, hWe, hOr, hNr, h8r, h9r, hgnW⟩ := hWr.out
  rw [← hWe] at hTW hBW ⊢
  clear hWr hWe
  have hGn : w.heap.size + 1 + 1 + 1 + 1 + 1 < w.heap.size + 1 + 1 + 1 + 1 + 1 + 1 + r1.1.size := by omega
  generalize w.heap.size + 1 + 1 + 1 + 1 + 1 + 1 + r1.1.size = gn at *
  have hun : Hid (∀ x, has (fr ||| hd) x = true → 0 ≤ x ∧ x < 32) := by
    intro x hx
    rw [has_or, Bool.or_eq_true] at hx
    exact hx.elim (hfo.out x) (hhi.out x)
  have hio : Hid (insertO o fr hd = writeAt o (byO o hd ++ byO o fr) ((byO o (fr ||| hd)).map (fun x => o x.toNat))) := rfl
  have hL32 : Hid (∀ x ∈ byO o (fr ||| hd), 0 ≤ x ∧ x < 32) := fun x hx => ((mem_byO hR.out _ _).1 hx).1
  have hLo32 : Hid (∀ x ∈ byO o hd ++ byO o fr, 0 ≤ x ∧ x < 32) := by
    intro x hx
    rcases List.mem_append.1 hx with h | h <;> exact ((mem_byO hR.out _ _).1 h).1
  have hlen1 := byO_length o hd
  have hlen2 := byO_length o fr
  have hlen3 := byO_length o (fr ||| hd)
  refine (byO_any o (fr ||| hd) _ hTW.out hR.out hun.out).mono ?_
  rintro e w6 ⟨vp, rfl, hown, hb6⟩
  generalize hgL : byO o (fr ||| hd) = L at *
  have hlenp := hown.len
  have hOwn := Lib.hid hown
  have hB6 := Lib.hid hb6
  clear hown hb6 hgL
  go_wp2
  go_loopw [69] (fun i wr => ∃ k : Nat, k ≤ L.length ∧ i = .int .i64 k ∧ Own wr W.heap.size vp ((L.take k).map (fun x => o x.toNat) ++ L.drop k) ∧ Below W.heap.size W wr) (fun i _ => L.length - (intOf i).toNat)
  case atStart => exact ⟨0, Nat.zero_le _, rfl, by simpa using hOwn.out, hB6.out⟩
  case round =>
    obtain ⟨k, hk, rfl, hown, hbr⟩ := hrel
    have hszr := hbr.size
    by_cases hlt2 : k < L.length
    · obtain ⟨x, hx⟩ := at_lt hlt2
      have hx32 := hL32.out x (List.mem_of_getElem? hx)
      have hmg : ((L.take k).map (fun x => o x.toNat) ++ L.drop k)[k]? = some x := mixed_get _ hx
      have hms := Lib.hid (mixed_step (fun x => o x.toNat) hx)
      have hml := mixed_len (fun x => o x.toNat) L k
      obtain ⟨p, rfl⟩ : ∃ p : Nat, x = (p : Int) := ⟨x.toNat, by omega⟩
      have hp32 : p < 32 := by omega
      have hor : row? wr (w.heap.size + 1) = some (encO o) := (row?_below hbr (row?_lt hOr)).trans hOr
      have hco : wr.cell? ⟨w.heap.size + 1, p, none⟩ = some (.int .i64 (o p)) := by rw [row?_cell hor]; exact encO_get o p hp32
      rcases hown.open with ⟨_, hnil⟩ | ⟨gl, capl, hvl, hgl1, hgl2, _, _, hcell⟩
      · exfalso; rw [hnil] at hmg; simp at hmg
      · have hcx := hcell k _ hmg
        rw [hml] at hvl
        rw [hvl] at hown
        have hfz := hown.free k
        have hnew := Lib.hid (hown.set (k := k) (x := o p))
        have hbn := Lib.hid hbr
        subst hvl
        clear hcell hx hown hmg hbr hor hml
        go_wp2
        go_roundw
        case rel =>
          refine ⟨k + 1, by omega, by go_num, ?_, hbn.out.setCell hgl1 _⟩
          have h1 := hnew.out
          rw [show ((L.take k).map (fun x => o x.toNat) ++ L.drop k).set k (o p) = _ from hms.out] at h1
          exact h1
        case measure => simp [intOf]; omega
    · have hkL : k = L.length := by omega
      subst hkL
      obtain ⟨wq, hwq⟩ : ∃ x : World, x = wr := ⟨_, rfl⟩
      subst hwq
      have hown2 : Own wq W.heap.size vp (L.map fun x => o x.toNat) := by simpa using hown
      clear hown
      have hTr : Hid (Tab wq) := hTW.out.next hbr
      have hor : row? wq.drew (w.heap.size + 1) = some (encO o) := (row?_below hbr (row?_lt hOr)).trans hOr
      have hB7 := Lib.hid hbr
      have hO7 := Lib.hid hown2
      have hbase := Lib.hid hor
      have hszr2 : Hid (w.heap.size + 1 < wq.heap.size) := by have := row?_lt hor; exact this
      clear hown2 hbr hor hlenp
      go_wp2
      refine wp_region_rows (c := encO o) (g := w.heap.size + 1) (fun v w' => Own w' wq.heap.size v (byO o hd) ∧ Below wq.heap.size wq w') (fun u v w' => Own w' wq.heap.size u (byO o hd) ∧ Own w' wq.heap.size v (byO o fr) ∧ Below wq.heap.size wq w') (fun z w' => Own w' wq.heap.size z (byO o hd ++ byO o fr) ∧ Below wq.heap.size wq w')
        (by rfl) (by rfl) (by rfl) (by simp) (encO_size o) hbase.out (fun v w' hj => (row?_below hj.2 hszr2.out).trans hbase.out) ?_ ?_ ?_ ?_ ?_
      · refine (byO_any o hd wq.drew hTr.out.drew hR.out hhi.out).mono ?_
        rintro e w' ⟨v, rfl, h1, h2⟩
        exact ⟨v, rfl, h1, h2.os, h2.tape, h2.output, h2.size, h2.block⟩
      · rintro v w' ⟨h1, h2⟩
        refine (byO_any o fr w' (hTr.out.next h2) hR.out hfo.out).mono ?_
        rintro e w'' ⟨v2, rfl, h3, h4⟩
        exact ⟨v2, rfl, h1.next h4, h3.base h2.size, h2.trans (h4.mono h2.size)⟩
      · rintro u v w' ⟨h1, h2, _⟩
        exact ⟨own_cells h1, own_cells h2⟩
      · rintro u v w' ⟨h1, h2, h3⟩
        refine (concat_any w'.heap.size u v (byO o hd) (byO o fr) wq.heap.size wq.heap.size _ (row?_alloc_at _ _ _ rfl) (h1.alloc _) (h2.alloc _) (by omega) (by omega) (by have := hha.out; omega)).mono ?_
        rintro e w'' ⟨z, rfl, h4, h5⟩
        have h6 := h3.alloc h3.size (.cells #[u, v] 37)
        exact ⟨z, rfl, h4.base h6.size, h6.trans (h5.mono h6.size)⟩
      · rintro u v p z w9 ⟨hz, hb9⟩
        have hlenz := hz.len
        have hZ := Lib.hid hz
        have hB9 := Lib.hid hb9
        have hlz : Hid (∀ k, z.ownBlock = some k → wq.heap.size ≤ k) := fun k hk => (hz.lt k hk).1
        have hsW := hB7.out.size
        have hB79 : Hid (Below W.heap.size W w9) := hB7.out.trans (hb9.mono hsW)
        have hP9 : Hid (Own w9 W.heap.size vp (L.map fun x => o x.toNat)) := hO7.out.next hb9
        have hlenP : (L.map fun x => o x.toNat).length = L.length := List.length_map ..
        have hdi2 : Hid ((L.map fun x => o x.toNat).length = (byO o hd ++ byO o fr).length) := by show _ = _; rw [hlenP]; exact hdi.out
        clear hz hb9 hlenP
        have hLo64 : (byO o hd ++ byO o fr).length ≤ 64 := by rw [List.length_append]; omega
        generalize hgP : (L.map fun x => o x.toNat) = P at *
        generalize hgLo : byO o hd ++ byO o fr = Lo at *
        clear hgP hgLo
        simp only [atRows]
        go_simp
        go_wp2
        go_loopw [91] (fun i w2 => ∃ k : Nat, k ≤ Lo.length ∧ i = .int .i64 k ∧ row? w2 (w.heap.size + 1) = some (encO (writeAt o (Lo.take k) (P.take k))) ∧ Own w2 W.heap.size vp P ∧ Own w2 wq.heap.size z Lo ∧ row? w2 gn = some (encM (put m a b).1) ∧ row? w2 (w.heap.size + 1 + 1 + 1 + 1) = some (encM fun _ => 0#64) ∧ row? w2 (w.heap.size + 1 + 1 + 1 + 1 + 1) = some (encO fun _ => 0) ∧ Below w.heap.size w w2) (fun i _ => Lo.length - (intOf i).toNat)
        case atStart =>
          refine ⟨0, Nat.zero_le _, rfl, ?_, hP9.out, hZ.out, ?_, ?_, ?_, hBW.out.trans (hB79.out.mono (by have := hBW.out.size; exact this))⟩
          · simp only [List.take_zero, writeAt]; exact (row?_below hB79.out (row?_lt hOr)).trans hOr
          · exact (row?_below hB79.out hgnW).trans hNr
          · exact (row?_below hB79.out (row?_lt h8r)).trans h8r
          · exact (row?_below hB79.out (row?_lt h9r)).trans h9r
        case round =>
          obtain ⟨k, hk, rfl, hro, hoP, hoZ, hrn, hr8, hr9, hb2⟩ := hrel
          by_cases hlt2 : k < Lo.length
          · obtain ⟨x, hx⟩ := at_lt hlt2
            obtain ⟨y, hy⟩ := at_lt (l := P) (k := k) (by have := hdi2.out; omega)
            have hx32 := hLo32.out x (List.mem_of_getElem? hx)
            have hws := Lib.hid (writeAt_step (o := o) hx hy)
            obtain ⟨p, rfl⟩ : ∃ p : Nat, x = (p : Int) := ⟨x.toNat, by omega⟩
            have hp32 : p < 32 := by omega
            have hco : wr.cell? ⟨w.heap.size + 1, p, none⟩ = some (.int .i64 (writeAt o (Lo.take k) (P.take k) p)) := by rw [row?_cell hro]; exact encO_get _ p hp32
            have hfo2 := row?_free hro p
            rcases hoZ.open with ⟨_, hnil⟩ | ⟨gl, capl, hvl, hgl1, hgl2, _, _, hcell⟩
            · exfalso; rw [hnil] at hx; simp at hx
            · rcases hoP.open with ⟨_, hnil⟩ | ⟨gp, capp, hvp, hgp1, hgp2, _, _, hcellp⟩
              · exfalso; rw [hnil] at hy; simp at hy
              · have hcx := hcell k _ hx
                have hcy := hcellp k _ hy
                have hall := Lib.hid hro
                have hrest := Lib.hid (And.intro hrn (And.intro hr8 (And.intro hr9 hb2)))
                have hoPZ := Lib.hid (And.intro hoP hoZ)
                subst hvl hvp
                clear hcell hcellp hx hy hro hoP hoZ hrn hr8 hr9 hb2
                have hkP : k < P.length := by have := hdi2.out; omega
                go_wp2
                go_roundw
                case rel =>
                  obtain ⟨hrn, hr8, hr9, hb2⟩ := hrest.out
                  refine ⟨k + 1, by omega, by go_num, ?_, hoPZ.out.1.other (by show w.heap.size + 1 < _; omega) _, hoPZ.out.2.other (by exact hszr2.out) _, ?_, ?_, ?_, hb2.setCell (by simp) _⟩
                  · rw [row?_setCell hall.out, encO_set, hws.out]; rfl
                  · rw [row?_setCell_ne (by omega)]; exact hrn
                  · rw [row?_setCell_ne (by omega)]; exact hr8
                  · rw [row?_setCell_ne (by omega)]; exact hr9
                case measure => simp [intOf]; omega
          · have hkL : k = Lo.length := by omega
            subst hkL
            rw [List.take_length, List.take_of_length_le (by have := hdi2.out; omega)] at hro
            have hall := Lib.hid hb2
            clear hb2 hoP hoZ
            go_wp2
            refine wp_region_ret2 arrMat arrOrder (c0 := encM (put m a b).1) (c1 := encO (writeAt o Lo P)) (e0 := encM fun _ => 0#64) (e1 := encO fun _ => 0) (by rfl) (by rfl) (by rfl) (by rfl) ⟨by decide, by simp, by simp⟩ hrn hro hr8 hr9 ⟨by omega, by omega, by omega⟩ (encM_size _) (encO_size _) (encM_size _) (encO_size _) (encM_all _) (encO_all _) ?_
            go_simp
            go_wp2
            have hr8' := row?_lt hr8
            have hr9' := row?_lt hr9
            refine bodyPost_ret (res_cct arrMat arrOrder (cs := encM (put m a b).1) (cs2 := encO (writeAt o Lo P)) rfl _ _ rfl rfl rfl ?_ ?_) rfl ⟨by rw [hio.out]; rfl, ?_⟩
            · have e1 : row? ((wr.setRow (w.heap.size + 1 + 1 + 1 + 1) (encM (put m a b).1)).setRow (w.heap.size + 1 + 1 + 1 + 1 + 1) (encO (writeAt o Lo P))).drew (w.heap.size + 1 + 1 + 1 + 1) = some (encM (put m a b).1) := by
                rw [row?_drew, row?_setRow_other _ _ _ (by omega)]; exact row?_setRow_same _ _ _ hr8
              rw [seg_at, e1]
              simp [encM_size, extract_encM]
            · have e1 : row? ((wr.setRow (w.heap.size + 1 + 1 + 1 + 1) (encM (put m a b).1)).setRow (w.heap.size + 1 + 1 + 1 + 1 + 1) (encO (writeAt o Lo P))).drew (w.heap.size + 1 + 1 + 1 + 1 + 1) = some (encO (writeAt o Lo P)) := by
                rw [row?_drew]; exact row?_setRow_same _ _ _ (by rw [row?_setRow_other _ _ _ (by omega)]; exact hr9)
              rw [seg_at, e1]
              simp [encO_size, extract_encO]
            · exact (below_setRow (below_setRow hall.out (by omega) _) (by omega) _).drew
end Go.Proofs.YteclmkmemecckaaDoor
