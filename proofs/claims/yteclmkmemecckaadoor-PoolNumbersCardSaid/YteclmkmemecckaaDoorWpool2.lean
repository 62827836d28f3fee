/- The walks of pool.Begin, Edge, End. -/
import Derived.Test.YteclmkmemecckaaDoorWpool
import Derived.Test.YteclmkmemecckaaDoorAlive
namespace Go.Proofs.YteclmkmemecckaaDoor
open Go.RowKit Wb

theorem below_grown {B : Nat} {a w w' : World} {g : Nat} (h : Below B a w) (hg : w.grownBy w' (some g)) (hB : B ≤ w.heap.size) (hBg : B ≤ g) : Below B a w' :=
  h.grown hg hB (fun k hk => by have := Option.some.inj hk; omega)
theorem row?_grown' {w w' : World} {g k : Nat} {c : Array Value} (hg : w.grownBy w' (some g)) (hne : k ≠ g) (h : row? w k = some c) : row? w' k = some c :=
  (row?_heap (hg.block k (row?_lt h) (fun e => hne (Option.some.inj e)))).trans h
theorem own_grown {w w' : World} {B g : Nat} {v : Value} {l : List Int} (h : Own w B v l) (hg : w.grownBy w' (some g)) (hne : ∀ k, v.ownBlock = some k → k ≠ g) : Own w' B v l :=
  h.kept hg (by
    cases hv : v.ownBlock with
    | none => exact .inl rfl
    | some k => exact .inr (fun e => hne k hv (Option.some.inj e)))

set_option maxHeartbeats 4000000 in
set_option maxRecDepth 100000 in
theorem begin_any (p : Pl) (w : World) (hT : Tab w) (hc0 : 0 ≤ p.count) (hc1 : p.count ≤ 1000000) :
    Calls Tryd.prog 40 #[.agg (encP p)] w fun e w' => e = .returned (.tuple #[.agg (encP p.begin.1), .int .i64 p.begin.2.1, .int .i64 p.begin.2.2]) ∧ Below w.heap.size w w' := by
  have hT0 := Lib.hid hT
  clear hT
  go_enter Tryd.func40, Tryd.ntmps40
  go_wp2_with (first | (with_reducible refine wpList_alloc_val zeroPool ?_))
  obtain ⟨w1, hW⟩ : ∃ w1, w1 = (w.alloc (Obj.cells (encP p) 54)).alloc (Obj.cells (encP Pl.none) 54) := ⟨_, rfl⟩
  rw [← hW]
  have hr1 : row? w1 w.heap.size = some (encP p) := by rw [hW]; go_simp
  have hr2 : row? w1 (w.heap.size + 1) = some (encP Pl.none) := by rw [hW]; go_simp
  have hB1 : Hid (Below w.heap.size w w1) := by rw [hW]; exact below2 w _ _
  have hT1 : Hid (Tab w1) := hT0.out.next hB1.out
  have hg1 := row?_lt hr1
  have hg2 := row?_lt hr2
  have hl1 : Hid (∀ w', (∃ q : Grew, w' = ext w1 (q.os, q.n)) → row? w' w.heap.size = some (encP p)) := by
    rintro w' ⟨q, rfl⟩; rw [ext_row? _ _ _ hg1]; exact hr1
  clear hW
  refine wp_region_grew (by kernel_rfl) (by kernel_rfl) ?_
  with_reducible refine wpQuiet_load_arr arrPool ?_ ?_ hl1.out (encP_size _) ?_
  rfl
  rfl
  quiet_step ((go_at_call 72; exact Calls.grew_of (slots_any p _)))
  with_reducible refine wpQuiet_load_arr arrPool ?_ ?_ hl1.out (encP_size _) ?_
  rfl
  rfl
  quiet_step ((go_at_call 70; exact Calls.grew_of (taken_any p _)))
  quiet_step (fail)
  quiet_step ((go_at_call 34; exact Calls.grew_of ((first_any (p.slots &&& ~~~p.taken) _ (hT1.out.ext _)).mono fun _ _ ⟨hw, he⟩ => ⟨he, hw ▸ Below.refl _ _⟩)))
  quiet_step (fail)
  refine wpQuiet_nil ?_
  rintro w2 ⟨q, hw2⟩
  have hb2 : Below w1.heap.size w1 w2 := by rw [hw2]; exact ext_below _ _
  have hr1' : row? w2 w.heap.size = some (encP p) := (row?_below hb2 hg1).trans hr1
  have hr2' : row? w2 (w.heap.size + 1) = some (encP Pl.none) := (row?_below hb2 hg2).trans hr2
  have hB2 : Hid (Below w.heap.size w w2) := hB1.out.trans (hb2.mono hB1.out.size)
  have hT2 : Hid (Tab w2) := hT1.out.next hb2
  have hl1' := row?_lt hr1'
  have hl2' := row?_lt hr2'
  have hsl : Hid (first (p.slots &&& ~~~p.taken) = p.slot) := rfl
  have hrng := Lib.hid (slot_range p)
  clear hw2 hb2 hr1 hr2 hg1 hg2 hB1 hT1 hl1
  rw [hsl.out]
  have hbeg : Hid (p.begin = if p.slot < 0 then (p, 0, 4) else ((p.behind p.slot (items p.over)).begins p.slot, p.slot, 0)) := rfl
  generalize hs : p.slot = sl at *
  have hS := Lib.hid hs
  clear hs
  by_cases h0 : sl < 0
  · rw [if_pos h0] at hbeg
    go_wp2_with (first | ((with_reducible refine wpList_load_arr arrPool ?_ ?_); go_simp; go_simp) | ((with_reducible refine wpList_store_arr arrPool (vs := encP p) ?_ ?_ (encP_size _) (encP_all _) ?_); exact rfl; go_simp; go_simp))
    have hrr : row? (w2.setRow (w.heap.size + 1) (encP p)) (w.heap.size + 1) = some (encP p) := row?_setRow_same _ _ _ hr2'
    exact bodyPost_ret (res_ctt arrPool (cs := encP p) rfl _ _ rfl rfl rfl (by go_simp)) rfl ⟨by rw [hbeg.out]; rfl, below_setRow hB2.out (by omega) _⟩
  · rw [if_neg h0] at hbeg
    have hR1 := hrng.out h0
    have hcap := capOf_le p.size
    obtain ⟨sn, rfl⟩ : ∃ n : Nat, sl = (n : Int) := ⟨sl.toNat, by omega⟩
    have hsn : sn < 32 := by omega
    clear hR1 hrng
    go_wp2_with fail
    refine (items_any p.over _ hT2.out).mono ?_
    rintro e w3 ⟨v, rfl, hown, hb3⟩
    have hr13 := (row?_below hb3 hl1').trans hr1'
    have hr23 := (row?_below hb3 hl2').trans hr2'
    have hB3 : Hid (Below w.heap.size w w3) := hB2.out.trans (hb3.mono hB2.out.size)
    have hT3 : Hid (Tab w3) := hT2.out.next hb3
    have hlen := hown.len
    have hBe := Lib.hid (fun l k => behind_snoc p (sn : Int) l k)
    have hl64 := items_length p.over
    have hKeep := Lib.hid (behind_keeps p (sn : Int) (items p.over))
    generalize items p.over = l at *
    have hOwn := Lib.hid hown
    have hW23 := hb3.size
    have hW12 : w.heap.size + 1 < w2.heap.size := hl2'
    have hR13 := Lib.hid hr13
    have hR23 := Lib.hid hr23
    clear hown hr1' hr2' hl1' hl2' hB2 hT2 hr13 hr23 hb3
    go_wp2
    clear hlen
    go_loopw [21] (fun i wr => ∃ (k : Nat), k ≤ l.length ∧ i = .int .i64 k ∧ row? wr w.heap.size = some (encP (p.behind sn (l.take k))) ∧ row? wr (w.heap.size + 1) = some (encP Pl.none) ∧ Below w.heap.size w wr ∧ Own wr w2.heap.size v l) (fun i _ => l.length - (intOf i).toNat)
    case atStart => exact ⟨0, Nat.zero_le _, rfl, hR13.out, hR23.out, hB3.out, hOwn.out⟩
    case round =>
      obtain ⟨k, hk, rfl, hq1, hq2, hbr, hownr⟩ := hrel
      have hq1l := row?_lt hq1
      have hq2l := row?_lt hq2
      have hTr : Hid (Tab wr) := hT0.out.next hbr
      have hBr := Lib.hid hbr
      have hQ1 := Lib.hid hq1
      have hQ2 := Lib.hid hq2
      have hOr := Lib.hid hownr
      clear hbr hq1 hq2
      by_cases hlt : k < l.length
      · rcases hownr.open with ⟨_, hnil⟩ | ⟨g, cap, rfl, hgl, hgh, _, _, hcell⟩
        · exfalso; rw [hnil] at hlt; simp at hlt
        obtain ⟨x, hx⟩ := at_lt hlt
        have hcx := hcell k x hx
        have hX := Lib.hid hx
        clear hownr hx hcell
        go_wp2_with fail
        refine (ahead_any _ x sn w.heap.size wr hTr.out hQ1.out (by have := hT0.out.pos; omega)).mono ?_
        rintro e w4 ⟨rfl, hra, hga⟩
        have hRa := Lib.hid hra
        have hGa := Lib.hid hga
        clear hra hga hcx
        go_wp2
        refine ⟨⟨k + 1, by omega, by go_num, ?_, ?_, ?_, ?_⟩, by simp [intOf]; omega⟩
        · rw [take_snoc hX.out, hBe.out]; exact hRa.out
        · exact row?_grown' hGa.out (by omega) hQ2.out
        · exact below_grown hBr.out hGa.out (by have := hBr.out.size; omega) (Nat.le_refl _)
        · exact own_grown hOr.out hGa.out (fun j hj => by have := hOr.out.lt j hj; omega)
      · have hkl : k = l.length := by omega
        subst hkl
        rw [List.take_length] at hQ1
        clear hownr
        obtain ⟨hk1, hk2, hk3, hk4, hk5⟩ := hKeep.out
        have hbg : Hid (((p.behind sn l).begins sn) = { p.behind sn l with live := wth (p.behind sn l).live sn, count := (p.behind sn l).count + 1, ids := upd (p.behind sn l).ids sn ((p.behind sn l).count + 1) }) := by
          show _ = _; unfold Pl.begins; simp
        rw [← hk3] at hc0 hc1
        clear hk1 hk2 hk3 hk4 hk5 hKeep
        generalize p.behind sn l = p2 at *
        have hq1 := hQ1.out
        have hq2 := hQ2.out
        go_wp2_with (first | ((with_reducible refine wpList_store_arr arrPool (vs := encP { p2 with live := wth p2.live sn, ids := upd p2.ids sn (p2.count + 1), count := p2.count + 1 }) ?_ ?_ (encP_size _) (encP_all _) ?_); exact rfl; go_simp; go_simp) | ((with_reducible refine wpList_load_arr arrPool ?_ ?_); go_simp; go_simp) | (go_at_call 51; refine (with_any _ _ _).mono ?_; rintro e w' ⟨rfl, rfl⟩))
        exact bodyPost_ret (res_ctt arrPool (cs := encP { p2 with live := wth p2.live sn, ids := upd p2.ids sn (p2.count + 1), count := p2.count + 1 }) rfl _ _ rfl rfl rfl (by go_simp)) rfl
          ⟨by rw [hbeg.out, hbg.out]; rfl, below_setRow (below_setRow hBr.out (Nat.le_refl _) _) (by omega) _⟩

set_option maxHeartbeats 4000000 in
set_option maxRecDepth 100000 in
theorem end_any (p : Pl) (x : Int) (w : World) :
    Calls Tryd.prog 38 #[.agg (encP p), .int .i64 x] w fun e w' => e = .returned (.tuple #[.agg (encP (p.end x).1), .int .i64 (p.end x).2]) ∧ Below w.heap.size w w' := by
  have hE : Hid (p.end x = if !has p.live x then (p, 3) else ({ p with live := less p.live x, over := wth p.over x }, 0)) := rfl
  cases hx : has p.live x with
  | false =>
    have hx' := Lib.hid hx
    rw [hx] at hE
    clear hx
    go_enter Tryd.func38, Tryd.ntmps38
    go_wp2_with (first | (with_reducible refine wpList_alloc_val zeroPool ?_) | (go_at_call 35; refine (has_any _ _ _).mono ?_; rintro e w' ⟨rfl, rfl⟩; rw [hx'.out]) | ((with_reducible refine wpList_load_arr arrPool ?_ ?_); go_simp; go_simp) | ((with_reducible refine wpList_store_arr arrPool (vs := encP p) ?_ ?_ (encP_size _) (encP_all _) ?_); exact rfl; go_simp; go_simp))
    exact bodyPost_ret (res_ct arrPool (cs := encP p) rfl _ _ rfl rfl (by go_simp)) rfl ⟨by rw [hE.out]; rfl, below2 w _ _⟩
  | true =>
    have hx' := Lib.hid hx
    rw [hx] at hE
    clear hx
    go_enter Tryd.func38, Tryd.ntmps38
    go_wp2_with (first | (with_reducible refine wpList_alloc_val zeroPool ?_) | (go_at_call 35; refine (has_any _ _ _).mono ?_; rintro e w' ⟨rfl, rfl⟩; rw [hx'.out]) | ((with_reducible refine wpList_load_arr arrPool ?_ ?_); go_simp; go_simp))
    obtain ⟨w1, hW⟩ : ∃ w1, w1 = (w.alloc (Obj.cells (encP p) 54)).alloc (Obj.cells (encP Pl.none) 54) := ⟨_, rfl⟩
    rw [← hW]
    have hr1 : row? w1 w.heap.size = some (encP p) := by rw [hW]; go_simp
    have hr2 : row? w1 (w.heap.size + 1) = some (encP Pl.none) := by rw [hW]; go_simp
    have hB1 : Hid (Below w.heap.size w w1) := by rw [hW]; exact below2 w _ _
    clear hW
    refine wp_region_steps (St := Unit) [some 12, some 13, some 14, some 15, some 16, some 17, some 18, some 19, some 20, none, some 21, none] [[], [0], [], [1, 2], [], [4], [], [5, 6, 3], [0, 1, 2, 3, 4, 5], [8, 3, 7, 0, 1, 2, 3, 4, 5], [0, 1, 2, 3, 4, 5, 6, 7, 8, 9], [10, 7, 9, 0, 1, 2, 3, 4, 5, 6, 7, 8, 9]]
      (fun s i => ([.pointer (some ⟨w.heap.size, 65, none⟩), .int .u64 (sv p.live), .int .i64 x, .int .u64 (sv (less p.live x)), .pointer (some ⟨w.heap.size, 66, none⟩), .int .u64 (sv p.over), .int .i64 x, .int .u64 (sv (wth p.over x)), .pointer (some ⟨w.heap.size, 65, none⟩), undef, .pointer (some ⟨w.heap.size, 66, none⟩), undef] : List Value).getD i undef)
      (fun d _ w' => Below w.heap.size w w' ∧ row? w' w.heap.size = some (encP { p with live := if d 9 then less p.live x else p.live, over := if d 11 then wth p.over x else p.over }) ∧ row? w' (w.heap.size + 1) = some (encP Pl.none))
      () rfl (by kernel_rfl) (by decide) (by simp) (by decide) ⟨hB1.out.drew, hr1, hr2⟩ ?_ ?_
    · intro d s w' i hi hd hne hcl hC a hev hot hsz K hK
      obtain ⟨hb, hr, hn⟩ := hC
      match i, hi with
      | 0, _ =>
        have e2 : a.eval (.tmp 2) = .pointer (some ⟨w.heap.size, 0, none⟩) := hot 2 (by decide)
        exact wpOp_run rfl rfl (by simp only [List.getElem_toArray, List.getElem_cons_zero, execOp, e2]; try simp [go_sem]) (hK s w' (fun _ _ => rfl) ⟨hb, hr, hn⟩)
      | 1, _ =>
        have e12 : a.eval (.tmp 12) = .pointer (some ⟨w.heap.size, 65, none⟩) := hev 0 12 (hne 0 (by simp)) rfl
        have h9 := not_done hcl (k := 9) (by decide) hd (by simp)
        have h11 := not_done hcl (k := 11) (by decide) hd (by simp)
        have hr' := hr
        rw [h9, h11] at hr'
        exact wpOp_run rfl rfl (by simp only [List.getElem_toArray, List.getElem_cons_zero, List.getElem_cons_succ, execOp, e12]; simp [go_sem, hr']) (hK s w' (fun _ _ => rfl) ⟨hb, hr, hn⟩)
      | 2, _ =>
        have e1 : a.eval (.tmp 1) = .int .i64 x := hot 1 (by decide)
        exact wpOp_run rfl rfl (by simp only [List.getElem_toArray, List.getElem_cons_zero, List.getElem_cons_succ, execOp, e1]; try simp [go_sem]) (hK s w' (fun _ _ => rfl) ⟨hb, hr, hn⟩)
      | 3, _ =>
        have e13 : a.eval (.tmp 13) = .int .u64 (sv p.live) := hev 1 13 (hne 1 (by simp)) rfl
        have e14 : a.eval (.tmp 14) = .int .i64 x := hev 2 14 (hne 2 (by simp)) rfl
        refine wpOp_call rfl ⟨_, Tryd.func66, by kernel_rfl, by kernel_rfl⟩ ?_
        simp only [List.map_toArray, List.map_cons, List.map_nil, e13, e14]
        refine (less_any p.live x w').mono ?_
        rintro e w2 ⟨rfl, rfl⟩
        exact ⟨_, rfl, hK s w' (fun _ _ => rfl) ⟨hb, hr, hn⟩⟩
      | 4, _ =>
        have e2 : a.eval (.tmp 2) = .pointer (some ⟨w.heap.size, 0, none⟩) := hot 2 (by decide)
        exact wpOp_run rfl rfl (by simp only [List.getElem_toArray, List.getElem_cons_zero, List.getElem_cons_succ, execOp, e2]; try simp [go_sem]) (hK s w' (fun _ _ => rfl) ⟨hb, hr, hn⟩)
      | 5, _ =>
        have e16 : a.eval (.tmp 16) = .pointer (some ⟨w.heap.size, 66, none⟩) := hev 4 16 (hne 4 (by simp)) rfl
        have h9 := not_done hcl (k := 9) (by decide) hd (by simp)
        have h11 := not_done hcl (k := 11) (by decide) hd (by simp)
        have hr' := hr
        rw [h9, h11] at hr'
        exact wpOp_run rfl rfl (by simp only [List.getElem_toArray, List.getElem_cons_zero, List.getElem_cons_succ, execOp, e16]; simp [go_sem, hr']) (hK s w' (fun _ _ => rfl) ⟨hb, hr, hn⟩)
      | 6, _ =>
        have e1 : a.eval (.tmp 1) = .int .i64 x := hot 1 (by decide)
        exact wpOp_run rfl rfl (by simp only [List.getElem_toArray, List.getElem_cons_zero, List.getElem_cons_succ, execOp, e1]; try simp [go_sem]) (hK s w' (fun _ _ => rfl) ⟨hb, hr, hn⟩)
      | 7, _ =>
        have e17 : a.eval (.tmp 17) = .int .u64 (sv p.over) := hev 5 17 (hne 5 (by simp)) rfl
        have e18 : a.eval (.tmp 18) = .int .i64 x := hev 6 18 (hne 6 (by simp)) rfl
        refine wpOp_call rfl ⟨_, Tryd.func51, by kernel_rfl, by kernel_rfl⟩ ?_
        simp only [List.map_toArray, List.map_cons, List.map_nil, e17, e18]
        refine (with_any p.over x w').mono ?_
        rintro e w2 ⟨rfl, rfl⟩
        exact ⟨_, rfl, hK s w' (fun _ _ => rfl) ⟨hb, hr, hn⟩⟩
      | 8, _ =>
        have e2 : a.eval (.tmp 2) = .pointer (some ⟨w.heap.size, 0, none⟩) := hot 2 (by decide)
        exact wpOp_run rfl rfl (by simp only [List.getElem_toArray, List.getElem_cons_zero, List.getElem_cons_succ, execOp, e2]; try simp [go_sem]) (hK s w' (fun _ _ => rfl) ⟨hb, hr, hn⟩)
      | 9, _ =>
        have e15 : a.eval (.tmp 15) = .int .u64 (sv (less p.live x)) := hev 3 15 (hne 3 (by simp)) rfl
        have e20 : a.eval (.tmp 20) = .pointer (some ⟨w.heap.size, 65, none⟩) := hev 8 20 (hne 8 (by simp)) rfl
        exact wpOp_store_one oneSet rfl e20 e15 hr (by rw [encP_size]; decide) rfl rfl (hK s _ (fun _ _ => rfl) ⟨below_setRow hb (Nat.le_refl _) _, by rw [encP_set_live]; exact row?_setRow_same _ _ _ hr, by rw [row?_setRow_other _ _ _ (by omega)]; exact hn⟩)
      | 10, _ =>
        have e2 : a.eval (.tmp 2) = .pointer (some ⟨w.heap.size, 0, none⟩) := hot 2 (by decide)
        exact wpOp_run rfl rfl (by simp only [List.getElem_toArray, List.getElem_cons_zero, List.getElem_cons_succ, execOp, e2]; try simp [go_sem]) (hK s w' (fun _ _ => rfl) ⟨hb, hr, hn⟩)
      | 11, _ =>
        have e19 : a.eval (.tmp 19) = .int .u64 (sv (wth p.over x)) := hev 7 19 (hne 7 (by simp)) rfl
        have e21 : a.eval (.tmp 21) = .pointer (some ⟨w.heap.size, 66, none⟩) := hev 10 21 (hne 10 (by simp)) rfl
        exact wpOp_store_one oneSet rfl e21 e19 hr (by rw [encP_size]; decide) rfl rfl (hK s _ (fun _ _ => rfl) ⟨below_setRow hb (Nat.le_refl _) _, by rw [encP_set_over]; exact row?_setRow_same _ _ _ hr, by rw [row?_setRow_other _ _ _ (by omega)]; exact hn⟩)
      | n + 12, hi => exact absurd hi (by simp)
    · rintro d _ w2 hall ⟨hb, hr, hn⟩
      rw [hall 9 (by decide), hall 11 (by decide)] at hr
      simp only [if_true] at hr
      have hB2 := Lib.hid hb
      have hg1 := row?_lt hr
      have hg2 := row?_lt hn
      clear hb hB1 hr1 hr2 hall
      simp only [putL, List.getD_cons_zero, List.getD_cons_succ]
      go_simp
      go_wp2_with (first | ((with_reducible refine wpList_store_arr arrPool (vs := encP { p with live := less p.live x, over := wth p.over x }) ?_ ?_ (encP_size _) (encP_all _) ?_); exact rfl; go_simp; go_simp) | ((with_reducible refine wpList_load_arr arrPool ?_ ?_); go_simp; go_simp))
      exact bodyPost_ret (res_ct arrPool (cs := encP { p with live := less p.live x, over := wth p.over x }) rfl _ _ rfl rfl (by go_simp)) rfl ⟨by rw [hE.out]; rfl, below_setRow hB2.out (by omega) _⟩

set_option maxHeartbeats 4000000 in
set_option maxRecDepth 100000 in
theorem edge_any (p : Pl) (x y : Int) (w : World) (hT : Tab w) :
    Calls Tryd.prog 39 #[.agg (encP p), .int .i64 x, .int .i64 y] w fun e w' => e = .returned (.tuple #[.agg (encP (p.edge x y).1), .int .i64 (p.edge x y).2]) ∧ Below w.heap.size w w' := by
  have hT0 := Lib.hid hT
  clear hT
  have hE : Hid (p.edge x y = if x = y then (p, 2) else if !has p.taken x || !has p.taken y then (p, 3) else if (insert p.m p.o x y).2.2 then (p.ahead x y, 0) else (p, 5)) := rfl
  by_cases hxy : x = y
  · rw [if_pos hxy] at hE
    have hxy' : (x == y) = true := by simp [hxy]
    clear hxy
    go_enter Tryd.func39, Tryd.ntmps39
    go_wp2_with (first | (with_reducible refine wpList_alloc_val zeroPool ?_) | ((with_reducible refine wpList_load_arr arrPool ?_ ?_); go_simp; go_simp) | ((with_reducible refine wpList_store_arr arrPool (vs := encP p) ?_ ?_ (encP_size _) (encP_all _) ?_); exact rfl; go_simp; go_simp))
    exact bodyPost_ret (res_ct arrPool (cs := encP p) rfl _ _ rfl rfl (by go_simp)) rfl ⟨by rw [hE.out]; rfl, below2 w _ _⟩
  rw [if_neg hxy] at hE
  have hxy' : (x == y) = false := by simp [hxy]
  clear hxy
  go_enter Tryd.func39, Tryd.ntmps39
  go_wp2_with (first | (with_reducible refine wpList_alloc_val zeroPool ?_) | ((with_reducible refine wpList_load_arr arrPool ?_ ?_); go_simp; go_simp))
  obtain ⟨w1, hW⟩ : ∃ w1, w1 = (w.alloc (Obj.cells (encP p) 54)).alloc (Obj.cells (encP Pl.none) 54) := ⟨_, rfl⟩
  rw [← hW]
  have hr1 : row? w1 w.heap.size = some (encP p) := by rw [hW]; go_simp
  have hr2 : row? w1 (w.heap.size + 1) = some (encP Pl.none) := by rw [hW]; go_simp
  have hB1 : Hid (Below w.heap.size w w1) := by rw [hW]; exact below2 w _ _
  clear hW
  refine (taken_any p w1).mono ?_
  rintro e w2 ⟨rfl, hb2⟩
  have hr12 := (row?_below hb2 (row?_lt hr1)).trans hr1
  have hr22 := (row?_below hb2 (row?_lt hr2)).trans hr2
  have hB2 : Hid (Below w.heap.size w w2) := hB1.out.trans (hb2.mono hB1.out.size)
  have hg12 := row?_lt hr12
  have hg22 := row?_lt hr22
  clear hr1 hr2 hB1 hb2
  cases hx : has p.taken x with
  | false =>
    have hx' := Lib.hid hx
    rw [hx] at hE
    clear hx
    go_wp2_with (first | (go_at_call 35; refine (has_any _ _ _).mono ?_; rintro e w' ⟨rfl, rfl⟩; rw [hx'.out]) | ((with_reducible refine wpList_load_arr arrPool ?_ ?_); go_simp; go_simp) | ((with_reducible refine wpList_store_arr arrPool (vs := encP p) ?_ ?_ (encP_size _) (encP_all _) ?_); exact rfl; go_simp; go_simp))
    exact bodyPost_ret (res_ct arrPool (cs := encP p) rfl _ _ rfl rfl (by go_simp)) rfl ⟨by rw [hE.out]; rfl, below_setRow hB2.out (by omega) _⟩
  | true =>
    have hx' := Lib.hid hx
    rw [hx] at hE
    clear hx
    go_wp2_with (first | (go_at_call 35; refine (has_any _ _ _).mono ?_; rintro e w' ⟨rfl, rfl⟩; rw [hx'.out]) | ((with_reducible refine wpList_load_arr_g arrPool ?_ ?_ ?_); rfl; go_simp; go_simp) | ((with_reducible refine wpList_load_arr arrPool ?_ ?_); go_simp; go_simp))
    refine (taken_any p w2).mono ?_
    rintro e w3 ⟨rfl, hb3⟩
    have hr13 := (row?_below hb3 hg12).trans hr12
    have hr23 := (row?_below hb3 hg22).trans hr22
    have hB3 : Hid (Below w.heap.size w w3) := hB2.out.trans (hb3.mono hB2.out.size)
    have hg13 := row?_lt hr13
    have hg23 := row?_lt hr23
    clear hr12 hr22 hB2 hb3 hg12 hg22
    cases hy : has p.taken y with
    | false =>
      have hy' := Lib.hid hy
      rw [hy] at hE
      clear hy
      go_wp2_with (first | (go_at_call 35; refine (has_any _ _ _).mono ?_; rintro e w' ⟨rfl, rfl⟩; rw [hy'.out]) | ((with_reducible refine wpList_load_arr arrPool ?_ ?_); go_simp; go_simp) | ((with_reducible refine wpList_store_arr arrPool (vs := encP p) ?_ ?_ (encP_size _) (encP_all _) ?_); exact rfl; go_simp; go_simp))
      exact bodyPost_ret (res_ct arrPool (cs := encP p) rfl _ _ rfl rfl (by go_simp)) rfl ⟨by rw [hE.out]; rfl, below_setRow hB3.out (by omega) _⟩
    | true =>
      have hy' := Lib.hid hy
      rw [hy] at hE
      clear hy
      go_wp2_with (first | (go_at_call 35; refine (has_any _ _ _).mono ?_; rintro e w' ⟨rfl, rfl⟩; rw [hy'.out]) | ((with_reducible refine wpList_load_arr arrPool ?_ ?_); go_simp; go_simp) | (with_reducible refine wpList_alloc_val zeroPool ?_) | ((with_reducible refine wpList_store_arr arrPool (vs := encP p) ?_ ?_ (encP_size _) (encP_all _) ?_); exact rfl; go_simp; go_simp))
      have hT3 : Hid (Tab (w3.alloc (Obj.cells (encP p) 54))) := (hT0.out.next hB3.out).alloc _
      refine (ahead_any p x y w3.heap.size _ hT3.out (by go_simp) (by have := hT0.out.pos; omega)).mono ?_
      rintro e w4 ⟨rfl, hra, hga⟩
      have hr14 : row? w4 w.heap.size = some (encP p) := row?_grown' hga (by omega) (by go_simp)
      have hr24 : row? w4 (w.heap.size + 1) = some (encP Pl.none) := row?_grown' hga (by omega) (by go_simp)
      have hB4 : Hid (Below w.heap.size w w4) := below_grown (hB3.out.alloc (by omega) _) hga (by simp; omega) (by omega)
      have hg14 := row?_lt hr14
      have hg24 := row?_lt hr24
      have hg34 := row?_lt hra
      clear hr13 hr23 hga hB3
      simp only [Bool.not_true, Bool.or_self, Bool.false_eq_true, if_false] at hE
      generalize (insert p.m p.o x y).2.2 = yes at *
      have hg3 : w.heap.size + 1 < w3.heap.size := hg23
      clear hg13 hg23
      generalize w3.heap.size = g3 at *
      cases yes with
      | true =>
        go_wp2_with (first | ((with_reducible refine wpList_load_arr arrPool ?_ ?_); go_simp; go_simp) | ((with_reducible refine wpList_store_arr arrPool (vs := encP (p.ahead x y)) ?_ ?_ (encP_size _) (encP_all _) ?_); exact rfl; go_simp; go_simp))
        exact bodyPost_ret (res_ct arrPool (cs := encP (p.ahead x y)) rfl _ _ rfl rfl (by go_simp)) rfl ⟨by rw [hE.out]; rfl, below_setRow hB4.out (by omega) _⟩
      | false =>
        go_wp2_with (first | ((with_reducible refine wpList_load_arr arrPool ?_ ?_); go_simp; go_simp) | ((with_reducible refine wpList_store_arr arrPool (vs := encP p) ?_ ?_ (encP_size _) (encP_all _) ?_); exact rfl; go_simp; go_simp))
        exact bodyPost_ret (res_ct arrPool (cs := encP p) rfl _ _ rfl rfl (by go_simp)) rfl ⟨by rw [hE.out]; rfl, below_setRow hB4.out (by omega) _⟩
end Go.Proofs.YteclmkmemecckaaDoor
