/- The walk of PoolNumbers: each that begins has the next number, and the least slot that is free. -/
import Derived.Test.YteclmkmemecckaaDoorAct
import Derived.Test.YteclmkmemecckaaDoorPact
namespace Go.Proofs.YteclmkmemecckaaDoor
open Go.RowKit Wb
set_option maxHeartbeats 8000000 in
set_option maxRecDepth 100000 in
theorem poolNumbers_any (s : Int) (A : Option Addr) (n cap : Nat) (l : List (Int × Int × Int)) (w : World) (hT : Tab w) (hs : 0 ≤ s ∧ s < 256) (hn : l.length = n) (hm : n ≤ maxLen) (hE : Acts w A l) :
    Calls Tryd.prog 10 #[.int .u8 s, .slice A n cap] w fun e w' => e = .returned (.bool true) ∧ Below w.heap.size w w' := by
  have hT0 := Lib.hid hT
  have hE0 := Lib.hid hE
  have hN := Lib.hid hn
  have hS := Lib.hid hs
  clear hT hE hn hs
  by_cases hbig : (120 : Int) < n
  · go_enter Tryd.func10, Tryd.ntmps10
    go_wp2_with (first | (go_at_call 25; refine (alive5_any _ hT0.out).mono ?_; rintro e w1 ⟨rfl, hb1⟩))
    go_ret
    exact ⟨rfl, hb1⟩
  have hbig' : (n : Int) ≤ 120 := by omega
  clear hbig
  obtain ⟨z, hz, hz1, hz2⟩ : ∃ z : Int, wrap64 (1 + (wrap64 s).tmod 32) = z ∧ 1 ≤ z ∧ z ≤ 32 := by
    obtain ⟨h0, h1⟩ := hS.out
    obtain ⟨k, rfl⟩ : ∃ k : Nat, s = k := ⟨s.toNat, by omega⟩
    have e1 : wrap64 (k : Int) = k := by unfold wrap64; omega
    have e2 : (k : Int).tmod 32 = ((k % 32 : Nat) : Int) := by rw [Int.tmod_eq_emod_of_nonneg (by omega)]; omega
    refine ⟨_, rfl, ?_⟩
    rw [e1, e2]
    have e3 : wrap64 (1 + ((k % 32 : Nat) : Int)) = 1 + ((k % 32 : Nat) : Int) := by unfold wrap64; omega
    rw [e3]
    omega
  have hZ := Lib.hid hz
  have hZr : Hid (1 ≤ z ∧ z ≤ 32) := ⟨hz1, hz2⟩
  clear hz hz1 hz2
  obtain ⟨p0, hp0⟩ : ∃ p, p = Pl.new z := ⟨_, rfl⟩
  have hP0 : Hid (p0.size = z ∧ p0.count = 0) := by rw [hp0]; exact ⟨rfl, rfl⟩
  have hp0H := Lib.hid hp0
  clear hp0
  go_enter Tryd.func10, Tryd.ntmps10
  go_wp2_with (first | (go_at_call 25; refine (alive5_any _ hT0.out).mono ?_; rintro e w1 ⟨rfl, hb1⟩) | (go_at_call 26; rw [hZ.out]; refine (poolnew_any z w1).mono ?_; rintro e w2 ⟨rfl, hb2⟩; rw [if_pos hZr.out, decide_eq_true hZr.out, ← hp0H.out]) | (with_reducible refine wpList_alloc_val zeroPool ?_) | ((with_reducible refine wpList_store_arr arrPool (vs := encP p0) ?_ ?_ (encP_size _) (encP_all _) ?_); exact rfl; go_simp; go_simp))
  obtain ⟨w3, hW⟩ : ∃ w3, w3 = w2.alloc (Obj.cells (encP p0) 54) := ⟨_, rfl⟩
  obtain ⟨g5, hG5⟩ : ∃ g, g = w2.heap.size := ⟨_, rfl⟩
  rw [← hW, ← hG5]
  have hA3 : AL w w3 g5 p0 := by
    rw [hW, hG5]
    exact ⟨by go_simp, ((hb1.trans (hb2.mono hb1.size)).alloc (Nat.le_trans hb1.size hb2.size) _), Nat.le_trans hb1.size hb2.size⟩
  have hA := Lib.hid hA3
  clear hW hG5 hA3 hb1 hb2 hp0H
  go_loopw [7, 31] (fun v i wr => ∃ (k : Nat), k ≤ n ∧ i = .int .i64 k ∧ v = .int .i64 (runP p0 (l.take k)).count ∧ AL w wr g5 (runP p0 (l.take k))) (fun _ i _ => n - (intOf i).toNat)
  case atStart => exact ⟨0, Nat.zero_le _, rfl, by rw [List.take_zero]; show _ = Value.int .i64 p0.count; rw [hP0.out.2], hA.out⟩
  case round =>
    obtain ⟨k, hk, rfl, rfl, hq⟩ := hrel
    have hAr := Lib.hid hq
    have hTr : Hid (Tab wr) := hT0.out.next hq.below
    have hEr : Hid (Acts wr A l) := hE0.out.below hq.below
    have hq5 := hq.row
    have h5lt := row?_lt hq.row
    clear hq
    have hrc := Lib.hid (runP_count p0 (l.take k) hP0.out.2)
    by_cases hlt : k < n
    · obtain ⟨⟨d, a1, b1⟩, hx⟩ := at_lt (l := l) (k := k) (by rw [hN.out]; exact hlt)
      obtain ⟨hd, ad, rfl, hadb, hca, hcb, hcc⟩ := hEr.out k d a1 b1 hx
      have hD := Lib.hid hd
      have hst : Hid (runP p0 (l.take (k + 1)) = (runP p0 (l.take k)).act d a1 b1) := by show _ = _; rw [take_snoc hx, runP_snoc]
      have hcr : Hid (0 ≤ (runP p0 (l.take k)).count ∧ (runP p0 (l.take k)).count ≤ 120) := by
        have := hrc.out
        rw [List.length_take] at this
        exact ⟨this.2.1, by omega⟩
      have hsz : Hid ((runP p0 (l.take k)).size = z) := hrc.out.1.trans hP0.out.1
      clear hrc hd hx
      generalize (runP p0 (l.take k)) = p at *
      go_wp2_with (first | ((with_reducible refine wpList_load_arr arrPool ?_ ?_); go_simp; go_simp))
      rw [show Tryd.zeroCells58 = encP Pl.none by kernel_rfl]
      refine (does_any p d a1 b1 hD.out.1 hD.out.2 hcr.out.1 (by have := hcr.out.2; omega) _ (hTr.out.alloc _)).mono ?_
      rintro e w4 ⟨c, rfl, hb4⟩
      have hA4 : Hid (AL w w4 g5 p) := (hAr.out.next (below1 wr _)).next hb4
      have hT4 : Hid (Tab w4) := hT0.out.next hA4.out.below
      have hact := Lib.hid (act_keeps p d a1 b1)
      clear hca hcb hcc hb4 hAr hTr hEr hD h5lt hq5 hadb
      generalize p.act d a1 b1 = q at *
      have k4 : ∀ o, row? (w4.alloc o) g5 = some (encP p) := fun o => (row?_below (below1 w4 o) (row?_lt hA4.out.row)).trans hA4.out.row
      have h54 : g5 < w4.heap.size := row?_lt hA4.out.row
      have hcc : q.count = p.count ∨ q.count = p.count + 1 := by rcases hact.out.2 with h | h; exact .inl h; exact .inr h.1
      rcases hcc with hcc | hcc
      · have hEq : (q.count == p.count) = true := by rw [hcc]; simp
        go_wp2_with (first | (with_reducible refine wpList_alloc_val zeroPool ?_) | (with_reducible refine wpList_alloc_val zeroRPool ?_) | ((with_reducible refine wpList_store_arr arrPool (vs := encP q) ?_ ?_ (encP_size _) (encP_all _) ?_); exact rfl; go_simp; go_simp) | ((with_reducible refine wpList_store_arr arrRPool (vs := encP Pl.none) ?_ ?_ (encP_size _) (encP_all _) ?_); exact rfl; go_simp; go_simp) | ((with_reducible refine wpList_load_arr arrPool ?_ ?_); go_simp; go_simp))
        refine ⟨⟨k + 1, by omega, by go_num, by rw [hst.out, hcc], ?_⟩, by simp [intOf]; omega⟩
        rw [hst.out]
        exact (hA4.out.put.next (below1 _ _)).next (below1 _ _)
      · have hEq : (p.count + 1 == p.count) = false := by simp; omega
        have hwr : wrap64 (p.count + 1) = p.count + 1 := by have := hcr.out; unfold wrap64; omega
        go_wp2_with (first | (with_reducible refine wpList_alloc_val zeroPool ?_) | (with_reducible refine wpList_alloc_val zeroRPool ?_) | ((with_reducible refine wpList_store_arr arrPool (vs := encP q) ?_ ?_ (encP_size _) (encP_all _) ?_); exact rfl; go_simp; go_simp) | ((with_reducible refine wpList_store_arr arrRPool (vs := encP Pl.none) ?_ ?_ (encP_size _) (encP_all _) ?_); exact rfl; go_simp; go_simp) | ((with_reducible refine wpList_load_arr arrPool ?_ ?_); go_simp; go_simp))
        obtain ⟨w5, hW⟩ : ∃ w5, w5 = (w4.alloc (Obj.cells (encP q) 54)).alloc (Obj.cells (encP Pl.none) 58) := ⟨_, rfl⟩
        rw [← hW]
        obtain ⟨g10, hG10⟩ : ∃ g, g = w4.heap.size := ⟨_, rfl⟩
        have h10 : row? w5 g10 = some (encP q) := by rw [hW, hG10]; go_simp
        have hA5 : Hid (AL w w5 g5 p) := by rw [hW]; exact (hA4.out.next (below1 _ _)).next (below1 _ _)
        have k5 := hA5.out.row
        have hT5 : Hid (Tab w5.drew) := (hT0.out.next hA5.out.below).drew
        rw [← hG10] at h54 ⊢
        clear hW hG10 k4 hA4 hT4
        have hsz0 : 0 ≤ p.size := by have := hsz.out; have := hZr.out; omega
        have hsz1 : ¬ p.size < 0 := by omega
        have hmin : min p.size.toNat 64 = p.size.toNat := by have := hsz.out; have := hZr.out; omega
        have hsv : IntKind.u64.wrap (IntKind.u64.wrap (2 ^ p.size.toNat) - 1) = sv p.slots := by
          have h := slots_val p
          rwa [show min (max p.size 0) 32 = p.size by have := hsz.out; have := hZr.out; omega] at h
        refine wp_region_steps (St := Unit) [some 50, some 51, some 52, some 53, some 54, some 55, some 56, some 57, some 58, some 59, some 60, some 13] [[], [0], [1], [2], [], [4], [], [6], [5, 7], [3, 8], [9], [10, 10, 0, 1, 2, 3, 4, 5, 6, 7, 8, 9, 10]]
          (fun s i => ([.pointer (some ⟨g5, 0, none⟩), .int .i64 p.size, .int .u64 (IntKind.u64.wrap (2 ^ p.size.toNat)), .int .u64 (sv p.slots), .pointer (some ⟨g5, 65, none⟩), .int .u64 (sv p.live), .pointer (some ⟨g5, 66, none⟩), .int .u64 (sv p.over), .int .u64 (sv p.taken), .int .u64 (sv (p.slots &&& ~~~p.taken)), .int .i64 p.slot, .int .i64 p.slot] : List Value).getD i undef)
          (fun _ _ w' => w' = w5.drew)
          () rfl (by kernel_rfl) (by decide) (by simp) (by decide) rfl ?_ ?_
        · intro d s w' i hi hd hne hcl hC a hev hot hsz K hK
          subst hC
          match i, hi with
          | 0, _ =>
            have e5 : a.eval (.tmp 5) = .pointer (some ⟨g5, 0, none⟩) := hot 5 (by decide)
            exact wpOp_run rfl rfl (by simp only [List.getElem_toArray, List.getElem_cons_zero, execOp, e5]; try simp [go_sem]) (hK s _ (fun _ _ => rfl) rfl)
          | 1, _ =>
            have e50 : a.eval (.tmp 50) = .pointer (some ⟨g5, 0, none⟩) := hev 0 50 (hne 0 (by simp)) rfl
            exact wpOp_run rfl rfl (by simp only [List.getElem_toArray, List.getElem_cons_zero, List.getElem_cons_succ, execOp, e50]; try simp [k5, go_sem]) (hK s _ (fun _ _ => rfl) rfl)
          | 2, _ =>
            have e51 : a.eval (.tmp 51) = .int .i64 p.size := hev 1 51 (hne 1 (by simp)) rfl
            exact wpOp_run rfl rfl (by simp only [List.getElem_toArray, List.getElem_cons_zero, List.getElem_cons_succ, execOp, e51]; try simp [go_sem]) (hK s _ (fun _ _ => rfl) rfl)
          | 3, _ =>
            have e52 : a.eval (.tmp 52) = .int .u64 (IntKind.u64.wrap (2 ^ p.size.toNat)) := hev 2 52 (hne 2 (by simp)) rfl
            exact wpOp_run rfl rfl (by simp only [List.getElem_toArray, List.getElem_cons_zero, List.getElem_cons_succ, execOp, e52]; try simp [hsv, go_sem]) (hK s _ (fun _ _ => rfl) rfl)
          | 4, _ =>
            have e5 : a.eval (.tmp 5) = .pointer (some ⟨g5, 0, none⟩) := hot 5 (by decide)
            exact wpOp_run rfl rfl (by simp only [List.getElem_toArray, List.getElem_cons_zero, List.getElem_cons_succ, execOp, e5]; try simp [go_sem]) (hK s _ (fun _ _ => rfl) rfl)
          | 5, _ =>
            have e54 : a.eval (.tmp 54) = .pointer (some ⟨g5, 65, none⟩) := hev 4 54 (hne 4 (by simp)) rfl
            exact wpOp_run rfl rfl (by simp only [List.getElem_toArray, List.getElem_cons_zero, List.getElem_cons_succ, execOp, e54]; try simp [k5, go_sem]) (hK s _ (fun _ _ => rfl) rfl)
          | 6, _ =>
            have e5 : a.eval (.tmp 5) = .pointer (some ⟨g5, 0, none⟩) := hot 5 (by decide)
            exact wpOp_run rfl rfl (by simp only [List.getElem_toArray, List.getElem_cons_zero, List.getElem_cons_succ, execOp, e5]; try simp [go_sem]) (hK s _ (fun _ _ => rfl) rfl)
          | 7, _ =>
            have e56 : a.eval (.tmp 56) = .pointer (some ⟨g5, 66, none⟩) := hev 6 56 (hne 6 (by simp)) rfl
            exact wpOp_run rfl rfl (by simp only [List.getElem_toArray, List.getElem_cons_zero, List.getElem_cons_succ, execOp, e56]; try simp [k5, go_sem]) (hK s _ (fun _ _ => rfl) rfl)
          | 8, _ =>
            have e55 : a.eval (.tmp 55) = .int .u64 (sv p.live) := hev 5 55 (hne 5 (by simp)) rfl
            have e57 : a.eval (.tmp 57) = .int .u64 (sv p.over) := hev 7 57 (hne 7 (by simp)) rfl
            exact wpOp_run rfl rfl (by simp only [List.getElem_toArray, List.getElem_cons_zero, List.getElem_cons_succ, execOp, e55, e57]; simp [Pl.taken, go_sem]) (hK s _ (fun _ _ => rfl) rfl)
          | 9, _ =>
            have e53 : a.eval (.tmp 53) = .int .u64 (sv p.slots) := hev 3 53 (hne 3 (by simp)) rfl
            have e58 : a.eval (.tmp 58) = .int .u64 (sv p.taken) := hev 8 58 (hne 8 (by simp)) rfl
            exact wpOp_run rfl rfl (by simp only [List.getElem_toArray, List.getElem_cons_zero, List.getElem_cons_succ, execOp, e53, e58]; try simp [go_sem]) (hK s _ (fun _ _ => rfl) rfl)
          | 10, _ =>
            have e59 : a.eval (.tmp 59) = .int .u64 (sv (p.slots &&& ~~~p.taken)) := hev 9 59 (hne 9 (by simp)) rfl
            refine wpOp_call rfl ⟨_, Tryd.func34, by kernel_rfl, by kernel_rfl⟩ ?_
            simp only [List.map_toArray, List.map_cons, List.map_nil, e59]
            refine (first_any _ _ hT5.out).mono ?_
            rintro e w2 ⟨rfl, rfl⟩
            exact ⟨_, rfl, hK s _ (fun _ _ => rfl) rfl⟩
          | 11, _ =>
            have e60 : a.eval (.tmp 60) = .int .i64 p.slot := hev 10 60 (hne 10 (by simp)) rfl
            exact wpOp_run rfl rfl (by simp only [List.getElem_toArray, List.getElem_cons_zero, List.getElem_cons_succ, execOp, e60]; try simp [go_sem]) (hK s _ (fun _ _ => rfl) rfl)
          | n + 12, hi => exact absurd hi (by simp)
        · rintro d' _ w6 hall rfl
          obtain ⟨hk1, hk2, hk3, hk4, hk5⟩ : q.count = p.count + 1 ∧ q.ids p.slot.toNat = p.count + 1 ∧ has q.live p.slot = true ∧ 0 ≤ p.slot ∧ p.slot < 32 := by
            rcases hact.out.2 with h | h
            · exfalso; omega
            · exact h
          have hH := Lib.hid hk3
          have hHd := Lib.hid hst
          generalize p.slot = so at *
          obtain ⟨sl, rfl⟩ : ∃ sl : Nat, so = sl := ⟨so.toNat, by omega⟩
          have hsl : sl < 32 := by omega
          rw [Int.toNat_natCast] at hk2
          have hid : w5.cell? ⟨g10, 67 + sl, none⟩ = some (.int .i64 (p.count + 1)) := by rw [pool_ids h10 sl hsl, hk2]
          clear hk3 hk4 hk5 hst hall hsv hmin hsz0 hsz1
          simp only [putL, List.getD_cons_zero, List.getD_cons_succ]
          go_simp
          go_wp2_with (first | (go_at_call 35; refine (has_any _ _ _).mono ?_; rintro e w7 ⟨rfl, rfl⟩; rw [hH.out]) | ((with_reducible refine wpList_load_arr arrPool ?_ ?_); go_simp; go_simp) | ((with_reducible refine wpList_store_arr arrPool (vs := encP q) ?_ ?_ (encP_size _) (encP_all _) ?_); exact rfl; go_simp; go_simp))
          refine ⟨⟨k + 1, by omega, by go_num, by rw [hHd.out, hcc], ?_⟩, by simp [intOf]; omega⟩
          rw [hHd.out]
          exact hA5.out.put.next ((Below.refl _ _).drew)
    · have hkn : k = n := by omega
      have htk : l.take k = l := by rw [hkn, ← hN.out, List.take_length]
      subst hkn
      rw [htk] at hAr ⊢
      generalize (runP p0 l) = p at *
      have hb := hAr.out.below
      clear hEr hTr hrc hq5
      have hq5 := hAr.out.row
      have he : (p.count == p.count) = true := by simp
      clear hAr
      go_wp2
      go_ret
      exact ⟨by first | rfl | simp, hb⟩
end Go.Proofs.YteclmkmemecckaaDoor
