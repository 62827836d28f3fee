/- The walks of the reference of graphs. -/
import Derived.Test.YteclmkmemecckaaDoorWref1
import Derived.Test.YteclmkmemecckaaDoorWsorted
namespace Wb
theorem insTo_succ (m : M) (b : Int) (a : Nat) : insTo m b (a + 1) = if has (m a) b then wth (insTo m b a) (a : Int) else insTo m b a := by unfold insTo; rw [List.range_succ, List.foldl_append]; rfl
theorem has_insCol (m : M) (b : Int) (n : Nat) (hn : n ≤ 64) (i : Int) : has (insTo m b n) i = (decide (0 ≤ i ∧ i < n) && has (m i.toNat) b) := by
  induction n with
  | zero =>
    have : insTo m b 0 = 0#64 := rfl
    rw [this, has_zero]
    have : ¬ (0 ≤ i ∧ i < ((0 : Nat) : Int)) := by omega
    simp only [this, decide_false, Bool.false_and]
  | succ n ih =>
    rw [insTo_succ]
    by_cases e : i = (n : Int)
    · subst e
      have h1 : ¬ (0 ≤ (n : Int) ∧ (n : Int) < n) := by omega
      have h2 : 0 ≤ (n : Int) ∧ (n : Int) < ((n + 1 : Nat) : Int) := by omega
      have h3 : 0 ≤ (n : Int) ∧ (n : Int) < 64 := by omega
      have ih' := ih (by omega)
      simp only [h1, decide_false, Bool.false_and] at ih'
      simp only [h2, decide_true, Bool.true_and, Int.toNat_natCast, and_self]
      cases hb : has (m n) b with
      | true => rw [if_pos rfl, has_wth, ih']; simp [h3]
      | false => rw [if_neg (by simp)]; exact ih'
    · have h2 : (0 ≤ i ∧ i < ((n + 1 : Nat) : Int)) ↔ (0 ≤ i ∧ i < (n : Int)) := by omega
      rw [decide_eq_decide.2 h2, ← ih (by omega)]
      split
      · rw [has_wth]; simp [e]
      · rfl
def turned (m : M) : M := fun b => insTo m (b : Int) 32
/-- The first q columns with the row a, the others without. -/
def turnTo (m : M) (a q : Nat) : M := fun b => if b < q then insTo m (b : Int) (a + 1) else insTo m (b : Int) a
theorem turnTo_step (m : M) (a q : Nat) : upd (turnTo m a q) q (insTo m (q : Int) (a + 1)) = turnTo m a (q + 1) := by
  funext b
  unfold upd turnTo
  by_cases h : b = q
  · subst h; simp
  · have : b < q + 1 ↔ b < q := by omega
    simp [h, this]
theorem turnTo_at (m : M) (a q : Nat) : turnTo m a q q = insTo m (q : Int) a := by unfold turnTo; simp
end Wb
namespace Go.Proofs.YteclmkmemecckaaDoor
open Go.RowKit Wb
theorem turnTo_next (m : M) (a : Nat) : encM (turnTo m a 32) = encM (turnTo m (a + 1) 0) := encA_ext _ _ _ _ fun b hb => by simp [turnTo, hb]
theorem turnTo_zero (m : M) : turnTo m 0 0 = Z := by funext b; simp [turnTo, insTo]
theorem turnTo_all (m : M) : encM (turnTo m 32 0) = encM (turned m) := encA_ext _ _ _ _ fun b _ => by simp [turnTo, turned]
theorem zeroRMat : (Tryd.prog.info? 44).map (·.zero) = some (some (.agg (encM fun _ => 0#64))) := by rw [encM_zero]; kernel_rfl
theorem ins_add (m : M) (a q : Nat) (ha : a < 32) (h : has (m a) (q : Int) = true) : IntKind.u64.wrap (sv (insTo m (q : Int) a) + sv (bit (a : Int))) = sv (insTo m (q : Int) (a + 1)) := by
  rw [sv_add, add_or, insTo_succ, if_pos h]
  · rfl
  · refine set_ext fun j => ?_
    rw [has_and, has_insCol _ _ _ (by omega), has_bit, has_zero]
    by_cases e : j = (a : Int)
    · subst e
      simp
    · simp [e]
set_option maxHeartbeats 1000000 in
theorem noder_any (a : Int) (w : World) :
    Calls Tryd.prog 87 #[.int .i64 a] w fun e w' => w = w' ∧ e = .returned (.bool (node a)) := by
  by_cases h0 : 0 ≤ a
  · by_cases h1 : a < 32
    · have hf : Hid (node a = true) := by show _ = _; rw [node_eq]; simp [h0, h1]
      go_enter Tryd.func87, Tryd.ntmps87
      go_wp2
      go_ret
      exact ⟨rfl, ret_bool hf.out.symm⟩
    · have hf : Hid (node a = false) := by show _ = _; rw [node_eq]; simp [h1]
      go_enter Tryd.func87, Tryd.ntmps87
      go_wp2
      go_ret
      exact ⟨rfl, ret_bool hf.out.symm⟩
  · have hf : Hid (node a = false) := by show _ = _; rw [node_eq]; simp [h0]
    go_enter Tryd.func87, Tryd.ntmps87
    go_wp2
    go_ret
    exact ⟨rfl, ret_bool hf.out.symm⟩
set_option maxHeartbeats 4000000 in
set_option maxRecDepth 100000 in
theorem turn_any (m : M) (w : World) :
    Calls Tryd.prog 94 #[.agg (encM m)] w fun e w' => e = .returned (.agg (encM (turned m))) ∧ Below w.heap.size w w' := by
  go_enter Tryd.func94, Tryd.ntmps94
  go_wp2_with (first | (with_reducible refine wpList_alloc_val zeroRMat ?_))
  obtain ⟨w1, hW⟩ : ∃ w1, w1 = ((w.alloc (Obj.cells (encM m) 44)).alloc (Obj.cells (encM fun _ => 0#64) 44)).alloc (Obj.cells (encM fun _ => 0#64) 44) := ⟨_, rfl⟩
  rw [← hW]
  have hr1 : row? w1 w.heap.size = some (encM m) := by rw [hW]; go_simp
  have hr2 : row? w1 (w.heap.size + 1) = some (encM Z) := by rw [hW]; go_simp
  have hr3 : row? w1 (w.heap.size + 1 + 1) = some (encM (turnTo m 0 0)) := by rw [hW, turnTo_zero]; go_simp
  have hB1 : Hid (Below w.heap.size w w1) := by rw [hW]; exact below3 w _ _ _
  have h1 := Lib.hid hr1
  have h2 := Lib.hid hr2
  have h3 := Lib.hid hr3
  clear hW hr1 hr2 hr3
  go_loopw [4, 5] (fun pv i wr => ∃ k : Nat, k ≤ 32 ∧ i = .int .i64 k ∧ pv = .int .u64 (sv (bit (k : Int))) ∧ row? wr w.heap.size = some (encM m) ∧ row? wr (w.heap.size + 1) = some (encM Z) ∧ row? wr (w.heap.size + 1 + 1) = some (encM (turnTo m k 0)) ∧ Below w.heap.size w wr) (fun _ i _ => 32 - (intOf i).toNat)
  case atStart => exact ⟨0, Nat.zero_le _, rfl, by rw [sv_bit_nat (by decide)]; rfl, h1.out, h2.out, h3.out, hB1.out⟩
  case round =>
    obtain ⟨a, ha, rfl, rfl, hq1, hq2, hq3, hbr⟩ := hrel
    have hBr := Lib.hid hbr
    clear hbr
    have hl3 := row?_lt hq3
    by_cases hlt : a < 32
    · go_wp2_with fail
      refine (bits_any (m a) _).mono ?_
      rintro e w2 ⟨rfl, hb2⟩
      have hr1 := (row?_below hb2 (row?_lt hq1)).trans hq1
      have hr2 := (row?_below hb2 (row?_lt hq2)).trans hq2
      have hr3 := (row?_below hb2 hl3).trans hq3
      have hB2 : Hid (Below w.heap.size w w2) := hBr.out.trans (hb2.mono hBr.out.size)
      have hl31 := row?_lt hr3
      have hl11 := row?_lt hr1
      have hl21 := row?_lt hr2
      clear hq1 hq2 hq3 hl3 hb2 hBr
      generalize hf : (fun i => (m a).getLsbD i) = f at *
      have HF := Lib.hid hf
      clear hf
      go_wp2_with (first | (with_reducible refine wpList_alloc_val zeroBits ?_) | ((with_reducible refine wpList_store_arr arrBits (vs := encB f) ?_ ?_ (encB_size _) (encB_all _) ?_); exact rfl; go_simp; go_simp))
      have hi1 : row? (w2.alloc (Obj.cells (encB f) 118)) w.heap.size = some (encM m) := by go_simp
      have hi2 : row? (w2.alloc (Obj.cells (encB f) 118)) (w.heap.size + 1) = some (encM Z) := by go_simp
      have hi3 : row? (w2.alloc (Obj.cells (encB f) 118)) (w.heap.size + 1 + 1) = some (encM (turnTo m a 0)) := by go_simp
      have hi4 : row? (w2.alloc (Obj.cells (encB f) 118)) w2.heap.size = some (encB f) := by go_simp
      have hi5 : Below w.heap.size w (w2.alloc (Obj.cells (encB f) 118)) := hB2.out.alloc hB2.out.size _
      generalize (w2.alloc (Obj.cells (encB f) 118)) = w3 at *
      have g1 := Lib.hid hi1
      have g2 := Lib.hid hi2
      have g3 := Lib.hid hi3
      have g4 := Lib.hid hi4
      have g5 := Lib.hid hi5
      clear hi1 hi2 hi3 hi4 hi5 hr1 hr2 hr3
      go_loopw [7] (fun i wr => ∃ q : Nat, q ≤ 32 ∧ i = .int .i64 q ∧ row? wr w.heap.size = some (encM m) ∧ row? wr (w.heap.size + 1) = some (encM Z) ∧ row? wr (w.heap.size + 1 + 1) = some (encM (turnTo m a q)) ∧ row? wr w2.heap.size = some (encB f) ∧ Below w.heap.size w wr) (fun i _ => 32 - (intOf i).toNat)
      case atStart => exact ⟨0, Nat.zero_le _, rfl, g1.out, g2.out, g3.out, g4.out, g5.out⟩
      case round =>
        obtain ⟨q, hq, rfl, hq1, hq2, hq3, hq4, hbr⟩ := hrel
        have hBr := Lib.hid hbr
        clear hbr
        by_cases hqlt : q < 32
        · have hst := Lib.hid (turnTo_step m a q)
          have hq64 : q < 64 := by omega
          have hat := turnTo_at m a q
          have hgl : f q = has (m a) (q : Int) := by rw [← HF.out]; exact (has_nat _ _).symm
          cases hh : has (m a) (q : Int) with
          | true =>
            rw [hh] at hgl
            have hadd := Lib.hid (ins_add m a q hlt hh)
            clear hh
            go_wp2
            refine ⟨⟨q + 1, by omega, by go_num, ?_, ?_, ?_, ?_, below_setRow hBr.out (by omega) _⟩, by simp [intOf]; omega⟩
            · rw [row?_setRow_other _ _ _ (by omega)]; exact hq1
            · rw [row?_setRow_other _ _ _ (by omega)]; exact hq2
            · rw [hadd.out, encM_set, hst.out]; exact row?_setRow_same _ _ _ hq3
            · rw [row?_setRow_other _ _ _ (by omega)]; exact hq4
          | false =>
            rw [hh] at hgl
            have hsame : Hid (upd (turnTo m a q) q (insTo m (q : Int) a) = turnTo m a q) := by
              show _ = _
              funext b
              unfold upd
              split
              · rename_i e; rw [e, hat]
              · rfl
            have hins : Hid (insTo m (q : Int) (a + 1) = insTo m (q : Int) a) := by show _ = _; rw [insTo_succ, if_neg (by rw [hh]; simp)]
            clear hh
            go_wp2
            refine ⟨⟨q + 1, by omega, by go_num, hq1, hq2, ?_, hq4, hBr.out⟩, by simp [intOf]; omega⟩
            rw [← hst.out, hins.out, hsame.out]; exact hq3
        · have hq32 : q = 32 := by omega
          subst hq32
          have hnx := Lib.hid (turnTo_next m a)
          have hpw := Lib.hid (sv_bit_step (k := a) (by omega))
          have hnn := sv_nonneg (bit (a : Int))
          go_wp2
          exact ⟨⟨a + 1, by omega, by go_num, by rw [← hpw.out], hq1, hq2, by rw [← hnx.out]; exact hq3, hBr.out⟩, by simp [intOf]; omega⟩
    · have ha32 : a = 32 := by omega
      subst ha32
      have hall : Hid (encM (turnTo m 32 0) = encM (turned m)) := turnTo_all m
      generalize turnTo m 32 0 = t at *
      have hl2 := row?_lt hq2
      go_wp2_with (first | ((with_reducible refine wpList_load_arr arrRMat ?_ ?_); go_simp; go_simp) | ((with_reducible refine wpList_store_arr arrRMat (vs := encM t) ?_ ?_ (encM_size _) (encM_all _) ?_); exact rfl; go_simp; go_simp))
      exact bodyPost_ret (res_c arrRMat (cs := encM t) rfl _ _ rfl (by go_simp)) rfl ⟨by rw [hall.out], below_setRow hBr.out (by omega) _⟩
end Go.Proofs.YteclmkmemecckaaDoor
