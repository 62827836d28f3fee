/- The walks of package mat. -/
import Derived.Test.YteclmkmemecckaaDoorArr
import Derived.Test.YteclmkmemecckaaDoorWset
namespace Go.Proofs.YteclmkmemecckaaDoor
open Go.RowKit Wb

theorem nodes_sv : (4294967295 : Int) = sv nodes := by unfold sv nodes; simp
@[go_sem] theorem nodes_val : Value.int .u64 4294967295 = .int .u64 (sv nodes) := by rw [nodes_sv]
set_option maxHeartbeats 400000 in
theorem node_any (a : Int) (w : World) :
    Calls Tryd.prog 50 #[.int .i64 a] w fun e w' => w = w' ∧ e = .returned (.bool (node a)) := by
  go_enter Tryd.func50, Tryd.ntmps50
  go_wp2_with (go_at_call 35; refine (has_any _ _ _).mono ?_; rintro e w' ⟨rfl, rfl⟩)
  go_ret
  exact ⟨rfl, rfl⟩
theorem node_nat {k : Nat} (h : k < 32) : node (k : Int) = true := by rw [node_eq]; simp; omega
set_option maxHeartbeats 1000000 in
theorem put_any (m : M) (a b : Int) (w : World) :
    Calls Tryd.prog 23 #[.agg (encM m), .int .i64 a, .int .i64 b] w fun e w' => e = .returned (.tuple #[.agg (encM (put m a b).1), .bool (put m a b).2]) ∧ Below w.heap.size w w' := by
  by_cases hbad : node a = false ∨ node b = false ∨ a = b
  · have hp : put m a b = (m, false) := by
      unfold put; rw [if_pos]
      rcases hbad with h | h | h <;> simp [h]
    rw [hp]
    clear hp
    cases hna : node a with
    | false =>
      clear hbad
      go_enter Tryd.func23, Tryd.ntmps23
      go_wp2_with (first | (go_at_call 50; refine (node_any _ _).mono ?_; rintro e w' ⟨rfl, rfl⟩) | (with_reducible refine wpList_alloc_val zeroMat ?_) | ((with_reducible refine wpList_load_arr arrMat ?_ ?_); go_simp; go_simp) | ((with_reducible refine wpList_store_arr arrMat (vs := encM m) ?_ ?_ (encM_size m) (encM_all m) ?_); exact rfl; go_simp; go_simp))
      exact bodyPost_ret (res_ct arrMat rfl _ _ rfl rfl (by go_simp)) rfl ⟨rfl, below2 _ _ _⟩
    | true =>
      cases hnb : node b with
      | false =>
        clear hbad
        go_enter Tryd.func23, Tryd.ntmps23
        go_wp2_with (first | (go_at_call 50; refine (node_any _ _).mono ?_; rintro e w' ⟨rfl, rfl⟩) | (with_reducible refine wpList_alloc_val zeroMat ?_) | ((with_reducible refine wpList_load_arr arrMat ?_ ?_); go_simp; go_simp) | ((with_reducible refine wpList_store_arr arrMat (vs := encM m) ?_ ?_ (encM_size m) (encM_all m) ?_); exact rfl; go_simp; go_simp))
        exact bodyPost_ret (res_ct arrMat rfl _ _ rfl rfl (by go_simp)) rfl ⟨rfl, below2 _ _ _⟩
      | true =>
        have hab : (a == b) = true := by
          rcases hbad with h | h | h
          · rw [h] at hna; cases hna
          · rw [h] at hnb; cases hnb
          · simp [h]
        clear hbad
        go_enter Tryd.func23, Tryd.ntmps23
        go_wp2_with (first | (go_at_call 50; refine (node_any _ _).mono ?_; rintro e w' ⟨rfl, rfl⟩) | (with_reducible refine wpList_alloc_val zeroMat ?_) | ((with_reducible refine wpList_load_arr arrMat ?_ ?_); go_simp; go_simp) | ((with_reducible refine wpList_store_arr arrMat (vs := encM m) ?_ ?_ (encM_size m) (encM_all m) ?_); exact rfl; go_simp; go_simp))
        exact bodyPost_ret (res_ct arrMat rfl _ _ rfl rfl (by go_simp)) rfl ⟨rfl, below2 _ _ _⟩
  · have hna : node a = true := by cases h : node a <;> simp [h] at hbad ⊢
    have hnb : node b = true := by cases h : node b <;> simp [h] at hbad ⊢
    have hab : (a == b) = false := by simp only [not_or] at hbad; simpa using hbad.2.2
    have hr : 0 ≤ a ∧ a < 32 := by rw [node_eq] at hna; simpa using hna
    obtain ⟨k, rfl⟩ : ∃ k : Nat, a = (k : Int) := ⟨a.toNat, by omega⟩
    have hk : k < 32 := by omega
    have hp : put m k b = (upd m k (wth (m k) b), true) := by
      unfold put; rw [if_neg (by simp [hna, hnb, hab])]; simp
    rw [hp]
    clear hp hr hbad
    go_enter Tryd.func23, Tryd.ntmps23
    go_wp2_with (first | (go_at_call 50; refine (node_any _ _).mono ?_; rintro e w' ⟨rfl, rfl⟩) | (go_at_call 51; refine (with_any _ _ _).mono ?_; rintro e w' ⟨rfl, rfl⟩) | (with_reducible refine wpList_alloc_val zeroMat ?_) | ((with_reducible refine wpList_load_arr arrMat ?_ ?_); go_simp; go_simp) | ((with_reducible refine wpList_store_arr arrMat (vs := encM (upd m k (wth (m k) b))) ?_ ?_ (encM_size _) (encM_all _) ?_); exact rfl; go_simp; go_simp))
    exact bodyPost_ret (res_ct arrMat rfl _ _ rfl rfl (by go_simp)) rfl ⟨rfl, below2 _ _ _⟩

set_option maxHeartbeats 1000000 in
theorem outs_any (m : M) (a : Int) (w : World) :
    Calls Tryd.prog 33 #[.agg (encM m), .int .i64 a] w fun e w' => e = .returned (.int .u64 (sv (outs m a))) ∧ Below w.heap.size w w' := by
  cases hna : node a with
  | false =>
    have hp : Hid (outs m a = 0#64) := by show _ = _; unfold outs; rw [hna]; rfl
    go_enter Tryd.func33, Tryd.ntmps33
    go_wp2_with (first | (go_at_call 50; refine (node_any _ _).mono ?_; rintro e w' ⟨rfl, rfl⟩))
    go_ret
    exact ⟨by rw [hp.out]; rfl, below1 _ _⟩
  | true =>
    have hr : 0 ≤ a ∧ a < 32 := by rw [node_eq] at hna; simpa using hna
    obtain ⟨k, rfl⟩ : ∃ k : Nat, a = (k : Int) := ⟨a.toNat, by omega⟩
    have hk : k < 32 := by omega
    have hp : Hid (outs m k = m k &&& nodes) := by show _ = _; unfold outs; rw [hna]; simp
    clear hr
    go_enter Tryd.func33, Tryd.ntmps33
    go_wp2_with (first | (go_at_call 50; refine (node_any _ _).mono ?_; rintro e w' ⟨rfl, rfl⟩))
    go_ret
    exact ⟨by rw [hp.out]; rfl, below1 _ _⟩
set_option maxHeartbeats 1000000 in
theorem mhas_any (m : M) (a b : Int) (w : World) :
    Calls Tryd.prog 21 #[.agg (encM m), .int .i64 a, .int .i64 b] w fun e w' => e = .returned (.bool (has (outs m a) b)) ∧ Below w.heap.size w w' := by
  go_enter Tryd.func21, Tryd.ntmps21
  go_wp2_with (first | (go_at_call 33; refine (outs_any _ _ _).mono ?_; rintro e w1 ⟨rfl, hb1⟩) | (go_at_call 35; refine (has_any _ _ _).mono ?_; rintro e w' ⟨rfl, rfl⟩) | ((with_reducible refine wpList_load_arr arrMat ?_ ?_); go_simp; go_simp))
  go_ret
  exact ⟨rfl, (below1 _ _).trans (hb1.mono (by simp))⟩

/-- A function value that tells, of each number, a set; as long as the world is of a kind that new blocks don't turn. -/
def Nexts (f : Nat) (cap : Array Value) (F : Int → S) (Inv : World → Prop) : Prop :=
  (∀ (i : Int) (w : World), Inv w → Calls Tryd.prog f (#[.int .i64 i] ++ cap) w fun e w' => e = .returned (.int .u64 (sv (F i))) ∧ Below w.heap.size w w') ∧
  (∀ w w', Inv w → Below w.heap.size w w' → Inv w') ∧ (∀ (args : Array Value) (w : World), (callFunc f args).run Tryd.prog w = .ok (.enter f args) w)
def SpreadJ (f : Nat) (cap : Array Value) (F : Int → S) (w0 : World) (R : S) (a0 : Value) (a' : Act) (w' : World) : Prop :=
  ∃ (n : Nat) (had op : S) (u2 u3 u6 u7 u8 u9 u10 u11 u12 u13 u14 u15 u16 u17 u18 u19 u20 u21 u22 u23 u24 : Value),
    a' = { tmps := #[a0, .func (.func f) #[] cap, u2, u3, .int .u64 (sv had), .int .u64 (sv op), u6, u7, u8, u9, u10, u11, u12, u13, u14, u15, u16, u17, u18, u19, u20, u21, u22, u23, u24], defers := [] } ∧
    Below w0.heap.size w0 w' ∧ spreadL F n had op = R ∧ 64 - cnt had < n ∧ (∀ k, has op k = true → has had k = false)
theorem spread_step {F : Int → S} {n : Nat} {had op R : S} (h0 : op ≠ 0#64) (h1 : spreadL F n had op = R) (h2 : 64 - cnt had < n) (h3 : ∀ k, has op k = true → has had k = false) :
    ∃ n', spreadL F n' (wth had (first op)) ((op ||| F (first op)) &&& ~~~(wth had (first op))) = R ∧ 64 - cnt (wth had (first op)) < n' ∧ (∀ k, has ((op ||| F (first op)) &&& ~~~(wth had (first op))) k = true → has (wth had (first op)) k = false) ∧ 64 - cnt (wth had (first op)) < 64 - cnt had := by
  obtain ⟨n, rfl⟩ : ∃ n', n = n' + 1 := ⟨n - 1, by omega⟩
  have hf := first_mem h0
  have hc := cnt_wth (has_range hf) (h3 _ hf)
  have hle := cnt_le (wth had (first op))
  refine ⟨n, ?_, by omega, ?_, by omega⟩
  · rw [← h1, spreadL, if_neg h0]
  · intro k hk; rw [has_andNot] at hk; simp only [Bool.and_eq_true, Bool.not_eq_true'] at hk; exact hk.2
set_option maxHeartbeats 2000000 in
theorem spread_any (f : Nat) (cap : Array Value) (F : Int → S) (Inv : World → Prop) (hN : Nexts f cap F Inv) (a : Int) (w : World) (hT : Tab w) (hI : Inv w) :
    Calls Tryd.prog 68 #[.int .i64 a, .func (.func f) #[] cap] w fun e w' => e = .returned (.int .u64 (sv (spreadL F 65 0#64 (F a)))) ∧ Below w.heap.size w w' := by
  have hcall := hN.2.2
  have HC := Lib.hid hN.1
  have hI0 : Hid (Inv w) := hI
  have hT0 : Hid (Tab w) := hT
  clear hI hT
  go_enter Tryd.func68, Tryd.ntmps68
  go_wp2_with fail
  refine wp_scope_loop1 0 (SpreadJ f cap F w (spreadL F 65 0#64 (F a)) (.int .i64 a)) (fun a' _ => 64 - cnt (BitVec.ofInt 64 (intOf (a'.tmps.getD 4 undef)))) rfl ?_ ?_
  · go_wp2_with (((with_reducible refine (HC.out _ _ hI0.out).mono ?_); rintro e w1 ⟨rfl, hb1⟩))
    exact ⟨65, 0#64, F a, _, _, _, _, _, _, _, _, _, _, _, _, _, _, _, _, _, _, _, _, _, rfl, hb1, rfl, by omega, fun k _ => has_zero k⟩
  · rintro a' wr ⟨n, had, op, u2, u3, u6, u7, u8, u9, u10, u11, u12, u13, u14, u15, u16, u17, u18, u19, u20, u21, u22, u23, u24, rfl, hb, h1, h2, h3⟩
    have hIr : Hid (Inv wr) := hN.2.1 _ _ hI0.out hb
    have hTr : Hid (Tab wr) := hT0.out.next hb
    by_cases h : op = 0#64
    · have ht : (op == 0#64) = true := by simp [h]
      have hfin : Hid (had = spreadL F 65 0#64 (F a)) := by
        show _ = _
        obtain ⟨n, rfl⟩ : ∃ n', n = n' + 1 := ⟨n - 1, by omega⟩
        rw [← h1, spreadL, if_pos h]
      clear h h1 h2 h3
      go_wp2
      simp only [Exit.jump]
      go_ret
      exact ⟨by rw [← hfin.out]; rfl, hb⟩
    · have ht : (op == 0#64) = false := by simp [h]
      have hs := Lib.hid (spread_step h h1 h2 h3)
      clear h h1 h2 h3
      go_wp2_with (first | (go_at_call 34; refine (first_any _ _ hTr.out).mono ?_; rintro e w' ⟨rfl, rfl⟩) | (go_at_call 51; refine (with_any _ _ _).mono ?_; rintro e w' ⟨rfl, rfl⟩) | ((with_reducible refine (HC.out _ _ hIr.out).mono ?_); rintro e w2 ⟨rfl, hb2⟩))
      go_step3
      obtain ⟨n', g1, g2, g3, g4⟩ := hs.out
      refine ⟨rfl, ⟨n', _, _, _, _, _, _, _, _, _, _, _, _, _, _, _, _, _, _, _, _, _, _, _, rfl, hb.trans (hb2.mono hb.size), g1, g2, g3⟩, ?_⟩
      show 64 - cnt (BitVec.ofInt 64 (sv _)) < 64 - cnt (BitVec.ofInt 64 (sv _))
      rw [ofInt_sv, ofInt_sv]
      exact g4

/-- A block holds a graph. -/
def HoldsM (g : Nat) (m : M) (w : World) : Prop := row? w g = some (encM m)
theorem HoldsM.next {g : Nat} {m : M} {w w' : World} (h : HoldsM g m w) (hb : Below w.heap.size w w') : HoldsM g m w' := (row?_below hb (row?_lt h)).trans h
theorem callAny (f : Nat) (hf : ∃ fn, Tryd.prog.funcs[f]? = some fn ∧ (fn.name == "runtime.NumGoroutine") = false ∧ fn.body.isNone = false) (args : Array Value) (w : World) : (callFunc f args).run Tryd.prog w = .ok (.enter f args) w := by
  obtain ⟨fn, h1, h2, h3⟩ := hf
  have h2' : ¬ fn.name = "runtime.NumGoroutine" := by simpa using h2
  have h3' : ¬ fn.body = none := by intro e; rw [e] at h3; cases h3
  simp [callFunc, h1, h2', h3', program, Sem.run]
set_option maxHeartbeats 1000000 in
theorem reach1_any (g : Nat) (m : M) (i : Int) (w : World) (h : row? w g = some (encM m)) :
    Calls Tryd.prog 78 #[.int .i64 i, .pointer (some ⟨g, 0, none⟩)] w fun e w' => e = .returned (.int .u64 (sv (outs m i))) ∧ Below w.heap.size w w' := by
  go_enter Tryd.func78, Tryd.ntmps78
  go_wp2_with (first | (go_at_call 33; refine (outs_any _ _ _).mono ?_; rintro e w1 ⟨rfl, hb1⟩) | ((with_reducible refine wpList_load_arr arrMat ?_ ?_); go_simp; go_simp))
  go_ret
  exact ⟨rfl, hb1⟩
theorem reach1_nexts (g : Nat) (m : M) : Nexts 78 #[.pointer (some ⟨g, 0, none⟩)] (outs m) (HoldsM g m) :=
  ⟨fun i w h => reach1_any g m i w h, fun _ _ h hb => h.next hb, callAny _ ⟨_, Tryd.func78, by kernel_rfl, by kernel_rfl⟩⟩
set_option maxHeartbeats 1000000 in
theorem reach_any (m : M) (a : Int) (w : World) (hT : Tab w) :
    Calls Tryd.prog 52 #[.agg (encM m), .int .i64 a] w fun e w' => e = .returned (.int .u64 (sv (reach m a))) ∧ Below w.heap.size w w' := by
  have hmf : ∀ (fn : Fn) (first cap : Array Value) (w : World), (Instr.makeFunc fn first cap).run Tryd.prog w = .ok (.func fn first cap) w := fun _ _ _ _ => rfl
  have hI : Hid (HoldsM w.heap.size m (w.alloc (.cells (encM m) 29))) := row?_alloc_at _ _ _ rfl
  have hT' : Hid (Tab (w.alloc (.cells (encM m) 29))) := hT.alloc _
  clear hT
  go_enter Tryd.func52, Tryd.ntmps52
  go_wp2_with (go_at_call 68; refine (spread_any _ _ _ _ (reach1_nexts w.heap.size m) a _ hT'.out hI.out).mono ?_; rintro e w1 ⟨rfl, hb1⟩)
  go_ret
  exact ⟨rfl, (below1 _ _).trans (hb1.mono (by simp))⟩

set_option maxHeartbeats 1000000 in
theorem ins_any (m : M) (a : Int) (w : World) :
    Calls Tryd.prog 36 #[.agg (encM m), .int .i64 a] w fun e w' => e = .returned (.int .u64 (sv (ins m a))) ∧ Below w.heap.size w w' := by
  cases hna : node a with
  | false =>
    have hp : Hid (ins m a = 0#64) := by show _ = _; unfold ins; rw [hna]; rfl
    go_enter Tryd.func36, Tryd.ntmps36
    go_wp2_with (first | (go_at_call 50; refine (node_any _ _).mono ?_; rintro e w' ⟨rfl, rfl⟩))
    go_ret
    exact ⟨by rw [hp.out]; rfl, below1 _ _⟩
  | true =>
    have hp : Hid (ins m a = insTo m a 32) := by show _ = _; unfold ins; rw [hna]; rfl
    go_enter Tryd.func36, Tryd.ntmps36
    go_wp2_with (first | (go_at_call 50; refine (node_any _ _).mono ?_; rintro e w' ⟨rfl, rfl⟩))
    go_loop [4, 9] (fun s i => ∃ k : Nat, k ≤ 32 ∧ i = .int .i64 k ∧ s = .int .u64 (sv (insTo m a k))) (fun _ i => 32 - (intOf i).toNat)
    case atStart => exact ⟨0, Nat.zero_le _, rfl, rfl⟩
    case round =>
      obtain ⟨k, hk, rfl, rfl⟩ := hrel
      by_cases hlt : k < 32
      · have hstep : Hid (insTo m a (k + 1) = if has (m k) a then wth (insTo m a k) (k : Int) else insTo m a k) := by
          show _ = _; unfold insTo; rw [List.range_succ, List.foldl_append]; rfl
        cases hh : has (m k) a with
        | true =>
          have hs1 : Hid (wth (insTo m a k) (k : Int) = insTo m a (k + 1)) := by show _ = _; rw [hstep.out, hh]; rfl
          clear hstep
          go_wp2_with (first | (go_at_call 35; refine (has_any _ _ _).mono ?_; rintro e w' ⟨rfl, rfl⟩) | (go_at_call 51; refine (with_any _ _ _).mono ?_; rintro e w' ⟨rfl, rfl⟩))
          go_round
          case rel => exact ⟨k + 1, by omega, by go_num, by rw [hs1.out]⟩
          case measure => simp [intOf]; omega
        | false =>
          have hs1 : Hid (insTo m a k = insTo m a (k + 1)) := by show _ = _; rw [hstep.out, hh]; rfl
          clear hstep
          go_wp2_with (first | (go_at_call 35; refine (has_any _ _ _).mono ?_; rintro e w' ⟨rfl, rfl⟩) | (go_at_call 51; refine (with_any _ _ _).mono ?_; rintro e w' ⟨rfl, rfl⟩))
          go_round
          case rel => exact ⟨k + 1, by omega, by go_num, by rw [← hs1.out]⟩
          case measure => simp [intOf]; omega
      · have hk32 : k = 32 := by omega
        subst hk32
        go_wp2
        go_ret
        exact ⟨by rw [hp.out]; rfl, below1 _ _⟩
set_option maxHeartbeats 1000000 in
theorem back1_any (g : Nat) (m : M) (i : Int) (w : World) (h : row? w g = some (encM m)) :
    Calls Tryd.prog 69 #[.int .i64 i, .pointer (some ⟨g, 0, none⟩)] w fun e w' => e = .returned (.int .u64 (sv (ins m i))) ∧ Below w.heap.size w w' := by
  go_enter Tryd.func69, Tryd.ntmps69
  go_wp2_with (first | (go_at_call 36; refine (ins_any _ _ _).mono ?_; rintro e w1 ⟨rfl, hb1⟩) | ((with_reducible refine wpList_load_arr arrMat ?_ ?_); go_simp; go_simp))
  go_ret
  exact ⟨rfl, hb1⟩
theorem back1_nexts (g : Nat) (m : M) : Nexts 69 #[.pointer (some ⟨g, 0, none⟩)] (ins m) (HoldsM g m) :=
  ⟨fun i w h => back1_any g m i w h, fun _ _ h hb => h.next hb, callAny _ ⟨_, Tryd.func69, by kernel_rfl, by kernel_rfl⟩⟩
set_option maxHeartbeats 1000000 in
theorem back_any (m : M) (a : Int) (w : World) (hT : Tab w) :
    Calls Tryd.prog 37 #[.agg (encM m), .int .i64 a] w fun e w' => e = .returned (.int .u64 (sv (back m a))) ∧ Below w.heap.size w w' := by
  have hmf : ∀ (fn : Fn) (first cap : Array Value) (w : World), (Instr.makeFunc fn first cap).run Tryd.prog w = .ok (.func fn first cap) w := fun _ _ _ _ => rfl
  have hI : Hid (HoldsM w.heap.size m (w.alloc (.cells (encM m) 29))) := row?_alloc_at _ _ _ rfl
  have hT' : Hid (Tab (w.alloc (.cells (encM m) 29))) := hT.alloc _
  clear hT
  go_enter Tryd.func37, Tryd.ntmps37
  go_wp2_with (go_at_call 68; refine (spread_any _ _ _ _ (back1_nexts w.heap.size m) a _ hT'.out hI.out).mono ?_; rintro e w1 ⟨rfl, hb1⟩)
  go_ret
  exact ⟨rfl, (below1 _ _).trans (hb1.mono (by simp))⟩

set_option maxHeartbeats 1000000 in
theorem free_any (m : M) (w : World) (hT : Tab w) :
    Calls Tryd.prog 24 #[.agg (encM m)] w fun e w' => e = .returned (.bool (free m)) ∧ Below w.heap.size w w' := by
  have hT0 : Hid (Tab w) := hT
  clear hT
  go_enter Tryd.func24, Tryd.ntmps24
  go_wp2
  go_loopw [4] (fun i wr => ∃ k : Nat, k ≤ 32 ∧ i = .int .i64 k ∧ Below w.heap.size w wr ∧ row? wr w.heap.size = some (encM m) ∧ w.heap.size < wr.heap.size ∧ (List.range k).all (fun i => !has (reach m i) i) = true) (fun i _ => 32 - (intOf i).toNat)
  case atStart => exact ⟨0, Nat.zero_le _, rfl, below1 _ _, row?_alloc_at _ _ _ rfl, by simp, by simp⟩
  case round =>
    obtain ⟨k, hk, rfl, hb, hrow, hsz, hall⟩ := hrel
    have hTr : Hid (Tab wr) := hT0.out.next hb
    have hAll := Lib.hid hall
    clear hall
    by_cases hlt : k < 32
    · have hstep : Hid (∀ b, has (reach m k) k = b → (List.range (k + 1)).all (fun i => !has (reach m i) i) = !b) := by
        show ∀ b, _
        intro b hb
        rw [List.range_succ, List.all_append, hAll.out]
        simp [hb]
      cases hh : has (reach m k) k with
      | true =>
        have hfin : Hid (free m = false) := by
          show _ = _
          unfold free
          rw [List.all_eq_false]
          exact ⟨k, by simp [hlt], by simp [hh]⟩
        clear hstep
        go_wp2_with (first | (go_at_call 52; refine (reach_any _ _ _ hTr.out).mono ?_; rintro e w1 ⟨rfl, hb1⟩) | (go_at_call 35; refine (has_any _ _ _).mono ?_; rintro e w' ⟨rfl, rfl⟩) | ((with_reducible refine wpList_load_arr arrMat ?_ ?_); go_simp; go_simp))
        go_ret
        exact ⟨by rw [hfin.out]; rfl, hb.trans (hb1.mono hb.size)⟩
      | false =>
        have hs1 : Hid ((List.range (k + 1)).all (fun i => !has (reach m i) i) = true) := by show _ = _; rw [hstep.out _ hh]; rfl
        clear hstep
        go_wp2_with (first | (go_at_call 52; refine (reach_any _ _ _ hTr.out).mono ?_; rintro e w1 ⟨rfl, hb1⟩) | (go_at_call 35; refine (has_any _ _ _).mono ?_; rintro e w' ⟨rfl, rfl⟩) | ((with_reducible refine wpList_load_arr arrMat ?_ ?_); go_simp; go_simp))
        have hrow1 := (row?_below hb1 hsz).trans hrow
        go_roundw
        case rel => exact ⟨k + 1, by omega, by go_num, hb.trans (hb1.mono hb.size), hrow1, Nat.lt_of_lt_of_le hsz hb1.size, hs1.out⟩
        case measure => simp [intOf]; omega
    · have hk32 : k = 32 := by omega
      have hfin : Hid (free m = true) := by show _ = _; unfold free; rw [← hk32]; exact hAll.out
      go_wp2
      go_ret
      exact ⟨by rw [hfin.out]; rfl, hb⟩

set_option maxHeartbeats 1000000 in
theorem cut_any (m : M) (a : Int) (w : World) :
    Calls Tryd.prog 65 #[.agg (encM m), .int .i64 a] w fun e w' => e = .returned (.agg (encM (cut m a))) ∧ Below w.heap.size w w' := by
  cases hna : node a with
  | false =>
    have hp : Hid (cut m a = m) := by show _ = _; unfold cut; rw [hna]; rfl
    go_enter Tryd.func65, Tryd.ntmps65
    go_wp2_with (first | (go_at_call 50; refine (node_any _ _).mono ?_; rintro e w' ⟨rfl, rfl⟩) | (with_reducible refine wpList_alloc_val zeroMat ?_) | ((with_reducible refine wpList_load_arr arrMat ?_ ?_); go_simp; go_simp) | ((with_reducible refine wpList_store_arr arrMat (vs := encM m) ?_ ?_ (encM_size m) (encM_all m) ?_); exact rfl; go_simp; go_simp))
    exact bodyPost_ret (res_c arrMat (cs := encM m) rfl _ _ rfl (by go_simp)) rfl ⟨by rw [hp.out], below2 _ _ _⟩
  | true =>
    have hr : 0 ≤ a ∧ a < 32 := by rw [node_eq] at hna; simpa using hna
    obtain ⟨k, rfl⟩ : ∃ k : Nat, a = (k : Int) := ⟨a.toNat, by omega⟩
    have hk : k < 32 := by omega
    have hp : Hid (encM (upd (fun i => less (m i) (k : Int)) k (less (m k) (k : Int) &&& ~~~nodes)) = encM (cut m k)) := by
      show _ = _
      unfold cut; rw [hna]
      simp only [Bool.not_true, Bool.false_eq_true, if_false, Int.toNat_natCast]
      apply encA_ext
      intro i _
      by_cases e : i = k
      · subst e; simp [upd]
      · simp [upd, e]
    clear hr
    go_enter Tryd.func65, Tryd.ntmps65
    go_wp2_with (first | (go_at_call 50; refine (node_any _ _).mono ?_; rintro e w' ⟨rfl, rfl⟩) | (with_reducible refine wpList_alloc_val zeroMat ?_))
    go_loopw [10] (fun i wr => ∃ j : Nat, j ≤ 32 ∧ i = .int .i64 j ∧ wr = (w.alloc (.cells (encM (fun i => if i < j then less (m i) (k : Int) else m i)) 29)).alloc (.cells (encM (fun _ => 0#64)) 29)) (fun i _ => 32 - (intOf i).toNat)
    case atStart => exact ⟨0, Nat.zero_le _, rfl, by simp⟩
    case round =>
      obtain ⟨j, hj, rfl, rfl⟩ := hrel
      by_cases hlt : j < 32
      · have hstep : Hid (encM (upd (fun i => if i < j then less (m i) (k : Int) else m i) j (less (m j) (k : Int))) = encM (fun i => if i < j + 1 then less (m i) (k : Int) else m i)) := by
          show _ = _
          apply encA_ext
          intro i _
          by_cases e : i = j
          · subst e; simp [upd]
          · have : i < j + 1 ↔ i < j := by omega
            simp [upd, e, this]
        generalize hM : (fun i => if i < j then less (m i) (k : Int) else m i) = M1 at *
        have hMj : M1 j = m j := by rw [← hM]; simp
        clear hM
        go_wp2_with (first | (go_at_call 66; refine (less_any _ _ _).mono ?_; rintro e w' ⟨rfl, rfl⟩))
        go_roundw
        case rel => exact ⟨j + 1, by omega, by go_num, by rw [← hstep.out]⟩
        case measure => simp [intOf]; omega
      · have hj32 : j = 32 := by omega
        have hM : Hid (encM (fun i => if i < j then less (m i) (k : Int) else m i) = encM (fun i => less (m i) (k : Int))) := by
          show _ = _
          apply encA_ext
          intro i hi
          rw [if_pos (by omega)]
        rw [hM.out]
        have hMk : Hid ((fun i => less (m i) (k : Int)) k = less (m k) (k : Int)) := rfl
        generalize (fun i => less (m i) (k : Int)) = M1 at *
        have hMk' := hMk.out
        clear hM hMk
        subst hj32
        go_wp2_with (first | ((with_reducible refine wpList_load_arr arrMat ?_ ?_); go_simp; go_simp) | ((with_reducible refine wpList_store_arr arrMat (vs := encM (upd M1 k (less (m k) (k : Int) &&& ~~~nodes))) ?_ ?_ (encM_size _) (encM_all _) ?_); exact rfl; go_simp; go_simp))
        exact bodyPost_ret (res_c arrMat (cs := encM (upd M1 k (less (m k) (k : Int) &&& ~~~nodes))) rfl _ _ rfl (by go_simp)) rfl ⟨by rw [← hp.out], below2 _ _ _⟩
end Go.Proofs.YteclmkmemecckaaDoor
