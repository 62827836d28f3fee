/- The walk of topo.Insert. -/
import Derived.Test.YteclmkmemecckaaDoorWins
import Derived.Test.YteclmkmemecckaaDoorReg
namespace Go.Proofs.YteclmkmemecckaaDoor
open Go.RowKit Wb

/-- What Insert hands back. -/
def InsRet (m : M) (o : O) (b : Bool) (w : World) (e : Ending) (w' : World) : Prop := e = .returned (.tuple #[.agg (encM m), .agg (encO o), .bool b]) ∧ Below w.heap.size w w'

set_option maxHeartbeats 4000000 in
set_option maxRecDepth 100000 in
theorem insert_no1 (m : M) (o : O) (a b : Int) (w : World) (hp : (put m a b).2 = false) :
    Calls Tryd.prog 16 #[.agg (encM m), .agg (encO o), .int .i64 a, .int .i64 b] w (InsRet m o false w) := by
  go_enter Tryd.func16, Tryd.ntmps16
  go_wp2_with (first | (with_reducible refine wpList_alloc_val zeroMat ?_) | (with_reducible refine wpList_alloc_val zeroOrder ?_) | ((with_reducible refine wpList_load_arr arrMat ?_ ?_); go_simp; go_simp) | ((with_reducible refine wpList_load_arr_g arrMat ?_ ?_ ?_); rfl; go_simp; go_simp) | ((with_reducible refine wpList_load_arr arrOrder ?_ ?_); go_simp; go_simp) | ((with_reducible refine wpList_load_arr_g arrOrder ?_ ?_ ?_); rfl; go_simp; go_simp) | ((with_reducible refine wpList_store_arr arrMat (vs := encM (put m a b).1) ?_ ?_ (encM_size _) (encM_all _) ?_); exact rfl; go_simp; go_simp) | (go_at_call 23; refine (put_any _ _ _ _).mono ?_; rintro e w1 ⟨rfl, hb1⟩; obtain ⟨r1, rfl⟩ := hb1.ext; clear hb1))
  refine wp_region_ret2 arrMat arrOrder (c0 := encM m) (c1 := encO o) (e0 := encM fun _ => 0#64) (e1 := encO fun _ => 0) (by rfl) (by rfl) (by rfl) (by rfl) ⟨by decide, by simp, by simp⟩ (by go_simp) (by go_simp) (by go_simp) (by go_simp) ⟨by omega, by omega, by omega⟩ (encM_size _) (encO_size _) (encM_size _) (encO_size _) (encM_all _) (encO_all _) ?_
  go_simp
  go_wp2
  exact bodyPost_ret (res_cct arrMat arrOrder (cs := encM m) (cs2 := encO o) rfl _ _ rfl rfl rfl (by go_simp) (by go_simp)) rfl ⟨rfl, (by repeat (first | exact Below.refl _ _ | assumption | refine Below.drew ?_ | refine Below.alloc ?_ (by first | omega | (simp; done) | (simp; omega)) _ | refine Below.extd ?_ (by first | omega | (simp; done) | (simp; omega)) _))⟩

set_option maxHeartbeats 4000000 in
set_option maxRecDepth 100000 in
theorem insert_no2 (m : M) (o : O) (a b : Int) (w : World) (hT : Tab w) (hp : (put m a b).2 = true) (hs : sorted m o = false) :
    Calls Tryd.prog 16 #[.agg (encM m), .agg (encO o), .int .i64 a, .int .i64 b] w (InsRet m o false w) := by
  have hT0 : Hid (Tab w) := hT
  clear hT
  go_enter Tryd.func16, Tryd.ntmps16
  go_wp2_with (first | (with_reducible refine wpList_alloc_val zeroMat ?_) | (with_reducible refine wpList_alloc_val zeroOrder ?_) | ((with_reducible refine wpList_load_arr arrMat ?_ ?_); go_simp; go_simp) | ((with_reducible refine wpList_load_arr_g arrMat ?_ ?_ ?_); rfl; go_simp; go_simp) | ((with_reducible refine wpList_load_arr arrOrder ?_ ?_); go_simp; go_simp) | ((with_reducible refine wpList_load_arr_g arrOrder ?_ ?_ ?_); rfl; go_simp; go_simp) | ((with_reducible refine wpList_store_arr arrMat (vs := encM (put m a b).1) ?_ ?_ (encM_size _) (encM_all _) ?_); exact rfl; go_simp; go_simp) | (go_at_call 23; refine (put_any _ _ _ _).mono ?_; rintro e w1 ⟨rfl, hb1⟩; obtain ⟨r1, rfl⟩ := hb1.ext; clear hb1) | (go_at_call 22; refine (sorted_any _ _ _ (by repeat (first | exact hT0.out | apply Tab.ext | apply Tab.alloc | apply Tab.drew))).mono ?_; rintro e w1 ⟨rfl, hb1⟩; obtain ⟨r2, rfl⟩ := hb1.ext; clear hb1))
  refine wp_region_ret2 arrMat arrOrder (c0 := encM m) (c1 := encO o) (e0 := encM fun _ => 0#64) (e1 := encO fun _ => 0) (by rfl) (by rfl) (by rfl) (by rfl) ⟨by decide, by simp, by simp⟩ (by go_simp) (by go_simp) (by go_simp) (by go_simp) ⟨by omega, by omega, by omega⟩ (encM_size _) (encO_size _) (encM_size _) (encO_size _) (encM_all _) (encO_all _) ?_
  go_simp
  go_wp2
  exact bodyPost_ret (res_cct arrMat arrOrder (cs := encM m) (cs2 := encO o) rfl _ _ rfl rfl rfl (by go_simp) (by go_simp)) rfl ⟨rfl, (by repeat (first | exact Below.refl _ _ | assumption | refine Below.drew ?_ | refine Below.alloc ?_ (by first | omega | (simp; done) | (simp; omega)) _ | refine Below.extd ?_ (by first | omega | (simp; done) | (simp; omega)) _))⟩

theorem put_nodes {m : M} {a b : Int} (h : (put m a b).2 = true) : (0 ≤ a ∧ a < 32) ∧ (0 ≤ b ∧ b < 32) ∧ a ≠ b := by
  unfold put at h
  split at h
  · cases h
  · rename_i hc
    simp only [Bool.or_eq_true, Bool.not_eq_true', not_or, Bool.not_eq_false, beq_iff_eq, node_eq, decide_eq_true_eq] at hc
    exact ⟨hc.1.1, hc.1.2, hc.2⟩

set_option maxHeartbeats 4000000 in
set_option maxRecDepth 100000 in
theorem insert_up (m : M) (o : O) (a b : Nat) (ha : a < 32) (hb : b < 32) (w : World) (hT : Tab w) (hp : (put m a b).2 = true) (hs : sorted m o = true) (hlt : o a < o b) :
    Calls Tryd.prog 16 #[.agg (encM m), .agg (encO o), .int .i64 (a : Int), .int .i64 (b : Int)] w (InsRet (put m a b).1 o true w) := by
  have hT0 : Hid (Tab w) := hT
  clear hT
  go_enter Tryd.func16, Tryd.ntmps16
  go_wp2_with (first | (with_reducible refine wpList_alloc_val zeroMat ?_) | (with_reducible refine wpList_alloc_val zeroOrder ?_) | ((with_reducible refine wpList_load_arr arrMat ?_ ?_); go_simp; go_simp) | ((with_reducible refine wpList_load_arr_g arrMat ?_ ?_ ?_); rfl; go_simp; go_simp) | ((with_reducible refine wpList_load_arr arrOrder ?_ ?_); go_simp; go_simp) | ((with_reducible refine wpList_load_arr_g arrOrder ?_ ?_ ?_); rfl; go_simp; go_simp) | ((with_reducible refine wpList_store_arr arrMat (vs := encM (put m a b).1) ?_ ?_ (encM_size _) (encM_all _) ?_); exact rfl; go_simp; go_simp) | (go_at_call 23; refine (put_any _ _ _ _).mono ?_; rintro e w1 ⟨rfl, hb1⟩; obtain ⟨r1, rfl⟩ := hb1.ext; clear hb1) | (go_at_call 22; refine (sorted_any _ _ _ (by repeat (first | exact hT0.out | apply Tab.ext | apply Tab.alloc | apply Tab.drew))).mono ?_; rintro e w1 ⟨rfl, hb1⟩; obtain ⟨r2, rfl⟩ := hb1.ext; clear hb1))
  go_quiet (fail)
  simp only [drewN_is_ext, ext_ext]
  go_wp2
  refine wp_region_ret2 arrMat arrOrder (c0 := encM (put m a b).1) (c1 := encO o) (e0 := encM fun _ => 0#64) (e1 := encO fun _ => 0) (by rfl) (by rfl) (by rfl) (by rfl) ⟨by decide, by simp, by simp⟩ (by go_simp) (by go_simp) (by go_simp) (by go_simp) ⟨by omega, by omega, by omega⟩ (encM_size _) (encO_size _) (encM_size _) (encO_size _) (encM_all _) (encO_all _) ?_
  go_simp
  go_wp2
  exact bodyPost_ret (res_cct arrMat arrOrder (cs := encM (put m a b).1) (cs2 := encO o) rfl _ _ rfl rfl rfl (by go_simp) (by go_simp)) rfl ⟨rfl, (by repeat (first | exact Below.refl _ _ | assumption | refine Below.drew ?_ | refine Below.alloc ?_ (by first | omega | (simp; done) | (simp; omega)) _ | refine Below.extd ?_ (by first | omega | (simp; done) | (simp; omega)) _))⟩

set_option maxHeartbeats 8000000 in
set_option maxRecDepth 100000 in
theorem insert_cycle (m : M) (o : O) (a b : Nat) (ha : a < 32) (hb : b < 32) (w : World) (hT : Tab w) (hp : (put m a b).2 = true) (hs : sorted m o = true) (hlt : ¬ o a < o b) (hf : has (foreOf m o a b) a = true) :
    Calls Tryd.prog 16 #[.agg (encM m), .agg (encO o), .int .i64 (a : Int), .int .i64 (b : Int)] w (InsRet m o false w) := by
  have hmf : ∀ (fn : Fn) (first cap : Array Value) (w : World), (Instr.makeFunc fn first cap).run Tryd.prog w = .ok (.func fn first cap) w := fun _ _ _ _ => rfl
  have hT0 : Hid (Tab w) := hT
  have hf' : has (near (b : Int) (outs m) (fun i => decide (o i.toNat ≤ o (a : Int).toNat))) (a : Int) = true := hf
  have hmay : Hid (Mays 44 #[.pointer (some ⟨w.heap.size + 1, 0, none⟩), .pointer (some ⟨w.heap.size + 1 + 1, 0, none⟩)] (fun i => decide (o i.toNat ≤ o (a : Int).toNat)) (Holds3 w.heap.size (w.heap.size + 1) (w.heap.size + 1 + 1) m o a)) := ins2_mays _ _ _ m o a ha
  have hnext : Hid (Nexts 43 #[.pointer (some ⟨w.heap.size, 0, none⟩)] (outs m) (Holds3 w.heap.size (w.heap.size + 1) (w.heap.size + 1 + 1) m o a)) := ins1_nexts _ _ _ m o a
  have hF : Hid (∀ i k, has (outs m i) k = true → 0 ≤ k ∧ k < 32) := fun i k h => ((outs_iff m i k).1 h).2.1
  generalize (fun i : Int => decide (o i.toNat ≤ o (a : Int).toNat)) = p at *
  clear hT hf
  go_enter Tryd.func16, Tryd.ntmps16
  go_wp2_with (first | (with_reducible refine wpList_alloc_val zeroMat ?_) | (with_reducible refine wpList_alloc_val zeroOrder ?_) | ((with_reducible refine wpList_load_arr arrMat ?_ ?_); go_simp; go_simp) | ((with_reducible refine wpList_load_arr_g arrMat ?_ ?_ ?_); rfl; go_simp; go_simp) | ((with_reducible refine wpList_load_arr arrOrder ?_ ?_); go_simp; go_simp) | ((with_reducible refine wpList_load_arr_g arrOrder ?_ ?_ ?_); rfl; go_simp; go_simp) | ((with_reducible refine wpList_store_arr arrMat (vs := encM (put m a b).1) ?_ ?_ (encM_size _) (encM_all _) ?_); exact rfl; go_simp; go_simp) | (go_at_call 23; refine (put_any _ _ _ _).mono ?_; rintro e w1 ⟨rfl, hb1⟩; obtain ⟨r1, rfl⟩ := hb1.ext; clear hb1) | (go_at_call 22; refine (sorted_any _ _ _ (by repeat (first | exact hT0.out | apply Tab.ext | apply Tab.alloc | apply Tab.drew))).mono ?_; rintro e w1 ⟨rfl, hb1⟩; obtain ⟨r2, rfl⟩ := hb1.ext; clear hb1))
  go_quiet (fail)
  simp only [drewN_is_ext, ext_ext]
  go_wp2_with (first | (go_at_call 42; refine (near_any _ _ _ _ _ _ _ hnext.out hmay.out hF.out _ _ (by repeat (first | exact hT0.out | apply Tab.ext | apply Tab.alloc | apply Tab.drew)) ⟨by go_simp, by go_simp, by go_simp⟩).mono ?_; rintro e w1 ⟨rfl, hb1⟩; obtain ⟨r3, rfl⟩ := hb1.ext; clear hb1) | (go_at_call 35; refine (has_any _ _ _).mono ?_; rintro e w' ⟨rfl, rfl⟩))
  refine wp_region_ret2 arrMat arrOrder (c0 := encM m) (c1 := encO o) (e0 := encM fun _ => 0#64) (e1 := encO fun _ => 0) (by rfl) (by rfl) (by rfl) (by rfl) ⟨by decide, by simp, by simp⟩ (by go_simp) (by go_simp) (by go_simp) (by go_simp) ⟨by omega, by omega, by omega⟩ (encM_size _) (encO_size _) (encM_size _) (encO_size _) (encM_all _) (encO_all _) ?_
  go_simp
  go_wp2
  exact bodyPost_ret (res_cct arrMat arrOrder (cs := encM m) (cs2 := encO o) rfl _ _ rfl rfl rfl (by go_simp) (by go_simp)) rfl ⟨rfl, (by repeat (first | exact Below.refl _ _ | assumption | refine Below.drew ?_ | refine Below.alloc ?_ (by first | omega | (simp; done) | (simp; omega)) _ | refine Below.extd ?_ (by first | omega | (simp; done) | (simp; omega)) _))⟩
end Go.Proofs.YteclmkmemecckaaDoor
