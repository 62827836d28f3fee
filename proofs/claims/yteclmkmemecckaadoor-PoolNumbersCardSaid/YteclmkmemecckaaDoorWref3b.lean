/- The walks of the reference of graphs: Outs, Cut, Put. -/
import Derived.Test.YteclmkmemecckaaDoorWref3
namespace Go.Proofs.YteclmkmemecckaaDoor
open Go.RowKit Wb
theorem low_part (s : S) : (sv s).tmod 4294967296 = sv (s &&& nodes) := by
  have h := sv_nonneg s
  rw [Int.tmod_eq_emod_of_nonneg h]
  unfold sv
  rw [BitVec.toNat_and]
  have : nodes.toNat = 2 ^ 32 - 1 := by decide
  rw [this, Nat.and_two_pow_sub_one_eq_mod]
  omega
set_option maxHeartbeats 1000000 in
theorem outsr_any (m : M) (a : Int) (w : World) :
    Calls Tryd.prog 84 #[.agg (encM m), .int .i64 a] w fun e w' => e = .returned (.int .u64 (sv (outs m a))) ∧ Below w.heap.size w w' := by
  cases hna : node a with
  | false =>
    have hp : Hid (outs m a = 0#64) := by show _ = _; unfold outs; rw [hna]; rfl
    have hn := Lib.hid hna
    clear hna
    go_enter Tryd.func84, Tryd.ntmps84
    go_wp2_with (first | (go_at_call 87; refine (noder_any _ _).mono ?_; rintro e w' ⟨rfl, rfl⟩; rw [hn.out]))
    go_ret
    exact ⟨by rw [hp.out]; rfl, below1 _ _⟩
  | true =>
    have hr : 0 ≤ a ∧ a < 32 := by rw [node_eq] at hna; simpa using hna
    obtain ⟨k, rfl⟩ : ∃ k : Nat, a = (k : Int) := ⟨a.toNat, by omega⟩
    have hk : k < 32 := by omega
    have hp : Hid (outs m k = m k &&& nodes) := by show _ = _; unfold outs; rw [hna]; simp
    have hn := Lib.hid hna
    have hlow := Lib.hid (low_part (m k))
    clear hr hna
    go_enter Tryd.func84, Tryd.ntmps84
    go_wp2_with (first | (go_at_call 87; refine (noder_any _ _).mono ?_; rintro e w' ⟨rfl, rfl⟩; rw [hn.out]))
    go_ret
    exact ⟨by rw [hp.out, ← hlow.out]; rfl, below1 _ _⟩
end Go.Proofs.YteclmkmemecckaaDoor
