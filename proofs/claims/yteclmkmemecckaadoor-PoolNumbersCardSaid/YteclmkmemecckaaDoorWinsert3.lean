/- The walk of topo.Insert, all its ends joined. -/
import Derived.Test.YteclmkmemecckaaDoorWinsert2
import Derived.Test.YteclmkmemecckaaDoorTopo4
namespace Go.Proofs.YteclmkmemecckaaDoor
open Go.RowKit Wb

theorem insert_any (m : M) (o : O) (a b : Int) (w : World) (hT : Tab w) :
    Calls Tryd.prog 16 #[.agg (encM m), .agg (encO o), .int .i64 a, .int .i64 b] w (InsRet (insert m o a b).1 (insert m o a b).2.1 (insert m o a b).2.2 w) := by
  rcases insert_cases m o a b with ⟨h, e⟩ | ⟨hp, hs, hl, e⟩ | ⟨hp, hs, hl, hf, e⟩ | ⟨hp, hs, hl, hf, e⟩
  · rw [e]
    cases hp : (put m a b).2 with
    | false => exact insert_no1 m o a b w hp
    | true =>
      rcases h with h | h
      · rw [hp] at h; cases h
      · exact insert_no2 m o a b w hT hp h
  all_goals
    rw [e]
    obtain ⟨ha, hb, hne⟩ := put_ok hp
    obtain ⟨p, rfl⟩ : ∃ p : Nat, a = (p : Int) := ⟨a.toNat, by omega⟩
    obtain ⟨r, rfl⟩ : ∃ r : Nat, b = (r : Int) := ⟨b.toNat, by omega⟩
  · exact insert_up m o p r (by omega) (by omega) w hT hp hs hl
  · exact insert_cycle m o p r (by omega) (by omega) w hT hp hs hl hf
  · exact insert_turn m o p r (by omega) (by omega) w hT hp hs hl hf (turn_of hs hp hl hf).len
end Go.Proofs.YteclmkmemecckaaDoor
