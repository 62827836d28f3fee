/- Worlds that have grown: what a call that leaves all old memory alone leaves behind. -/
import Derived.Test.YteclmkmemecckaaDoorArr
import Derived.Deep.QuietTactic
import Derived.BigQuiet
namespace Go.Proofs.YteclmkmemecckaaDoor
open Go.RowKit Wb

/-- The world with new blocks, after some draws. -/
def ext (w : World) (r : Array Obj × Nat) : World := { w with heap := w.heap ++ r.1, drawn := r.2 }
@[go_sem] theorem lt_add_of (a b c : Nat) (h : a < b) : a < b + c := by omega
@[go_sem] theorem lt_g2 (a : Nat) : a < a + 1 + 1 := by omega
@[go_sem] theorem lt_g3 (a : Nat) : a < a + 1 + 1 + 1 := by omega
@[go_sem] theorem lt_g4 (a : Nat) : a < a + 1 + 1 + 1 + 1 := by omega
@[go_sem] theorem lt_g5 (a : Nat) : a < a + 1 + 1 + 1 + 1 + 1 := by omega
@[go_sem] theorem lt_g6 (a : Nat) : a < a + 1 + 1 + 1 + 1 + 1 + 1 := by omega
@[go_sem] theorem lt_g7 (a : Nat) : a < a + 1 + 1 + 1 + 1 + 1 + 1 + 1 := by omega
@[go_sem] theorem lt_g8 (a : Nat) : a < a + 1 + 1 + 1 + 1 + 1 + 1 + 1 + 1 := by omega
@[go_sem] theorem lt_g9 (a : Nat) : a < a + 1 + 1 + 1 + 1 + 1 + 1 + 1 + 1 + 1 := by omega
@[go_sem] theorem lt_g10 (a : Nat) : a < a + 1 + 1 + 1 + 1 + 1 + 1 + 1 + 1 + 1 + 1 := by omega
@[go_sem] theorem lt_g11 (a : Nat) : a < a + 1 + 1 + 1 + 1 + 1 + 1 + 1 + 1 + 1 + 1 + 1 := by omega
@[go_sem] theorem lt_g12 (a : Nat) : a < a + 1 + 1 + 1 + 1 + 1 + 1 + 1 + 1 + 1 + 1 + 1 + 1 := by omega
@[go_sem] theorem lt_g1r (a b : Nat) : a < a + 1 + b := by omega
@[go_sem] theorem lt_g1r1 (a b : Nat) : a < a + 1 + b + 1 := by omega
@[go_sem] theorem lt_g1r1s (a b c : Nat) : a < a + 1 + b + 1 + c := by omega
@[go_sem] theorem lt_g1r1s1 (a b c : Nat) : a < a + 1 + b + 1 + c + 1 := by omega
@[go_sem] theorem lt_g1r1s2 (a b c : Nat) : a < a + 1 + b + 1 + c + 1 + 1 := by omega
@[go_sem] theorem lt_g1r2 (a b : Nat) : a < a + 1 + b + 1 + 1 := by omega
@[go_sem] theorem lt_g1r2s (a b c : Nat) : a < a + 1 + b + 1 + 1 + c := by omega
@[go_sem] theorem lt_g1r2s1 (a b c : Nat) : a < a + 1 + b + 1 + 1 + c + 1 := by omega
@[go_sem] theorem lt_g1r2s2 (a b c : Nat) : a < a + 1 + b + 1 + 1 + c + 1 + 1 := by omega
@[go_sem] theorem lt_g1r3 (a b : Nat) : a < a + 1 + b + 1 + 1 + 1 := by omega
@[go_sem] theorem lt_g1r3s (a b c : Nat) : a < a + 1 + b + 1 + 1 + 1 + c := by omega
@[go_sem] theorem lt_g1r3s1 (a b c : Nat) : a < a + 1 + b + 1 + 1 + 1 + c + 1 := by omega
@[go_sem] theorem lt_g1r3s2 (a b c : Nat) : a < a + 1 + b + 1 + 1 + 1 + c + 1 + 1 := by omega
@[go_sem] theorem lt_g2r (a b : Nat) : a < a + 1 + 1 + b := by omega
@[go_sem] theorem lt_g2r1 (a b : Nat) : a < a + 1 + 1 + b + 1 := by omega
@[go_sem] theorem lt_g2r1s (a b c : Nat) : a < a + 1 + 1 + b + 1 + c := by omega
@[go_sem] theorem lt_g2r1s1 (a b c : Nat) : a < a + 1 + 1 + b + 1 + c + 1 := by omega
@[go_sem] theorem lt_g2r1s2 (a b c : Nat) : a < a + 1 + 1 + b + 1 + c + 1 + 1 := by omega
@[go_sem] theorem lt_g2r2 (a b : Nat) : a < a + 1 + 1 + b + 1 + 1 := by omega
@[go_sem] theorem lt_g2r2s (a b c : Nat) : a < a + 1 + 1 + b + 1 + 1 + c := by omega
@[go_sem] theorem lt_g2r2s1 (a b c : Nat) : a < a + 1 + 1 + b + 1 + 1 + c + 1 := by omega
@[go_sem] theorem lt_g2r2s2 (a b c : Nat) : a < a + 1 + 1 + b + 1 + 1 + c + 1 + 1 := by omega
@[go_sem] theorem lt_g2r3 (a b : Nat) : a < a + 1 + 1 + b + 1 + 1 + 1 := by omega
@[go_sem] theorem lt_g2r3s (a b c : Nat) : a < a + 1 + 1 + b + 1 + 1 + 1 + c := by omega
@[go_sem] theorem lt_g2r3s1 (a b c : Nat) : a < a + 1 + 1 + b + 1 + 1 + 1 + c + 1 := by omega
@[go_sem] theorem lt_g2r3s2 (a b c : Nat) : a < a + 1 + 1 + b + 1 + 1 + 1 + c + 1 + 1 := by omega
@[go_sem] theorem lt_g3r (a b : Nat) : a < a + 1 + 1 + 1 + b := by omega
@[go_sem] theorem lt_g3r1 (a b : Nat) : a < a + 1 + 1 + 1 + b + 1 := by omega
@[go_sem] theorem lt_g3r1s (a b c : Nat) : a < a + 1 + 1 + 1 + b + 1 + c := by omega
@[go_sem] theorem lt_g3r1s1 (a b c : Nat) : a < a + 1 + 1 + 1 + b + 1 + c + 1 := by omega
@[go_sem] theorem lt_g3r1s2 (a b c : Nat) : a < a + 1 + 1 + 1 + b + 1 + c + 1 + 1 := by omega
@[go_sem] theorem lt_g3r2 (a b : Nat) : a < a + 1 + 1 + 1 + b + 1 + 1 := by omega
@[go_sem] theorem lt_g3r2s (a b c : Nat) : a < a + 1 + 1 + 1 + b + 1 + 1 + c := by omega
@[go_sem] theorem lt_g3r2s1 (a b c : Nat) : a < a + 1 + 1 + 1 + b + 1 + 1 + c + 1 := by omega
@[go_sem] theorem lt_g3r2s2 (a b c : Nat) : a < a + 1 + 1 + 1 + b + 1 + 1 + c + 1 + 1 := by omega
@[go_sem] theorem lt_g3r3 (a b : Nat) : a < a + 1 + 1 + 1 + b + 1 + 1 + 1 := by omega
@[go_sem] theorem lt_g3r3s (a b c : Nat) : a < a + 1 + 1 + 1 + b + 1 + 1 + 1 + c := by omega
@[go_sem] theorem lt_g3r3s1 (a b c : Nat) : a < a + 1 + 1 + 1 + b + 1 + 1 + 1 + c + 1 := by omega
@[go_sem] theorem lt_g3r3s2 (a b c : Nat) : a < a + 1 + 1 + 1 + b + 1 + 1 + 1 + c + 1 + 1 := by omega
@[go_sem] theorem lt_g4r (a b : Nat) : a < a + 1 + 1 + 1 + 1 + b := by omega
@[go_sem] theorem lt_g4r1 (a b : Nat) : a < a + 1 + 1 + 1 + 1 + b + 1 := by omega
@[go_sem] theorem lt_g4r1s (a b c : Nat) : a < a + 1 + 1 + 1 + 1 + b + 1 + c := by omega
@[go_sem] theorem lt_g4r1s1 (a b c : Nat) : a < a + 1 + 1 + 1 + 1 + b + 1 + c + 1 := by omega
@[go_sem] theorem lt_g4r1s2 (a b c : Nat) : a < a + 1 + 1 + 1 + 1 + b + 1 + c + 1 + 1 := by omega
@[go_sem] theorem lt_g4r2 (a b : Nat) : a < a + 1 + 1 + 1 + 1 + b + 1 + 1 := by omega
@[go_sem] theorem lt_g4r2s (a b c : Nat) : a < a + 1 + 1 + 1 + 1 + b + 1 + 1 + c := by omega
@[go_sem] theorem lt_g4r2s1 (a b c : Nat) : a < a + 1 + 1 + 1 + 1 + b + 1 + 1 + c + 1 := by omega
@[go_sem] theorem lt_g4r2s2 (a b c : Nat) : a < a + 1 + 1 + 1 + 1 + b + 1 + 1 + c + 1 + 1 := by omega
@[go_sem] theorem lt_g4r3 (a b : Nat) : a < a + 1 + 1 + 1 + 1 + b + 1 + 1 + 1 := by omega
@[go_sem] theorem lt_g4r3s (a b c : Nat) : a < a + 1 + 1 + 1 + 1 + b + 1 + 1 + 1 + c := by omega
@[go_sem] theorem lt_g4r3s1 (a b c : Nat) : a < a + 1 + 1 + 1 + 1 + b + 1 + 1 + 1 + c + 1 := by omega
@[go_sem] theorem lt_g4r3s2 (a b c : Nat) : a < a + 1 + 1 + 1 + 1 + b + 1 + 1 + 1 + c + 1 + 1 := by omega
@[go_sem] theorem lt_g5r (a b : Nat) : a < a + 1 + 1 + 1 + 1 + 1 + b := by omega
@[go_sem] theorem lt_g5r1 (a b : Nat) : a < a + 1 + 1 + 1 + 1 + 1 + b + 1 := by omega
@[go_sem] theorem lt_g5r1s (a b c : Nat) : a < a + 1 + 1 + 1 + 1 + 1 + b + 1 + c := by omega
@[go_sem] theorem lt_g5r1s1 (a b c : Nat) : a < a + 1 + 1 + 1 + 1 + 1 + b + 1 + c + 1 := by omega
@[go_sem] theorem lt_g5r1s2 (a b c : Nat) : a < a + 1 + 1 + 1 + 1 + 1 + b + 1 + c + 1 + 1 := by omega
@[go_sem] theorem lt_g5r2 (a b : Nat) : a < a + 1 + 1 + 1 + 1 + 1 + b + 1 + 1 := by omega
@[go_sem] theorem lt_g5r2s (a b c : Nat) : a < a + 1 + 1 + 1 + 1 + 1 + b + 1 + 1 + c := by omega
@[go_sem] theorem lt_g5r2s1 (a b c : Nat) : a < a + 1 + 1 + 1 + 1 + 1 + b + 1 + 1 + c + 1 := by omega
@[go_sem] theorem lt_g5r2s2 (a b c : Nat) : a < a + 1 + 1 + 1 + 1 + 1 + b + 1 + 1 + c + 1 + 1 := by omega
@[go_sem] theorem lt_g5r3 (a b : Nat) : a < a + 1 + 1 + 1 + 1 + 1 + b + 1 + 1 + 1 := by omega
@[go_sem] theorem lt_g5r3s (a b c : Nat) : a < a + 1 + 1 + 1 + 1 + 1 + b + 1 + 1 + 1 + c := by omega
@[go_sem] theorem lt_g5r3s1 (a b c : Nat) : a < a + 1 + 1 + 1 + 1 + 1 + b + 1 + 1 + 1 + c + 1 := by omega
@[go_sem] theorem lt_g5r3s2 (a b c : Nat) : a < a + 1 + 1 + 1 + 1 + 1 + b + 1 + 1 + 1 + c + 1 + 1 := by omega
@[go_sem] theorem lt_g6r (a b : Nat) : a < a + 1 + 1 + 1 + 1 + 1 + 1 + b := by omega
@[go_sem] theorem lt_g6r1 (a b : Nat) : a < a + 1 + 1 + 1 + 1 + 1 + 1 + b + 1 := by omega
@[go_sem] theorem lt_g6r1s (a b c : Nat) : a < a + 1 + 1 + 1 + 1 + 1 + 1 + b + 1 + c := by omega
@[go_sem] theorem lt_g6r1s1 (a b c : Nat) : a < a + 1 + 1 + 1 + 1 + 1 + 1 + b + 1 + c + 1 := by omega
@[go_sem] theorem lt_g6r1s2 (a b c : Nat) : a < a + 1 + 1 + 1 + 1 + 1 + 1 + b + 1 + c + 1 + 1 := by omega
@[go_sem] theorem lt_g6r2 (a b : Nat) : a < a + 1 + 1 + 1 + 1 + 1 + 1 + b + 1 + 1 := by omega
@[go_sem] theorem lt_g6r2s (a b c : Nat) : a < a + 1 + 1 + 1 + 1 + 1 + 1 + b + 1 + 1 + c := by omega
@[go_sem] theorem lt_g6r2s1 (a b c : Nat) : a < a + 1 + 1 + 1 + 1 + 1 + 1 + b + 1 + 1 + c + 1 := by omega
@[go_sem] theorem lt_g6r2s2 (a b c : Nat) : a < a + 1 + 1 + 1 + 1 + 1 + 1 + b + 1 + 1 + c + 1 + 1 := by omega
@[go_sem] theorem lt_g6r3 (a b : Nat) : a < a + 1 + 1 + 1 + 1 + 1 + 1 + b + 1 + 1 + 1 := by omega
@[go_sem] theorem lt_g6r3s (a b c : Nat) : a < a + 1 + 1 + 1 + 1 + 1 + 1 + b + 1 + 1 + 1 + c := by omega
@[go_sem] theorem lt_g6r3s1 (a b c : Nat) : a < a + 1 + 1 + 1 + 1 + 1 + 1 + b + 1 + 1 + 1 + c + 1 := by omega
@[go_sem] theorem lt_g6r3s2 (a b c : Nat) : a < a + 1 + 1 + 1 + 1 + 1 + 1 + b + 1 + 1 + 1 + c + 1 + 1 := by omega
@[go_sem] theorem lt_g7r (a b : Nat) : a < a + 1 + 1 + 1 + 1 + 1 + 1 + 1 + b := by omega
@[go_sem] theorem lt_g7r1 (a b : Nat) : a < a + 1 + 1 + 1 + 1 + 1 + 1 + 1 + b + 1 := by omega
@[go_sem] theorem lt_g7r1s (a b c : Nat) : a < a + 1 + 1 + 1 + 1 + 1 + 1 + 1 + b + 1 + c := by omega
@[go_sem] theorem lt_g7r1s1 (a b c : Nat) : a < a + 1 + 1 + 1 + 1 + 1 + 1 + 1 + b + 1 + c + 1 := by omega
@[go_sem] theorem lt_g7r1s2 (a b c : Nat) : a < a + 1 + 1 + 1 + 1 + 1 + 1 + 1 + b + 1 + c + 1 + 1 := by omega
@[go_sem] theorem lt_g7r2 (a b : Nat) : a < a + 1 + 1 + 1 + 1 + 1 + 1 + 1 + b + 1 + 1 := by omega
@[go_sem] theorem lt_g7r2s (a b c : Nat) : a < a + 1 + 1 + 1 + 1 + 1 + 1 + 1 + b + 1 + 1 + c := by omega
@[go_sem] theorem lt_g7r2s1 (a b c : Nat) : a < a + 1 + 1 + 1 + 1 + 1 + 1 + 1 + b + 1 + 1 + c + 1 := by omega
@[go_sem] theorem lt_g7r2s2 (a b c : Nat) : a < a + 1 + 1 + 1 + 1 + 1 + 1 + 1 + b + 1 + 1 + c + 1 + 1 := by omega
@[go_sem] theorem lt_g7r3 (a b : Nat) : a < a + 1 + 1 + 1 + 1 + 1 + 1 + 1 + b + 1 + 1 + 1 := by omega
@[go_sem] theorem lt_g7r3s (a b c : Nat) : a < a + 1 + 1 + 1 + 1 + 1 + 1 + 1 + b + 1 + 1 + 1 + c := by omega
@[go_sem] theorem lt_g7r3s1 (a b c : Nat) : a < a + 1 + 1 + 1 + 1 + 1 + 1 + 1 + b + 1 + 1 + 1 + c + 1 := by omega
@[go_sem] theorem lt_g7r3s2 (a b c : Nat) : a < a + 1 + 1 + 1 + 1 + 1 + 1 + 1 + b + 1 + 1 + 1 + c + 1 + 1 := by omega
@[go_sem] theorem lt_g8r (a b : Nat) : a < a + 1 + 1 + 1 + 1 + 1 + 1 + 1 + 1 + b := by omega
@[go_sem] theorem lt_g8r1 (a b : Nat) : a < a + 1 + 1 + 1 + 1 + 1 + 1 + 1 + 1 + b + 1 := by omega
@[go_sem] theorem lt_g8r1s (a b c : Nat) : a < a + 1 + 1 + 1 + 1 + 1 + 1 + 1 + 1 + b + 1 + c := by omega
@[go_sem] theorem lt_g8r1s1 (a b c : Nat) : a < a + 1 + 1 + 1 + 1 + 1 + 1 + 1 + 1 + b + 1 + c + 1 := by omega
@[go_sem] theorem lt_g8r1s2 (a b c : Nat) : a < a + 1 + 1 + 1 + 1 + 1 + 1 + 1 + 1 + b + 1 + c + 1 + 1 := by omega
@[go_sem] theorem lt_g8r2 (a b : Nat) : a < a + 1 + 1 + 1 + 1 + 1 + 1 + 1 + 1 + b + 1 + 1 := by omega
@[go_sem] theorem lt_g8r2s (a b c : Nat) : a < a + 1 + 1 + 1 + 1 + 1 + 1 + 1 + 1 + b + 1 + 1 + c := by omega
@[go_sem] theorem lt_g8r2s1 (a b c : Nat) : a < a + 1 + 1 + 1 + 1 + 1 + 1 + 1 + 1 + b + 1 + 1 + c + 1 := by omega
@[go_sem] theorem lt_g8r2s2 (a b c : Nat) : a < a + 1 + 1 + 1 + 1 + 1 + 1 + 1 + 1 + b + 1 + 1 + c + 1 + 1 := by omega
@[go_sem] theorem lt_g8r3 (a b : Nat) : a < a + 1 + 1 + 1 + 1 + 1 + 1 + 1 + 1 + b + 1 + 1 + 1 := by omega
@[go_sem] theorem lt_g8r3s (a b c : Nat) : a < a + 1 + 1 + 1 + 1 + 1 + 1 + 1 + 1 + b + 1 + 1 + 1 + c := by omega
@[go_sem] theorem lt_g8r3s1 (a b c : Nat) : a < a + 1 + 1 + 1 + 1 + 1 + 1 + 1 + 1 + b + 1 + 1 + 1 + c + 1 := by omega
@[go_sem] theorem lt_g8r3s2 (a b c : Nat) : a < a + 1 + 1 + 1 + 1 + 1 + 1 + 1 + 1 + b + 1 + 1 + 1 + c + 1 + 1 := by omega
@[go_sem] theorem lt_g9r (a b : Nat) : a < a + 1 + 1 + 1 + 1 + 1 + 1 + 1 + 1 + 1 + b := by omega
@[go_sem] theorem lt_g9r1 (a b : Nat) : a < a + 1 + 1 + 1 + 1 + 1 + 1 + 1 + 1 + 1 + b + 1 := by omega
@[go_sem] theorem lt_g9r1s (a b c : Nat) : a < a + 1 + 1 + 1 + 1 + 1 + 1 + 1 + 1 + 1 + b + 1 + c := by omega
@[go_sem] theorem lt_g9r1s1 (a b c : Nat) : a < a + 1 + 1 + 1 + 1 + 1 + 1 + 1 + 1 + 1 + b + 1 + c + 1 := by omega
@[go_sem] theorem lt_g9r1s2 (a b c : Nat) : a < a + 1 + 1 + 1 + 1 + 1 + 1 + 1 + 1 + 1 + b + 1 + c + 1 + 1 := by omega
@[go_sem] theorem lt_g9r2 (a b : Nat) : a < a + 1 + 1 + 1 + 1 + 1 + 1 + 1 + 1 + 1 + b + 1 + 1 := by omega
@[go_sem] theorem lt_g9r2s (a b c : Nat) : a < a + 1 + 1 + 1 + 1 + 1 + 1 + 1 + 1 + 1 + b + 1 + 1 + c := by omega
@[go_sem] theorem lt_g9r2s1 (a b c : Nat) : a < a + 1 + 1 + 1 + 1 + 1 + 1 + 1 + 1 + 1 + b + 1 + 1 + c + 1 := by omega
@[go_sem] theorem lt_g9r2s2 (a b c : Nat) : a < a + 1 + 1 + 1 + 1 + 1 + 1 + 1 + 1 + 1 + b + 1 + 1 + c + 1 + 1 := by omega
@[go_sem] theorem lt_g9r3 (a b : Nat) : a < a + 1 + 1 + 1 + 1 + 1 + 1 + 1 + 1 + 1 + b + 1 + 1 + 1 := by omega
@[go_sem] theorem lt_g9r3s (a b c : Nat) : a < a + 1 + 1 + 1 + 1 + 1 + 1 + 1 + 1 + 1 + b + 1 + 1 + 1 + c := by omega
@[go_sem] theorem lt_g9r3s1 (a b c : Nat) : a < a + 1 + 1 + 1 + 1 + 1 + 1 + 1 + 1 + 1 + b + 1 + 1 + 1 + c + 1 := by omega
@[go_sem] theorem lt_g9r3s2 (a b c : Nat) : a < a + 1 + 1 + 1 + 1 + 1 + 1 + 1 + 1 + 1 + b + 1 + 1 + 1 + c + 1 + 1 := by omega
@[go_sem] theorem lt_g10r (a b : Nat) : a < a + 1 + 1 + 1 + 1 + 1 + 1 + 1 + 1 + 1 + 1 + b := by omega
@[go_sem] theorem lt_g10r1 (a b : Nat) : a < a + 1 + 1 + 1 + 1 + 1 + 1 + 1 + 1 + 1 + 1 + b + 1 := by omega
@[go_sem] theorem lt_g10r1s (a b c : Nat) : a < a + 1 + 1 + 1 + 1 + 1 + 1 + 1 + 1 + 1 + 1 + b + 1 + c := by omega
@[go_sem] theorem lt_g10r1s1 (a b c : Nat) : a < a + 1 + 1 + 1 + 1 + 1 + 1 + 1 + 1 + 1 + 1 + b + 1 + c + 1 := by omega
@[go_sem] theorem lt_g10r1s2 (a b c : Nat) : a < a + 1 + 1 + 1 + 1 + 1 + 1 + 1 + 1 + 1 + 1 + b + 1 + c + 1 + 1 := by omega
@[go_sem] theorem lt_g10r2 (a b : Nat) : a < a + 1 + 1 + 1 + 1 + 1 + 1 + 1 + 1 + 1 + 1 + b + 1 + 1 := by omega
@[go_sem] theorem lt_g10r2s (a b c : Nat) : a < a + 1 + 1 + 1 + 1 + 1 + 1 + 1 + 1 + 1 + 1 + b + 1 + 1 + c := by omega
@[go_sem] theorem lt_g10r2s1 (a b c : Nat) : a < a + 1 + 1 + 1 + 1 + 1 + 1 + 1 + 1 + 1 + 1 + b + 1 + 1 + c + 1 := by omega
@[go_sem] theorem lt_g10r2s2 (a b c : Nat) : a < a + 1 + 1 + 1 + 1 + 1 + 1 + 1 + 1 + 1 + 1 + b + 1 + 1 + c + 1 + 1 := by omega
@[go_sem] theorem lt_g10r3 (a b : Nat) : a < a + 1 + 1 + 1 + 1 + 1 + 1 + 1 + 1 + 1 + 1 + b + 1 + 1 + 1 := by omega
@[go_sem] theorem lt_g10r3s (a b c : Nat) : a < a + 1 + 1 + 1 + 1 + 1 + 1 + 1 + 1 + 1 + 1 + b + 1 + 1 + 1 + c := by omega
@[go_sem] theorem lt_g10r3s1 (a b c : Nat) : a < a + 1 + 1 + 1 + 1 + 1 + 1 + 1 + 1 + 1 + 1 + b + 1 + 1 + 1 + c + 1 := by omega
@[go_sem] theorem lt_g10r3s2 (a b c : Nat) : a < a + 1 + 1 + 1 + 1 + 1 + 1 + 1 + 1 + 1 + 1 + b + 1 + 1 + 1 + c + 1 + 1 := by omega
@[go_sem] theorem lt_g11r (a b : Nat) : a < a + 1 + 1 + 1 + 1 + 1 + 1 + 1 + 1 + 1 + 1 + 1 + b := by omega
@[go_sem] theorem lt_g11r1 (a b : Nat) : a < a + 1 + 1 + 1 + 1 + 1 + 1 + 1 + 1 + 1 + 1 + 1 + b + 1 := by omega
@[go_sem] theorem lt_g11r1s (a b c : Nat) : a < a + 1 + 1 + 1 + 1 + 1 + 1 + 1 + 1 + 1 + 1 + 1 + b + 1 + c := by omega
@[go_sem] theorem lt_g11r1s1 (a b c : Nat) : a < a + 1 + 1 + 1 + 1 + 1 + 1 + 1 + 1 + 1 + 1 + 1 + b + 1 + c + 1 := by omega
@[go_sem] theorem lt_g11r1s2 (a b c : Nat) : a < a + 1 + 1 + 1 + 1 + 1 + 1 + 1 + 1 + 1 + 1 + 1 + b + 1 + c + 1 + 1 := by omega
@[go_sem] theorem lt_g11r2 (a b : Nat) : a < a + 1 + 1 + 1 + 1 + 1 + 1 + 1 + 1 + 1 + 1 + 1 + b + 1 + 1 := by omega
@[go_sem] theorem lt_g11r2s (a b c : Nat) : a < a + 1 + 1 + 1 + 1 + 1 + 1 + 1 + 1 + 1 + 1 + 1 + b + 1 + 1 + c := by omega
@[go_sem] theorem lt_g11r2s1 (a b c : Nat) : a < a + 1 + 1 + 1 + 1 + 1 + 1 + 1 + 1 + 1 + 1 + 1 + b + 1 + 1 + c + 1 := by omega
@[go_sem] theorem lt_g11r2s2 (a b c : Nat) : a < a + 1 + 1 + 1 + 1 + 1 + 1 + 1 + 1 + 1 + 1 + 1 + b + 1 + 1 + c + 1 + 1 := by omega
@[go_sem] theorem lt_g11r3 (a b : Nat) : a < a + 1 + 1 + 1 + 1 + 1 + 1 + 1 + 1 + 1 + 1 + 1 + b + 1 + 1 + 1 := by omega
@[go_sem] theorem lt_g11r3s (a b c : Nat) : a < a + 1 + 1 + 1 + 1 + 1 + 1 + 1 + 1 + 1 + 1 + 1 + b + 1 + 1 + 1 + c := by omega
@[go_sem] theorem lt_g11r3s1 (a b c : Nat) : a < a + 1 + 1 + 1 + 1 + 1 + 1 + 1 + 1 + 1 + 1 + 1 + b + 1 + 1 + 1 + c + 1 := by omega
@[go_sem] theorem lt_g11r3s2 (a b c : Nat) : a < a + 1 + 1 + 1 + 1 + 1 + 1 + 1 + 1 + 1 + 1 + 1 + b + 1 + 1 + 1 + c + 1 + 1 := by omega
@[go_sem] theorem lt_g12r (a b : Nat) : a < a + 1 + 1 + 1 + 1 + 1 + 1 + 1 + 1 + 1 + 1 + 1 + 1 + b := by omega
@[go_sem] theorem lt_g12r1 (a b : Nat) : a < a + 1 + 1 + 1 + 1 + 1 + 1 + 1 + 1 + 1 + 1 + 1 + 1 + b + 1 := by omega
@[go_sem] theorem lt_g12r1s (a b c : Nat) : a < a + 1 + 1 + 1 + 1 + 1 + 1 + 1 + 1 + 1 + 1 + 1 + 1 + b + 1 + c := by omega
@[go_sem] theorem lt_g12r1s1 (a b c : Nat) : a < a + 1 + 1 + 1 + 1 + 1 + 1 + 1 + 1 + 1 + 1 + 1 + 1 + b + 1 + c + 1 := by omega
@[go_sem] theorem lt_g12r1s2 (a b c : Nat) : a < a + 1 + 1 + 1 + 1 + 1 + 1 + 1 + 1 + 1 + 1 + 1 + 1 + b + 1 + c + 1 + 1 := by omega
@[go_sem] theorem lt_g12r2 (a b : Nat) : a < a + 1 + 1 + 1 + 1 + 1 + 1 + 1 + 1 + 1 + 1 + 1 + 1 + b + 1 + 1 := by omega
@[go_sem] theorem lt_g12r2s (a b c : Nat) : a < a + 1 + 1 + 1 + 1 + 1 + 1 + 1 + 1 + 1 + 1 + 1 + 1 + b + 1 + 1 + c := by omega
@[go_sem] theorem lt_g12r2s1 (a b c : Nat) : a < a + 1 + 1 + 1 + 1 + 1 + 1 + 1 + 1 + 1 + 1 + 1 + 1 + b + 1 + 1 + c + 1 := by omega
@[go_sem] theorem lt_g12r2s2 (a b c : Nat) : a < a + 1 + 1 + 1 + 1 + 1 + 1 + 1 + 1 + 1 + 1 + 1 + 1 + b + 1 + 1 + c + 1 + 1 := by omega
@[go_sem] theorem lt_g12r3 (a b : Nat) : a < a + 1 + 1 + 1 + 1 + 1 + 1 + 1 + 1 + 1 + 1 + 1 + 1 + b + 1 + 1 + 1 := by omega
@[go_sem] theorem lt_g12r3s (a b c : Nat) : a < a + 1 + 1 + 1 + 1 + 1 + 1 + 1 + 1 + 1 + 1 + 1 + 1 + b + 1 + 1 + 1 + c := by omega
@[go_sem] theorem lt_g12r3s1 (a b c : Nat) : a < a + 1 + 1 + 1 + 1 + 1 + 1 + 1 + 1 + 1 + 1 + 1 + 1 + b + 1 + 1 + 1 + c + 1 := by omega
@[go_sem] theorem lt_g12r3s2 (a b c : Nat) : a < a + 1 + 1 + 1 + 1 + 1 + 1 + 1 + 1 + 1 + 1 + 1 + 1 + b + 1 + 1 + 1 + c + 1 + 1 := by omega
section
variable (w : World) (r : Array Obj × Nat)
@[go_sem, simp] theorem ext_size : (ext w r).heap.size = w.heap.size + r.1.size := by simp [ext]
@[go_sem] theorem ext_heap (n : Nat) (h : n < w.heap.size) : (ext w r).heap[n]? = w.heap[n]? := by
  simp only [ext]; rw [Array.getElem?_append, if_pos h]
@[go_sem] theorem ext_row? (n : Nat) (h : n < w.heap.size) : row? (ext w r) n = row? w n := row?_heap (ext_heap w r n h)
@[go_sem] theorem ext_cell? (n i : Nat) (h : n < w.heap.size) : (ext w r).cell? ⟨n, i, none⟩ = w.cell? ⟨n, i, none⟩ := World.cell?_of_block (ext_heap w r n h)
@[go_sem] theorem ext_frozen? (n i : Nat) (h : n < w.heap.size) : (ext w r).frozen? ⟨n, i, none⟩ = w.frozen? ⟨n, i, none⟩ := World.frozen?_of_block (ext_heap w r n h)
@[go_sem] theorem ext_setRow (n : Nat) (cs : Array Value) (h : n < w.heap.size) : (ext w r).setRow n cs = ext (w.setRow n cs) r := by
  unfold ext World.setRow
  congr 1
  apply Array.ext_getElem?
  intro k
  simp only [Array.getElem?_modify, Array.getElem?_append, Array.size_modify]
  by_cases hk : k < w.heap.size
  · simp [hk]
  · have : n ≠ k := by omega
    simp [hk, this]
@[go_sem] theorem ext_setCell (n i : Nat) (v : Value) (h : n < w.heap.size) : (ext w r).setCell ⟨n, i, none⟩ v = ext (w.setCell ⟨n, i, none⟩ v) r := by
  unfold ext World.setCell
  congr 1
  apply Array.ext_getElem?
  intro k
  simp only [Array.getElem?_modify, Array.getElem?_append, Array.size_modify]
  by_cases hk : k < w.heap.size
  · simp [hk]
  · have : n ≠ k := by omega
    simp [hk, this]
@[go_sem] theorem ext_drew : (ext w r).drew = ext w (r.1, r.2 + 1) := rfl
@[go_sem] theorem drew_ext : ext w.drew r = ext w r := rfl
@[go_sem] theorem ext_ext (r2 : Array Obj × Nat) : ext (ext w r) r2 = ext w (r.1 ++ r2.1, r2.2) := by
  unfold ext; simp [Array.append_assoc]
theorem drew_is_ext : w.drew = ext w (#[], w.drawn + 1) := by simp only [ext, Array.append_empty]; rfl
theorem drewN_is_ext (n : Nat) : w.drewN n = ext w (#[], w.drawn + n) := by simp only [ext, Array.append_empty]; rfl
theorem alloc_is_ext (o : Obj) : w.alloc o = ext w (#[o], w.drawn) := by unfold ext World.alloc; congr 1
theorem self_is_ext : w = ext w (#[], w.drawn) := by simp [ext]
theorem ext_below : Below w.heap.size w (ext w r) := ⟨rfl, rfl, rfl, by simp [ext], fun k hk => ext_heap w r k hk⟩
end
theorem _root_.Go.RowKit.Below.ext {w w' : World} (h : Below w.heap.size w w') : ∃ r, w' = ext w r := by
  refine ⟨(w'.heap.extract w.heap.size w'.heap.size, w'.drawn), ?_⟩
  obtain ⟨h1, h2, h3, h4, h5⟩ := h
  unfold Go.Proofs.YteclmkmemecckaaDoor.ext
  obtain ⟨heap, tape, drawn, os, output⟩ := w
  obtain ⟨heap', tape', drawn', os', output'⟩ := w'
  simp only at h1 h2 h3 h4 h5 ⊢
  subst h1 h2 h3
  congr 1
  apply Array.ext_getElem?
  intro k
  rw [Array.getElem?_append]
  split
  · rename_i hk; exact h5 k hk
  · rename_i hk
    rw [Array.getElem?_extract]
    split
    · congr 1; omega
    · rw [Array.getElem?_eq_none]; omega
theorem _root_.Go.RowKit.Below.extd {B : Nat} {w0 w : World} (h : Below B w0 w) (hB : B ≤ w.heap.size) (r : Array Obj × Nat) : Below B w0 (Go.Proofs.YteclmkmemecckaaDoor.ext w r) := h.trans ((ext_below w r).mono hB)
theorem Tab.ext {w : World} (h : Tab w) (r : Array Obj × Nat) : Tab (ext w r) := h.next (ext_below w r)

/-! ### a region that draws its order; its calls may make new blocks, and tell plain values -/
theorem wp_region_ext {P : Program} {id : Nat} {Q : Exit → Act → World → Prop} {a : Act} {w : World} {l : List Oper} (hm : P.follows .mixedOrders = true) (hB : Region.lexB .any l.toArray = true)
    (h : wpQuiet P l.toArray (fun w' => ∃ r, w' = ext w r) (fun a' => ∀ w', (∃ r, w' = ext w r) → Q .normal a' w') l a) : (Code.region id l.toArray true).wp P Q a w :=
  wp_region_quiet (C := fun w' => ∃ r, w' = ext w r) hm hB ⟨(#[], w.drawn + 1), by simp [ext]⟩ (by simpa using h)
theorem Calls.ext_of {P : Program} {f : FuncId} {args : Array Value} {w : World} {r : Array Obj × Nat} {v : Value}
    (h : Calls P f args (ext w r) fun e w' => e = .returned v ∧ Below (ext w r).heap.size (ext w r) w') : Calls P f args (ext w r) fun e w'' => e = .returned v ∧ ∃ r, w'' = ext w r :=
  h.mono fun _ _ ⟨he, hb⟩ => ⟨he, by obtain ⟨r2, rfl⟩ := hb.ext; exact ⟨_, ext_ext w r r2⟩⟩
theorem Calls.ext_same {P : Program} {f : FuncId} {args : Array Value} {w : World} {r : Array Obj × Nat} {v : Value}
    (h : Calls P f args (ext w r) fun e w' => ext w r = w' ∧ e = .returned v) : Calls P f args (ext w r) fun e w'' => e = .returned v ∧ ∃ r, w'' = ext w r :=
  h.mono fun _ _ ⟨hw, he⟩ => ⟨he, r, hw.symm⟩
end Go.Proofs.YteclmkmemecckaaDoor
