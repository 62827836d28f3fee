/-
  NARROWER THAN 'FOR EVERY INPUT', by the rows' own cells (each row's printed sentence says how): TopoKeeps: laid · TopoRows: laid · TopoAgain: laid · TopoSorted: laid · TopoRefuses: laid · PoolActs: laid · PoolGoes: laid · PoolNumbers: laid · PoolRoom: laid · PoolEdges: laid · PoolTime: laid.
  DERIVED. THE GIVEN ROWS OF THIS SEAT. 11 by the template 'for every input the law returns true; each argument reads behind the call as it read before'; 0 by the template 'total and deterministic' (their statements: YteclmkmemecckaaDoorTotals.lean).
  GIVEN WITH THE SEED: the statements are not yours to turn. If you find one false, say at which input.
  Laid BY PROGRAM, IN A SANDBOX (cutbox-rows.mjs): the forced cells as the released guide's own fill.sh prints them over the translation 2a9c667b5d69e39c… (all of the seat's roots in one cut). By AI agents, Wed Nov 11 2026. No macro, syntax, notation, axiom, sorry.
-/
import Derived.Test.YteclmkmemecckaaDoorChecked
import GoSem.Claim
import GoSem.ClaimJoined
import GoSem.ClaimMapViews
import Derived.JoinedTies
import Derived.KernelRfl
namespace Go.Proofs.YteclmkmemecckaaDoor
/- THE CELL 'sum', in the pinned program and in every row, IS THE sha256 OF THE DUMP (.gsa) THAT YteclmkmemecckaaDoorProg.lean LOADS. Nothing in Lean hashes anything: it is a label: what it is worth is what the hold of that sum in a sandbox is worth. -/
noncomputable def Tryd.pinned : Pinned := { name := "yteclmkmemecckaadoor", sum := "2a9c667b5d69e39c3e6e32311d4df3eb17d62d0b401c1ebb759183b7a9da0180", checked := Tryd.checked }
namespace Rows
def none {H : Type} : Left H := { results := [], args := [] }

/- WHAT THE LISTED PACKAGE-LEVEL VARIABLES READ AS WHEN THE CALL BEGINS. Each datum BY PROGRAM (the guide's laid-datum.mjs) off the statement by which the dump's own 'gosem.cut.vars' lays the variable. In a bare row this is a premise. The card (YteclmkmemecckaaDoorCards.lean) ties it to the program's text. -/
def laid_math_bits_deBruijn64tab {H : Type} : DataW H := .agg [.lit (.int .u8 0), .lit (.int .u8 1), .lit (.int .u8 56), .lit (.int .u8 2), .lit (.int .u8 57), .lit (.int .u8 49), .lit (.int .u8 28), .lit (.int .u8 3), .lit (.int .u8 61), .lit (.int .u8 58), .lit (.int .u8 42), .lit (.int .u8 50), .lit (.int .u8 38), .lit (.int .u8 29), .lit (.int .u8 17), .lit (.int .u8 4), .lit (.int .u8 62), .lit (.int .u8 47), .lit (.int .u8 59), .lit (.int .u8 36), .lit (.int .u8 45), .lit (.int .u8 43), .lit (.int .u8 51), .lit (.int .u8 22), .lit (.int .u8 53), .lit (.int .u8 39), .lit (.int .u8 33), .lit (.int .u8 30), .lit (.int .u8 24), .lit (.int .u8 18), .lit (.int .u8 12), .lit (.int .u8 5), .lit (.int .u8 63), .lit (.int .u8 55), .lit (.int .u8 48), .lit (.int .u8 27), .lit (.int .u8 60), .lit (.int .u8 41), .lit (.int .u8 37), .lit (.int .u8 16), .lit (.int .u8 46), .lit (.int .u8 35), .lit (.int .u8 44), .lit (.int .u8 21), .lit (.int .u8 52), .lit (.int .u8 32), .lit (.int .u8 23), .lit (.int .u8 11), .lit (.int .u8 54), .lit (.int .u8 26), .lit (.int .u8 40), .lit (.int .u8 15), .lit (.int .u8 34), .lit (.int .u8 20), .lit (.int .u8 31), .lit (.int .u8 10), .lit (.int .u8 25), .lit (.int .u8 14), .lit (.int .u8 19), .lit (.int .u8 9), .lit (.int .u8 13), .lit (.int .u8 8), .lit (.int .u8 7), .lit (.int .u8 6)]

/-- 'warpbeamlaw04.TopoKeeps': WHATEVER THE INPUT: true; the input reads as it did. -/
def topoKeepsSpec : ChangeSpec := { name := "topoKeeps", fn := fun _ => fun
  | [d1, d2] => { results := [.lit (.bool true)], args := [d1, d2] }
  | _ => none }
def topoKeepsRow : OpenClaim := { program := "yteclmkmemecckaadoor", sum := "2a9c667b5d69e39c3e6e32311d4df3eb17d62d0b401c1ebb759183b7a9da0180", func := "warpbeam/warpbeamlaw04.TopoKeeps", spec := "topoKeeps", unfollowed := true, recurses := true, named := ["math/bits.deBruijn64tab"], apart := false, laid := [("math/bits.deBruijn64tab", laid_math_bits_deBruijn64tab)] }
def TopoKeepsSaid : Prop := topoKeepsRow.holds Tryd.pinned (OpenSpec.ofChange topoKeepsSpec)

/-- ITS FALSE NEIGHBOUR: 'it returns false'. Refute it at one input. -/
def topoKeepsWrong : ChangeSpec := { name := "topoKeeps", fn := fun _ => fun
  | [d1, d2] => { results := [.lit (.bool false)], args := [d1, d2] }
  | _ => none }
def TopoKeepsWrongFalsely : Prop := topoKeepsRow.holds Tryd.pinned (OpenSpec.ofChange topoKeepsWrong)

/-- 'warpbeamlaw04.TopoRows': WHATEVER THE INPUT: true; the input reads as it did. -/
def topoRowsSpec : ChangeSpec := { name := "topoRows", fn := fun _ => fun
  | [d] => { results := [.lit (.bool true)], args := [d] }
  | _ => none }
def topoRowsRow : OpenClaim := { program := "yteclmkmemecckaadoor", sum := "2a9c667b5d69e39c3e6e32311d4df3eb17d62d0b401c1ebb759183b7a9da0180", func := "warpbeam/warpbeamlaw04.TopoRows", spec := "topoRows", unfollowed := true, recurses := true, named := ["math/bits.deBruijn64tab"], apart := false, laid := [("math/bits.deBruijn64tab", laid_math_bits_deBruijn64tab)] }
def TopoRowsSaid : Prop := topoRowsRow.holds Tryd.pinned (OpenSpec.ofChange topoRowsSpec)

/-- ITS FALSE NEIGHBOUR: 'it returns false'. Refute it at one input. -/
def topoRowsWrong : ChangeSpec := { name := "topoRows", fn := fun _ => fun
  | [d] => { results := [.lit (.bool false)], args := [d] }
  | _ => none }
def TopoRowsWrongFalsely : Prop := topoRowsRow.holds Tryd.pinned (OpenSpec.ofChange topoRowsWrong)

/-- 'warpbeamlaw04.TopoAgain': WHATEVER THE INPUT: true; the input reads as it did. -/
def topoAgainSpec : ChangeSpec := { name := "topoAgain", fn := fun _ => fun
  | [d1, d2] => { results := [.lit (.bool true)], args := [d1, d2] }
  | _ => none }
def topoAgainRow : OpenClaim := { program := "yteclmkmemecckaadoor", sum := "2a9c667b5d69e39c3e6e32311d4df3eb17d62d0b401c1ebb759183b7a9da0180", func := "warpbeam/warpbeamlaw04.TopoAgain", spec := "topoAgain", unfollowed := true, recurses := true, named := ["math/bits.deBruijn64tab"], apart := false, laid := [("math/bits.deBruijn64tab", laid_math_bits_deBruijn64tab)] }
def TopoAgainSaid : Prop := topoAgainRow.holds Tryd.pinned (OpenSpec.ofChange topoAgainSpec)

/-- ITS FALSE NEIGHBOUR: 'it returns false'. Refute it at one input. -/
def topoAgainWrong : ChangeSpec := { name := "topoAgain", fn := fun _ => fun
  | [d1, d2] => { results := [.lit (.bool false)], args := [d1, d2] }
  | _ => none }
def TopoAgainWrongFalsely : Prop := topoAgainRow.holds Tryd.pinned (OpenSpec.ofChange topoAgainWrong)

/-- 'warpbeamlaw04.TopoSorted': WHATEVER THE INPUT: true; the input reads as it did. -/
def topoSortedSpec : ChangeSpec := { name := "topoSorted", fn := fun _ => fun
  | [d1, d2] => { results := [.lit (.bool true)], args := [d1, d2] }
  | _ => none }
def topoSortedRow : OpenClaim := { program := "yteclmkmemecckaadoor", sum := "2a9c667b5d69e39c3e6e32311d4df3eb17d62d0b401c1ebb759183b7a9da0180", func := "warpbeam/warpbeamlaw04.TopoSorted", spec := "topoSorted", unfollowed := true, recurses := true, named := ["math/bits.deBruijn64tab"], apart := false, laid := [("math/bits.deBruijn64tab", laid_math_bits_deBruijn64tab)] }
def TopoSortedSaid : Prop := topoSortedRow.holds Tryd.pinned (OpenSpec.ofChange topoSortedSpec)

/-- ITS FALSE NEIGHBOUR: 'it returns false'. Refute it at one input. -/
def topoSortedWrong : ChangeSpec := { name := "topoSorted", fn := fun _ => fun
  | [d1, d2] => { results := [.lit (.bool false)], args := [d1, d2] }
  | _ => none }
def TopoSortedWrongFalsely : Prop := topoSortedRow.holds Tryd.pinned (OpenSpec.ofChange topoSortedWrong)

/-- 'warpbeamlaw04.TopoRefuses': WHATEVER THE INPUT: true; the input reads as it did. -/
def topoRefusesSpec : ChangeSpec := { name := "topoRefuses", fn := fun _ => fun
  | [d1, d2] => { results := [.lit (.bool true)], args := [d1, d2] }
  | _ => none }
def topoRefusesRow : OpenClaim := { program := "yteclmkmemecckaadoor", sum := "2a9c667b5d69e39c3e6e32311d4df3eb17d62d0b401c1ebb759183b7a9da0180", func := "warpbeam/warpbeamlaw04.TopoRefuses", spec := "topoRefuses", unfollowed := true, recurses := true, named := ["math/bits.deBruijn64tab"], apart := false, laid := [("math/bits.deBruijn64tab", laid_math_bits_deBruijn64tab)] }
def TopoRefusesSaid : Prop := topoRefusesRow.holds Tryd.pinned (OpenSpec.ofChange topoRefusesSpec)

/-- ITS FALSE NEIGHBOUR: 'it returns false'. Refute it at one input. -/
def topoRefusesWrong : ChangeSpec := { name := "topoRefuses", fn := fun _ => fun
  | [d1, d2] => { results := [.lit (.bool false)], args := [d1, d2] }
  | _ => none }
def TopoRefusesWrongFalsely : Prop := topoRefusesRow.holds Tryd.pinned (OpenSpec.ofChange topoRefusesWrong)

/-- 'warpbeamlaw05.PoolActs': WHATEVER THE INPUT: true; the input reads as it did. -/
def poolActsSpec : ChangeSpec := { name := "poolActs", fn := fun _ => fun
  | [d1, d2] => { results := [.lit (.bool true)], args := [d1, d2] }
  | _ => none }
def poolActsRow : OpenClaim := { program := "yteclmkmemecckaadoor", sum := "2a9c667b5d69e39c3e6e32311d4df3eb17d62d0b401c1ebb759183b7a9da0180", func := "warpbeam/warpbeamlaw05.PoolActs", spec := "poolActs", unfollowed := true, recurses := true, named := ["math/bits.deBruijn64tab"], apart := false, laid := [("math/bits.deBruijn64tab", laid_math_bits_deBruijn64tab)] }
def PoolActsSaid : Prop := poolActsRow.holds Tryd.pinned (OpenSpec.ofChange poolActsSpec)

/-- ITS FALSE NEIGHBOUR: 'it returns false'. Refute it at one input. -/
def poolActsWrong : ChangeSpec := { name := "poolActs", fn := fun _ => fun
  | [d1, d2] => { results := [.lit (.bool false)], args := [d1, d2] }
  | _ => none }
def PoolActsWrongFalsely : Prop := poolActsRow.holds Tryd.pinned (OpenSpec.ofChange poolActsWrong)

/-- 'warpbeamlaw05.PoolGoes': WHATEVER THE INPUT: true; the input reads as it did. -/
def poolGoesSpec : ChangeSpec := { name := "poolGoes", fn := fun _ => fun
  | [d1, d2] => { results := [.lit (.bool true)], args := [d1, d2] }
  | _ => none }
def poolGoesRow : OpenClaim := { program := "yteclmkmemecckaadoor", sum := "2a9c667b5d69e39c3e6e32311d4df3eb17d62d0b401c1ebb759183b7a9da0180", func := "warpbeam/warpbeamlaw05.PoolGoes", spec := "poolGoes", unfollowed := true, recurses := true, named := ["math/bits.deBruijn64tab"], apart := false, laid := [("math/bits.deBruijn64tab", laid_math_bits_deBruijn64tab)] }
def PoolGoesSaid : Prop := poolGoesRow.holds Tryd.pinned (OpenSpec.ofChange poolGoesSpec)

/-- ITS FALSE NEIGHBOUR: 'it returns false'. Refute it at one input. -/
def poolGoesWrong : ChangeSpec := { name := "poolGoes", fn := fun _ => fun
  | [d1, d2] => { results := [.lit (.bool false)], args := [d1, d2] }
  | _ => none }
def PoolGoesWrongFalsely : Prop := poolGoesRow.holds Tryd.pinned (OpenSpec.ofChange poolGoesWrong)

/-- 'warpbeamlaw05.PoolNumbers': WHATEVER THE INPUT: true; the input reads as it did. -/
def poolNumbersSpec : ChangeSpec := { name := "poolNumbers", fn := fun _ => fun
  | [d1, d2] => { results := [.lit (.bool true)], args := [d1, d2] }
  | _ => none }
def poolNumbersRow : OpenClaim := { program := "yteclmkmemecckaadoor", sum := "2a9c667b5d69e39c3e6e32311d4df3eb17d62d0b401c1ebb759183b7a9da0180", func := "warpbeam/warpbeamlaw05.PoolNumbers", spec := "poolNumbers", unfollowed := true, recurses := true, named := ["math/bits.deBruijn64tab"], apart := false, laid := [("math/bits.deBruijn64tab", laid_math_bits_deBruijn64tab)] }
def PoolNumbersSaid : Prop := poolNumbersRow.holds Tryd.pinned (OpenSpec.ofChange poolNumbersSpec)

/-- ITS FALSE NEIGHBOUR: 'it returns false'. Refute it at one input. -/
def poolNumbersWrong : ChangeSpec := { name := "poolNumbers", fn := fun _ => fun
  | [d1, d2] => { results := [.lit (.bool false)], args := [d1, d2] }
  | _ => none }
def PoolNumbersWrongFalsely : Prop := poolNumbersRow.holds Tryd.pinned (OpenSpec.ofChange poolNumbersWrong)

/-- 'warpbeamlaw05.PoolRoom': WHATEVER THE INPUT: true; the input reads as it did. -/
def poolRoomSpec : ChangeSpec := { name := "poolRoom", fn := fun _ => fun
  | [d1, d2] => { results := [.lit (.bool true)], args := [d1, d2] }
  | _ => none }
def poolRoomRow : OpenClaim := { program := "yteclmkmemecckaadoor", sum := "2a9c667b5d69e39c3e6e32311d4df3eb17d62d0b401c1ebb759183b7a9da0180", func := "warpbeam/warpbeamlaw05.PoolRoom", spec := "poolRoom", unfollowed := true, recurses := true, named := ["math/bits.deBruijn64tab"], apart := false, laid := [("math/bits.deBruijn64tab", laid_math_bits_deBruijn64tab)] }
def PoolRoomSaid : Prop := poolRoomRow.holds Tryd.pinned (OpenSpec.ofChange poolRoomSpec)

/-- ITS FALSE NEIGHBOUR: 'it returns false'. Refute it at one input. -/
def poolRoomWrong : ChangeSpec := { name := "poolRoom", fn := fun _ => fun
  | [d1, d2] => { results := [.lit (.bool false)], args := [d1, d2] }
  | _ => none }
def PoolRoomWrongFalsely : Prop := poolRoomRow.holds Tryd.pinned (OpenSpec.ofChange poolRoomWrong)

/-- 'warpbeamlaw05.PoolEdges': WHATEVER THE INPUT: true; the input reads as it did. -/
def poolEdgesSpec : ChangeSpec := { name := "poolEdges", fn := fun _ => fun
  | [d] => { results := [.lit (.bool true)], args := [d] }
  | _ => none }
def poolEdgesRow : OpenClaim := { program := "yteclmkmemecckaadoor", sum := "2a9c667b5d69e39c3e6e32311d4df3eb17d62d0b401c1ebb759183b7a9da0180", func := "warpbeam/warpbeamlaw05.PoolEdges", spec := "poolEdges", unfollowed := true, recurses := true, named := ["math/bits.deBruijn64tab"], apart := false, laid := [("math/bits.deBruijn64tab", laid_math_bits_deBruijn64tab)] }
def PoolEdgesSaid : Prop := poolEdgesRow.holds Tryd.pinned (OpenSpec.ofChange poolEdgesSpec)

/-- ITS FALSE NEIGHBOUR: 'it returns false'. Refute it at one input. -/
def poolEdgesWrong : ChangeSpec := { name := "poolEdges", fn := fun _ => fun
  | [d] => { results := [.lit (.bool false)], args := [d] }
  | _ => none }
def PoolEdgesWrongFalsely : Prop := poolEdgesRow.holds Tryd.pinned (OpenSpec.ofChange poolEdgesWrong)

/-- 'warpbeamlaw05.PoolTime': WHATEVER THE INPUT: true; the input reads as it did. -/
def poolTimeSpec : ChangeSpec := { name := "poolTime", fn := fun _ => fun
  | [d1, d2] => { results := [.lit (.bool true)], args := [d1, d2] }
  | _ => none }
def poolTimeRow : OpenClaim := { program := "yteclmkmemecckaadoor", sum := "2a9c667b5d69e39c3e6e32311d4df3eb17d62d0b401c1ebb759183b7a9da0180", func := "warpbeam/warpbeamlaw05.PoolTime", spec := "poolTime", unfollowed := true, recurses := true, named := ["math/bits.deBruijn64tab"], apart := false, laid := [("math/bits.deBruijn64tab", laid_math_bits_deBruijn64tab)] }
def PoolTimeSaid : Prop := poolTimeRow.holds Tryd.pinned (OpenSpec.ofChange poolTimeSpec)

/-- ITS FALSE NEIGHBOUR: 'it returns false'. Refute it at one input. -/
def poolTimeWrong : ChangeSpec := { name := "poolTime", fn := fun _ => fun
  | [d1, d2] => { results := [.lit (.bool false)], args := [d1, d2] }
  | _ => none }
def PoolTimeWrongFalsely : Prop := poolTimeRow.holds Tryd.pinned (OpenSpec.ofChange poolTimeWrong)

/- THE SECOND FORM. 'bulk': how many values and letters a reading holds, each counted each time it is reached (what is shared counts as often as it is met; a slice's spare places count too). A statement '..UptoSaid' is the law's where the arguments, and the package variables that the reading takes, are together of bulk at most 1048576: NARROWER than '..Said'. Prove '..Said' where nothing that the law and all that it calls make is longer than what came in: it says more and counts as full. Else prove '..UptoSaid'. A law counts once. -/
mutual
def uptoBulk {H : Type} : DataW H → Nat
  | .lit (.string bytes) => bytes.length + 1
  | .lit _ => 1
  | .nil => 1
  | .ptr d => uptoBulk d + 1
  | .slice elems spare => uptoBulkAll elems + uptoBulkAll spare + 1
  | .agg parts => uptoBulkAll parts + 1
  | .iface _ d => uptoBulk d + 1
  | .map entries => uptoBulkEntries entries + 1
  | .held _ => 1
def uptoBulkAll {H : Type} : List (DataW H) → Nat
  | [] => 0
  | d :: r => uptoBulk d + uptoBulkAll r
def uptoBulkEntries {H : Type} : List (Lit × DataW H) → Nat
  | [] => 0
  | x :: r => uptoBulkEntry x + uptoBulkEntries r
def uptoBulkEntry {H : Type} : Lit × DataW H → Nat
  | (.string bytes, d) => bytes.length + uptoBulk d + 1
  | (_, d) => uptoBulk d + 1
 end
def uptoSmall : (H : Type) → List (DataW H) → Bool := fun _ ds => decide (uptoBulkAll ds ≤ 1048576)
def OpenSpec.upto (s : _root_.Go.ChangeSpec) : _root_.Go.OpenSpec := { _root_.Go.OpenSpec.ofChange s with cond := some uptoSmall }

/-- 'warpbeamlaw04.TopoKeeps', WHERE WHAT IT READS IS OF BULK AT MOST 1048576: true; the input reads as it did. -/
def topoKeepsUptoRow : OpenClaim := { program := "yteclmkmemecckaadoor", sum := "2a9c667b5d69e39c3e6e32311d4df3eb17d62d0b401c1ebb759183b7a9da0180", func := "warpbeam/warpbeamlaw04.TopoKeeps", spec := "topoKeeps", unfollowed := true, recurses := true, named := ["math/bits.deBruijn64tab"], apart := false, laid := [("math/bits.deBruijn64tab", laid_math_bits_deBruijn64tab)], narrowed := true }
def TopoKeepsUptoSaid : Prop := topoKeepsUptoRow.holds Tryd.pinned (OpenSpec.upto topoKeepsSpec)

/-- 'warpbeamlaw04.TopoRows', WHERE WHAT IT READS IS OF BULK AT MOST 1048576: true; the input reads as it did. -/
def topoRowsUptoRow : OpenClaim := { program := "yteclmkmemecckaadoor", sum := "2a9c667b5d69e39c3e6e32311d4df3eb17d62d0b401c1ebb759183b7a9da0180", func := "warpbeam/warpbeamlaw04.TopoRows", spec := "topoRows", unfollowed := true, recurses := true, named := ["math/bits.deBruijn64tab"], apart := false, laid := [("math/bits.deBruijn64tab", laid_math_bits_deBruijn64tab)], narrowed := true }
def TopoRowsUptoSaid : Prop := topoRowsUptoRow.holds Tryd.pinned (OpenSpec.upto topoRowsSpec)

/-- 'warpbeamlaw04.TopoAgain', WHERE WHAT IT READS IS OF BULK AT MOST 1048576: true; the input reads as it did. -/
def topoAgainUptoRow : OpenClaim := { program := "yteclmkmemecckaadoor", sum := "2a9c667b5d69e39c3e6e32311d4df3eb17d62d0b401c1ebb759183b7a9da0180", func := "warpbeam/warpbeamlaw04.TopoAgain", spec := "topoAgain", unfollowed := true, recurses := true, named := ["math/bits.deBruijn64tab"], apart := false, laid := [("math/bits.deBruijn64tab", laid_math_bits_deBruijn64tab)], narrowed := true }
def TopoAgainUptoSaid : Prop := topoAgainUptoRow.holds Tryd.pinned (OpenSpec.upto topoAgainSpec)

/-- 'warpbeamlaw04.TopoSorted', WHERE WHAT IT READS IS OF BULK AT MOST 1048576: true; the input reads as it did. -/
def topoSortedUptoRow : OpenClaim := { program := "yteclmkmemecckaadoor", sum := "2a9c667b5d69e39c3e6e32311d4df3eb17d62d0b401c1ebb759183b7a9da0180", func := "warpbeam/warpbeamlaw04.TopoSorted", spec := "topoSorted", unfollowed := true, recurses := true, named := ["math/bits.deBruijn64tab"], apart := false, laid := [("math/bits.deBruijn64tab", laid_math_bits_deBruijn64tab)], narrowed := true }
def TopoSortedUptoSaid : Prop := topoSortedUptoRow.holds Tryd.pinned (OpenSpec.upto topoSortedSpec)

/-- 'warpbeamlaw04.TopoRefuses', WHERE WHAT IT READS IS OF BULK AT MOST 1048576: true; the input reads as it did. -/
def topoRefusesUptoRow : OpenClaim := { program := "yteclmkmemecckaadoor", sum := "2a9c667b5d69e39c3e6e32311d4df3eb17d62d0b401c1ebb759183b7a9da0180", func := "warpbeam/warpbeamlaw04.TopoRefuses", spec := "topoRefuses", unfollowed := true, recurses := true, named := ["math/bits.deBruijn64tab"], apart := false, laid := [("math/bits.deBruijn64tab", laid_math_bits_deBruijn64tab)], narrowed := true }
def TopoRefusesUptoSaid : Prop := topoRefusesUptoRow.holds Tryd.pinned (OpenSpec.upto topoRefusesSpec)

/-- 'warpbeamlaw05.PoolActs', WHERE WHAT IT READS IS OF BULK AT MOST 1048576: true; the input reads as it did. -/
def poolActsUptoRow : OpenClaim := { program := "yteclmkmemecckaadoor", sum := "2a9c667b5d69e39c3e6e32311d4df3eb17d62d0b401c1ebb759183b7a9da0180", func := "warpbeam/warpbeamlaw05.PoolActs", spec := "poolActs", unfollowed := true, recurses := true, named := ["math/bits.deBruijn64tab"], apart := false, laid := [("math/bits.deBruijn64tab", laid_math_bits_deBruijn64tab)], narrowed := true }
def PoolActsUptoSaid : Prop := poolActsUptoRow.holds Tryd.pinned (OpenSpec.upto poolActsSpec)

/-- 'warpbeamlaw05.PoolGoes', WHERE WHAT IT READS IS OF BULK AT MOST 1048576: true; the input reads as it did. -/
def poolGoesUptoRow : OpenClaim := { program := "yteclmkmemecckaadoor", sum := "2a9c667b5d69e39c3e6e32311d4df3eb17d62d0b401c1ebb759183b7a9da0180", func := "warpbeam/warpbeamlaw05.PoolGoes", spec := "poolGoes", unfollowed := true, recurses := true, named := ["math/bits.deBruijn64tab"], apart := false, laid := [("math/bits.deBruijn64tab", laid_math_bits_deBruijn64tab)], narrowed := true }
def PoolGoesUptoSaid : Prop := poolGoesUptoRow.holds Tryd.pinned (OpenSpec.upto poolGoesSpec)

/-- 'warpbeamlaw05.PoolNumbers', WHERE WHAT IT READS IS OF BULK AT MOST 1048576: true; the input reads as it did. -/
def poolNumbersUptoRow : OpenClaim := { program := "yteclmkmemecckaadoor", sum := "2a9c667b5d69e39c3e6e32311d4df3eb17d62d0b401c1ebb759183b7a9da0180", func := "warpbeam/warpbeamlaw05.PoolNumbers", spec := "poolNumbers", unfollowed := true, recurses := true, named := ["math/bits.deBruijn64tab"], apart := false, laid := [("math/bits.deBruijn64tab", laid_math_bits_deBruijn64tab)], narrowed := true }
def PoolNumbersUptoSaid : Prop := poolNumbersUptoRow.holds Tryd.pinned (OpenSpec.upto poolNumbersSpec)

/-- 'warpbeamlaw05.PoolRoom', WHERE WHAT IT READS IS OF BULK AT MOST 1048576: true; the input reads as it did. -/
def poolRoomUptoRow : OpenClaim := { program := "yteclmkmemecckaadoor", sum := "2a9c667b5d69e39c3e6e32311d4df3eb17d62d0b401c1ebb759183b7a9da0180", func := "warpbeam/warpbeamlaw05.PoolRoom", spec := "poolRoom", unfollowed := true, recurses := true, named := ["math/bits.deBruijn64tab"], apart := false, laid := [("math/bits.deBruijn64tab", laid_math_bits_deBruijn64tab)], narrowed := true }
def PoolRoomUptoSaid : Prop := poolRoomUptoRow.holds Tryd.pinned (OpenSpec.upto poolRoomSpec)

/-- 'warpbeamlaw05.PoolEdges', WHERE WHAT IT READS IS OF BULK AT MOST 1048576: true; the input reads as it did. -/
def poolEdgesUptoRow : OpenClaim := { program := "yteclmkmemecckaadoor", sum := "2a9c667b5d69e39c3e6e32311d4df3eb17d62d0b401c1ebb759183b7a9da0180", func := "warpbeam/warpbeamlaw05.PoolEdges", spec := "poolEdges", unfollowed := true, recurses := true, named := ["math/bits.deBruijn64tab"], apart := false, laid := [("math/bits.deBruijn64tab", laid_math_bits_deBruijn64tab)], narrowed := true }
def PoolEdgesUptoSaid : Prop := poolEdgesUptoRow.holds Tryd.pinned (OpenSpec.upto poolEdgesSpec)

/-- 'warpbeamlaw05.PoolTime', WHERE WHAT IT READS IS OF BULK AT MOST 1048576: true; the input reads as it did. -/
def poolTimeUptoRow : OpenClaim := { program := "yteclmkmemecckaadoor", sum := "2a9c667b5d69e39c3e6e32311d4df3eb17d62d0b401c1ebb759183b7a9da0180", func := "warpbeam/warpbeamlaw05.PoolTime", spec := "poolTime", unfollowed := true, recurses := true, named := ["math/bits.deBruijn64tab"], apart := false, laid := [("math/bits.deBruijn64tab", laid_math_bits_deBruijn64tab)], narrowed := true }
def PoolTimeUptoSaid : Prop := poolTimeUptoRow.holds Tryd.pinned (OpenSpec.upto poolTimeSpec)

end Rows
end Go.Proofs.YteclmkmemecckaaDoor
