/- TopoSorted: an order is sorted just if no edge goes down; the row of one goes by it. For every input; the arguments read as before. The listed table is the library's. -/
import Derived.Test.YteclmkmemecckaaDoorWsorted
import Derived.Test.YteclmkmemecckaaDoorRowE
namespace Go.Proofs.YteclmkmemecckaaDoor
open Go.ChangeShapes Go.WideShapes Go.ChangeAt Go.WideElems Go.RowKit Go.Deep Wb

set_option maxRecDepth 100000 in
theorem topoSorted_lifted (os : Os) (started : os.Started) (H : Type) (enc : TypeId × Value → H) :
    ReturnsInHanded {} Tryd.checked os 6 .any (fun w args => (Rows.topoSortedSpec.pre enc Tryd.prog Tryd.f6 [] false w args ∧ laidMetH Tryd.prog theTab w) ∧ sizedMet enc Tryd.prog Tryd.f6 (OpenSpec.ofChange Rows.topoSortedSpec) false w args)
      (Rows.topoSortedSpec.post enc Tryd.prog Tryd.f6 false true false false) := by
  refine law_lifted (enc := enc) os started Rows.topoSortedSpec 6 Tryd.f6 Tryd.func6 (by kernel_rfl) ?_ rfl rfl ?_
    (ChangeSpec.witness_shaped (enc := enc) (C := Tryd.checked) (os := os) (X := fun w _ => laidMetH Tryd.prog theTab w) false (World.doorLaid Tryd.prog 400 os) #[.agg #[.int .u64 0, .int .u64 0, .int .u64 0, .int .u64 0, .int .u64 0, .int .u64 0, .int .u64 0, .int .u64 0, .int .u64 0, .int .u64 0, .int .u64 0, .int .u64 0, .int .u64 0, .int .u64 0, .int .u64 0, .int .u64 0, .int .u64 0, .int .u64 0, .int .u64 0, .int .u64 0, .int .u64 0, .int .u64 0, .int .u64 0, .int .u64 0, .int .u64 0, .int .u64 0, .int .u64 0, .int .u64 0, .int .u64 0, .int .u64 0, .int .u64 0, .int .u64 0], .agg #[.int .i64 0, .int .i64 0, .int .i64 0, .int .i64 0, .int .i64 0, .int .i64 0, .int .i64 0, .int .i64 0, .int .i64 0, .int .i64 0, .int .i64 0, .int .i64 0, .int .i64 0, .int .i64 0, .int .i64 0, .int .i64 0, .int .i64 0, .int .i64 0, .int .i64 0, .int .i64 0, .int .i64 0, .int .i64 0, .int .i64 0, .int .i64 0, .int .i64 0, .int .i64 0, .int .i64 0, .int .i64 0, .int .i64 0, .int .i64 0, .int .i64 0, .int .i64 0]] 8 rfl (World.shaped_of_RefB (by kernel_rfl) (by kernel_rfl)) (by kernel_rfl) (by kernel_rfl) (by kernel_rfl) (door_met os _)) ?_
  · rw [Tryd.params6]
    intro t ht
    simp only [List.mem_cons, List.not_mem_nil, or_false] at ht
    rcases ht with rfl | rfl <;> exact ⟨by kernel_rfl, of_decide_eq_true (by kernel_rfl)⟩
  · intro ds hd
    rw [Tryd.params6] at hd
    match ds, hd with
    | [d0, d1], _ => rfl
  · intro W base args ds p hval hA hlt hT
    rw [Tryd.params6] at hA hval
    obtain ⟨v0, v1, d0, d1, p0, p1, rfl, rfl, rfl, h0, h1⟩ := trodAll_two hA
    obtain ⟨m, rfl⟩ := open_mat (hval 0 _ v0 rfl rfl) h0
    obtain ⟨o, rfl⟩ := open_order (hval 1 _ v1 rfl rfl) h1
    exact topoSorted_any m o W hT

theorem topoSorted_holds : Rows.TopoSortedSaid :=
  OpenClaim.holds_of_wide 6 Tryd.f6 rfl rfl rfl rfl rfl rfl rfl ⟨rfl, rfl, rfl, rfl, rfl⟩ rfl rfl rfl rfl rfl (by kernel_rfl) Tryd.func6 (by kernel_rfl)
    (of_decide_eq_true (by kernel_rfl)) (by unfold Func.isWrapper; rw [if_neg (of_decide_eq_false (by kernel_rfl))]; exact ⟨rfl, rfl⟩)
    (fun os started H enc _ => topoSorted_lifted os started H enc)

set_option maxRecDepth 100000 in
theorem topoSorted_card : Rows.TopoSortedCardSaid :=
  Claim7.holds_tied_plain_at .later [] [.data] true (true, Rows.topoSortedCard.stood.harness.2) false
    topoSorted_holds (fun _ h => by cases h) (by kernel_rfl) (fun _ h => by cases h) topoSorted_row_tie rfl ⟨rfl, rfl⟩ (by kernel_rfl) rfl
    (fun f fn hf hfn => by
      obtain rfl : f = 6 := Option.some.inj ((show Tryd.prog.funcNamed "warpbeam/warpbeamlaw04.TopoSorted" = some 6 by kernel_rfl).symm.trans hf) |>.symm
      obtain rfl : fn = Tryd.f6 := (Option.some.inj (Tryd.func6.symm.trans hfn)).symm
      exact ⟨by kernel_rfl, fun j t ht => by
        rw [Tryd.params6] at ht
        have h := List.mem_of_getElem? (show ([44, 36] : List Nat)[j]? = some t by simpa using ht)
        simp only [List.mem_cons, List.not_mem_nil, or_false] at h
        rcases h with rfl | rfl <;> exact (show Tryd.prog.wantsStandIn _ = false by kernel_rfl)⟩)
    (by kernel_rfl)
#print axioms topoSorted_card
end Go.Proofs.YteclmkmemecckaaDoor
