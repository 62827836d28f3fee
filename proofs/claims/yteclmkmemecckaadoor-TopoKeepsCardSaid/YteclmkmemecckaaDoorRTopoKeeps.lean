/- TopoKeeps: nodes whose places are not between those of both ends keep theirs, and those that are stay between. For every input; the arguments read as before. The listed table is the library's. -/
import Derived.Test.YteclmkmemecckaaDoorWkeeps
import Derived.Test.YteclmkmemecckaaDoorRowE
namespace Go.Proofs.YteclmkmemecckaaDoor
open Go.ChangeShapes Go.WideShapes Go.ChangeAt Go.WideElems Go.RowKit Go.Deep Wb

set_option maxRecDepth 100000 in
theorem topoKeeps_lifted (os : Os) (started : os.Started) (H : Type) (enc : TypeId × Value → H) :
    ReturnsInHanded {} Tryd.checked os 3 .any (fun w args => (Rows.topoKeepsSpec.pre enc Tryd.prog Tryd.f3 [] false w args ∧ laidMetH Tryd.prog theTab w) ∧ sizedMet enc Tryd.prog Tryd.f3 (OpenSpec.ofChange Rows.topoKeepsSpec) false w args)
      (Rows.topoKeepsSpec.post enc Tryd.prog Tryd.f3 false true false false) := by
  refine law_lifted (enc := enc) os started Rows.topoKeepsSpec 3 Tryd.f3 Tryd.func3 (by kernel_rfl) ?_ rfl rfl ?_
    (ChangeSpec.witness_shaped (enc := enc) (C := Tryd.checked) (os := os) (X := fun w _ => laidMetH Tryd.prog theTab w) false (World.doorLaid Tryd.prog 400 os) #[.slice none 0 0, .agg #[.int .i64 0, .int .i64 0]] 8 rfl (World.shaped_of_RefB (by kernel_rfl) (by kernel_rfl)) (by kernel_rfl) (by kernel_rfl) (by kernel_rfl) (door_met os _)) ?_
  · rw [Tryd.params3]
    intro t ht
    simp only [List.mem_cons, List.not_mem_nil, or_false] at ht
    rcases ht with rfl | rfl <;> exact ⟨by kernel_rfl, of_decide_eq_true (by kernel_rfl)⟩
  · intro ds hd
    rw [Tryd.params3] at hd
    match ds, hd with
    | [d0, d1], _ => rfl
  · intro W base args ds p hval hA hlt hT
    rw [Tryd.params3] at hA hval
    obtain ⟨v0, v1, d0, d1, p0, p1, rfl, rfl, rfl, h0, h1⟩ := trodAll_two hA
    obtain ⟨A, n, cap, l, rfl, hn, hm, hE⟩ := open_edges (hval 0 _ v0 rfl rfl) h0
    obtain ⟨a, b, rfl⟩ := open_edge (hval 1 _ v1 rfl rfl) h1
    exact topoKeeps_any A n cap l a b W hT hn hm hE

theorem topoKeeps_holds : Rows.TopoKeepsSaid :=
  OpenClaim.holds_of_wide 3 Tryd.f3 rfl rfl rfl rfl rfl rfl rfl ⟨rfl, rfl, rfl, rfl, rfl⟩ rfl rfl rfl rfl rfl (by kernel_rfl) Tryd.func3 (by kernel_rfl)
    (of_decide_eq_true (by kernel_rfl)) (by unfold Func.isWrapper; rw [if_neg (of_decide_eq_false (by kernel_rfl))]; exact ⟨rfl, rfl⟩)
    (fun os started H enc _ => topoKeeps_lifted os started H enc)

set_option maxRecDepth 100000 in
theorem topoKeeps_card : Rows.TopoKeepsCardSaid :=
  Claim7.holds_tied_plain_at .later [] [.data] true (true, Rows.topoKeepsCard.stood.harness.2) false
    topoKeeps_holds (fun _ h => by cases h) (by kernel_rfl) (fun _ h => by cases h) topoKeeps_row_tie rfl ⟨rfl, rfl⟩ (by kernel_rfl) rfl
    (fun f fn hf hfn => by
      obtain rfl : f = 3 := Option.some.inj ((show Tryd.prog.funcNamed "warpbeam/warpbeamlaw04.TopoKeeps" = some 3 by kernel_rfl).symm.trans hf) |>.symm
      obtain rfl : fn = Tryd.f3 := (Option.some.inj (Tryd.func3.symm.trans hfn)).symm
      exact ⟨by kernel_rfl, fun j t ht => by
        rw [Tryd.params3] at ht
        have h := List.mem_of_getElem? (show ([22, 24] : List Nat)[j]? = some t by simpa using ht)
        simp only [List.mem_cons, List.not_mem_nil, or_false] at h
        rcases h with rfl | rfl <;> exact (show Tryd.prog.wantsStandIn _ = false by kernel_rfl)⟩)
    (by kernel_rfl)
#print axioms topoKeeps_card
end Go.Proofs.YteclmkmemecckaaDoor
