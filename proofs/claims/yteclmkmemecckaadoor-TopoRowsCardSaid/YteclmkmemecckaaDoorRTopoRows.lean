/- TopoRows: a row has each node once, and each at its place. For every input; the arguments read as before. The listed table is the library's. -/
import Derived.Test.YteclmkmemecckaaDoorWrows
import Derived.Test.YteclmkmemecckaaDoorRow
namespace Go.Proofs.YteclmkmemecckaaDoor
open Go.ChangeShapes Go.WideShapes Go.ChangeAt Go.WideElems Go.RowKit Go.Deep Wb

set_option maxRecDepth 100000 in
theorem topoRows_lifted (os : Os) (started : os.Started) (H : Type) (enc : TypeId × Value → H) :
    ReturnsInHanded {} Tryd.checked os 4 .any (fun w args => (Rows.topoRowsSpec.pre enc Tryd.prog Tryd.f4 [] false w args ∧ laidMetH Tryd.prog theTab w) ∧ sizedMet enc Tryd.prog Tryd.f4 (OpenSpec.ofChange Rows.topoRowsSpec) false w args)
      (Rows.topoRowsSpec.post enc Tryd.prog Tryd.f4 false true false false) := by
  refine law_lifted (enc := enc) os started Rows.topoRowsSpec 4 Tryd.f4 Tryd.func4 (by kernel_rfl) ?_ rfl rfl ?_
    (ChangeSpec.witness_shaped (enc := enc) (C := Tryd.checked) (os := os) (X := fun w _ => laidMetH Tryd.prog theTab w) false (World.doorLaid Tryd.prog 400 os) #[.agg #[.int .i64 0, .int .i64 0, .int .i64 0, .int .i64 0, .int .i64 0, .int .i64 0, .int .i64 0, .int .i64 0, .int .i64 0, .int .i64 0, .int .i64 0, .int .i64 0, .int .i64 0, .int .i64 0, .int .i64 0, .int .i64 0, .int .i64 0, .int .i64 0, .int .i64 0, .int .i64 0, .int .i64 0, .int .i64 0, .int .i64 0, .int .i64 0, .int .i64 0, .int .i64 0, .int .i64 0, .int .i64 0, .int .i64 0, .int .i64 0, .int .i64 0, .int .i64 0]] 8 rfl (World.shaped_of_RefB (by kernel_rfl) (by kernel_rfl)) (by kernel_rfl) (by kernel_rfl) (by kernel_rfl) (door_met os _)) ?_
  · rw [Tryd.params4]
    intro t ht
    simp only [List.mem_cons, List.not_mem_nil, or_false] at ht
    subst ht; exact ⟨by kernel_rfl, of_decide_eq_true (by kernel_rfl)⟩
  · intro ds hd
    rw [Tryd.params4] at hd
    match ds, hd with
    | [d0], _ => rfl
  · intro W base args ds p hval hA hlt hT
    rw [Tryd.params4] at hA hval
    obtain ⟨v0, d0, rfl, rfl, h0⟩ := trodAll_one hA
    obtain ⟨o, rfl⟩ := open_order (hval 0 _ v0 rfl rfl) h0
    exact topoRows_any o W hT

theorem topoRows_holds : Rows.TopoRowsSaid :=
  OpenClaim.holds_of_wide 4 Tryd.f4 rfl rfl rfl rfl rfl rfl rfl ⟨rfl, rfl, rfl, rfl, rfl⟩ rfl rfl rfl rfl rfl (by kernel_rfl) Tryd.func4 (by kernel_rfl)
    (of_decide_eq_true (by kernel_rfl)) (by unfold Func.isWrapper; rw [if_neg (of_decide_eq_false (by kernel_rfl))]; exact ⟨rfl, rfl⟩)
    (fun os started H enc _ => topoRows_lifted os started H enc)

set_option maxRecDepth 100000 in
theorem topoRows_card : Rows.TopoRowsCardSaid :=
  Claim7.holds_tied_plain_at .later [] [.data] true (true, Rows.topoRowsCard.stood.harness.2) false
    topoRows_holds (fun _ h => by cases h) (by kernel_rfl) (fun _ h => by cases h) topoRows_row_tie rfl ⟨rfl, rfl⟩ (by kernel_rfl) rfl
    (fun f fn hf hfn => by
      obtain rfl : f = 4 := Option.some.inj ((show Tryd.prog.funcNamed "warpbeam/warpbeamlaw04.TopoRows" = some 4 by kernel_rfl).symm.trans hf) |>.symm
      obtain rfl : fn = Tryd.f4 := (Option.some.inj (Tryd.func4.symm.trans hfn)).symm
      exact ⟨by kernel_rfl, fun j t ht => by
        rw [Tryd.params4] at ht
        have h := List.mem_of_getElem? (show ([36] : List Nat)[j]? = some t by simpa using ht)
        simp only [List.mem_cons, List.not_mem_nil, or_false] at h
        subst h; exact (show Tryd.prog.wantsStandIn _ = false by kernel_rfl)⟩)
    (by kernel_rfl)
#print axioms topoRows_card
end Go.Proofs.YteclmkmemecckaaDoor
