/- TopoAgain: an edge that is there already changes nothing. For every input; the arguments read as before. The listed table is the library's. -/
import Derived.Test.YteclmkmemecckaaDoorWagain
import Derived.Test.YteclmkmemecckaaDoorRowE
namespace Go.Proofs.YteclmkmemecckaaDoor
open Go.ChangeShapes Go.WideShapes Go.ChangeAt Go.WideElems Go.RowKit Go.Deep Wb

set_option maxRecDepth 100000 in
theorem topoAgain_lifted (os : Os) (started : os.Started) (H : Type) (enc : TypeId × Value → H) :
    ReturnsInHanded {} Tryd.checked os 5 .any (fun w args => (Rows.topoAgainSpec.pre enc Tryd.prog Tryd.f5 [] false w args ∧ laidMetH Tryd.prog theTab w) ∧ sizedMet enc Tryd.prog Tryd.f5 (OpenSpec.ofChange Rows.topoAgainSpec) false w args)
      (Rows.topoAgainSpec.post enc Tryd.prog Tryd.f5 false true false false) := by
  refine law_lifted (enc := enc) os started Rows.topoAgainSpec 5 Tryd.f5 Tryd.func5 (by kernel_rfl) ?_ rfl rfl ?_
    (ChangeSpec.witness_shaped (enc := enc) (C := Tryd.checked) (os := os) (X := fun w _ => laidMetH Tryd.prog theTab w) false (World.doorLaid Tryd.prog 400 os) #[.slice none 0 0, .int .u8 0] 8 rfl (World.shaped_of_RefB (by kernel_rfl) (by kernel_rfl)) (by kernel_rfl) (by kernel_rfl) (by kernel_rfl) (door_met os _)) ?_
  · rw [Tryd.params5]
    intro t ht
    simp only [List.mem_cons, List.not_mem_nil, or_false] at ht
    rcases ht with rfl | rfl <;> exact ⟨by kernel_rfl, of_decide_eq_true (by kernel_rfl)⟩
  · intro ds hd
    rw [Tryd.params5] at hd
    match ds, hd with
    | [d0, d1], _ => rfl
  · intro W base args ds p hval hA hlt hT
    rw [Tryd.params5] at hA hval
    obtain ⟨v0, v1, d0, d1, p0, p1, rfl, rfl, rfl, h0, h1⟩ := trodAll_two hA
    obtain ⟨A, n, cap, l, rfl, hn, hm, hE⟩ := open_edges (hval 0 _ v0 rfl rfl) h0
    obtain ⟨at_, rfl, _, _, hw⟩ := open_int Tryd.underlying5 (hval 1 _ v1 rfl rfl) h1
    exact topoAgain_any A n cap l at_ W hT hn hm (u8_range hw) hE

theorem topoAgain_holds : Rows.TopoAgainSaid :=
  OpenClaim.holds_of_wide 5 Tryd.f5 rfl rfl rfl rfl rfl rfl rfl ⟨rfl, rfl, rfl, rfl, rfl⟩ rfl rfl rfl rfl rfl (by kernel_rfl) Tryd.func5 (by kernel_rfl)
    (of_decide_eq_true (by kernel_rfl)) (by unfold Func.isWrapper; rw [if_neg (of_decide_eq_false (by kernel_rfl))]; exact ⟨rfl, rfl⟩)
    (fun os started H enc _ => topoAgain_lifted os started H enc)

set_option maxRecDepth 100000 in
theorem topoAgain_card : Rows.TopoAgainCardSaid :=
  Claim7.holds_tied_plain_at .later [] [.data] true (true, Rows.topoAgainCard.stood.harness.2) false
    topoAgain_holds (fun _ h => by cases h) (by kernel_rfl) (fun _ h => by cases h) topoAgain_row_tie rfl ⟨rfl, rfl⟩ (by kernel_rfl) rfl
    (fun f fn hf hfn => by
      obtain rfl : f = 5 := Option.some.inj ((show Tryd.prog.funcNamed "warpbeam/warpbeamlaw04.TopoAgain" = some 5 by kernel_rfl).symm.trans hf) |>.symm
      obtain rfl : fn = Tryd.f5 := (Option.some.inj (Tryd.func5.symm.trans hfn)).symm
      exact ⟨by kernel_rfl, fun j t ht => by
        rw [Tryd.params5] at ht
        have h := List.mem_of_getElem? (show ([22, 5] : List Nat)[j]? = some t by simpa using ht)
        simp only [List.mem_cons, List.not_mem_nil, or_false] at h
        rcases h with rfl | rfl <;> exact (show Tryd.prog.wantsStandIn _ = false by kernel_rfl)⟩)
    (by kernel_rfl)
#print axioms topoAgain_card
end Go.Proofs.YteclmkmemecckaaDoor
